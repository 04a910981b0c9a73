/- The table's children lists and last serial; the first free number. -/
import Derived.Test.YtdogpkcalflhbaaC9
set_option linter.unusedSimpArgs false
set_option linter.unusedVariables false
namespace Go.Proofs.Ytdogpkcalflhbaa
open Go.RowKit

def Lay.kids (L : Lay) (n : Nat) (v : Value) : Lay := { L with kv := fun m => if m = n then v else L.kv m, F := fun k => if v.ownBlock = some k then some (.kids n) else L.F k }
section
variable {w w' : World} {b : Nat} {L : Lay} {T : Tb}
theorem own_lt {w : World} {base : Nat} {e : TypeId} {size n : Nat} {v : Value} {X : List Value} (h : w.ownsRow base e size v n X) {g : Nat} (hg : v.ownBlock = some g) : g < w.heap.size := by
  rcases h.2 with ⟨rfl, _⟩ | ⟨g', cap, cur, rfl, hb, hh, r⟩
  · cases hg
  · simp only [Value.ownBlock, Option.some.injEq] at hg; subst hg; exact lt_of_block hh
theorem TabAt.setKids (h : TabAt w b L T) {n : Nat} {r : Rec} (hn : T.live n = some r) {l : List Nat} {v : Value} (hf : Fr (fun k => (L.kv n).ownBlock = some k) w w') (hown : w'.ownsRow 0 3 1 v l.length (kidv l))
    (hb : ∀ g, v.ownBlock = some g → (L.kv n).ownBlock = some g ∨ L.F g = none) : TabAt (w'.setCell ⟨L.rb n, 30, none⟩ v) b (L.kids n v) (T.set n { r with kids := l }) := by
  have F1 : ∀ {k t}, L.F k = some t → t ≠ .kids n → (L.kids n v).F k = some t := fun {k t} e ht => by
    simp only [Lay.kids]
    rw [if_neg (fun e2 => by
      rcases hb k e2 with h1 | h1
      · rw [h.fkb n r k hn h1] at e; exact ht (by simpa using e.symm)
      · rw [h1] at e; cases e)]
    exact e
  have ne1 : ∀ {k t}, L.F k = some t → t ≠ .kids n → ¬ ((L.kv n).ownBlock = some k) := fun {k t} e ht hx => by
    rw [h.fkb n r k hn hx] at e; exact ht (by simpa using e.symm)
  have hrb := h.frb n r hn
  have ne2 : ∀ {k t}, L.F k = some t → t ≠ .record n → ¬ One (L.rb n) k := fun {k t} e ht (hx : k = L.rb n) => by
    subst hx; rw [hrb] at e; exact ht (by simpa using e.symm)
  have go : ∀ {k t o}, L.F k = some t → t ≠ .kids n → t ≠ .record n → w.heap[k]? = some o → (w'.setCell ⟨L.rb n, 30, none⟩ v).heap[k]? = some o := fun {k t o} e h1 h2 ho => (Fr.set1 _ _ _ _).heap (hf.heap ho (ne1 e h1)) (ne2 e h2)
  obtain ⟨cnt, htb⟩ := h.htb
  obtain ⟨C, hC, hsz, hc⟩ := h.hcb
  refine ⟨F1 h.fb (by simp), F1 h.ftb (by simp), F1 h.fcb (by simp), fun m s hm => ?_, fun m s g hm hg => ?_, fun k hk => ?_, go h.fb (by simp) (by simp) h.hb, ⟨cnt, go h.ftb (by simp) (by simp) htb⟩, ⟨C, go h.fcb (by simp) (by simp) hC, hsz, fun m hm => ?_⟩, fun m s hm => ?_, fun m s hm => ?_, fun m s hm => ?_, h.low16⟩
  · rcases Tb.set_get hm with ⟨rfl, rfl⟩ | ⟨e, hm⟩
    · exact F1 hrb (by simp)
    · exact F1 (h.frb m s hm) (by simp)
  · rcases Tb.set_get hm with ⟨rfl, rfl⟩ | ⟨e, hm⟩
    · simp only [Lay.kids, if_true] at hg ⊢
      rw [if_pos hg]
    · simp only [Lay.kids] at hg
      rw [if_neg e] at hg
      exact F1 (h.fkb m s g hm hg) (by simpa using e)
  · by_cases e : v.ownBlock = some k
    · simpa using own_lt hown e
    · have : Own L k := by unfold Own at hk ⊢; simp only [Lay.kids] at hk; rw [if_neg e] at hk; exact hk
      have := h.flt k this
      have := hf.size
      simp
      omega
  · obtain ⟨c1, c2⟩ := hc m hm
    refine ⟨by rw [Tb.set_some hn]; exact c1, c2.trans ?_⟩
    unfold recptr
    by_cases e : m = n
    · subst e; rw [T.set_same, hn]; rfl
    · rw [T.set_other _ e]; rfl
  · rcases Tb.set_get hm with ⟨rfl, rfl⟩ | ⟨e, hm⟩
    · have h1 := heap_setCell_same w' (L.rb m) 30 _ _ v (hf.heap (h.hrb m r hn) (ne1 hrb (by simp)))
      simp only [Lay.kids, if_true]
      rw [h1]
      rfl
    · simp only [Lay.kids]
      rw [if_neg e]
      exact go (h.frb m s hm) (by simp) (by simpa using e) (h.hrb m s hm)
  · rcases Tb.set_get hm with ⟨rfl, rfl⟩ | ⟨e, hm⟩
    · simp only [Lay.kids, if_true]
      refine own_fr hown (Fr.set1 _ _ _ _) fun g hg => ?_
      rcases hb g hg with h1 | h1
      · exact ne2 (h.fkb m r g hn h1) (by simp)
      · exact fun (hx : g = L.rb m) => by rw [hx, hrb] at h1; cases h1
    · simp only [Lay.kids]
      rw [if_neg e]
      exact own_fr (own_fr (h.hkb m s hm) hf fun g hg => ne1 (h.fkb m s g hm hg) (by simpa using e)) (Fr.set1 _ _ _ _) fun g hg => ne2 (h.fkb m s g hm hg) (by simp)
  · rcases Tb.set_get hm with ⟨rfl, rfl⟩ | ⟨e, hm⟩
    · exact h.lt16 m r hn
    · exact h.lt16 m s hm
theorem TabAt.setLast (h : TabAt w b L T) (x : Int) : TabAt (w.setCell ⟨b, 1, none⟩ (.int .i64 x)) b L { T with last := x } := by
  have ne : ∀ {k t}, L.F k = some t → t ≠ .table → ¬ One b k := fun {k t} e h1 hx => by
    have e2 : k = b := hx
    rw [e2, h.fb] at e; exact h1 (by simpa using e.symm)
  have hf := Fr.set1 w b 1 (.int .i64 x)
  obtain ⟨C, hC, hsz, hc⟩ := h.hcb
  obtain ⟨cnt, htb⟩ := h.htb
  exact ⟨h.fb, h.ftb, h.fcb, h.frb, h.fkb, fun k hk => Nat.lt_of_lt_of_le (h.flt k hk) hf.size, heap_setCell_same _ _ _ _ _ _ h.hb, ⟨cnt, hf.heap htb (ne h.ftb (by simp))⟩, ⟨C, hf.heap hC (ne h.fcb (by simp)), hsz, hc⟩,
    fun n r hn => hf.heap (h.hrb n r hn) (ne (h.frb n r hn) (by simp)), fun n r hn => own_fr (h.hkb n r hn) hf fun g hg => ne (h.fkb n r g hn hg) (by simp), h.lt16, h.low16⟩
end

/-- The first free number from the hint on. -/
def Tb.firstFree (T : Tb) : Option Nat := (List.range 16).find? fun n => decide (T.low ≤ n) && (T.live n).isNone
theorem find_range {p : Nat → Bool} : ∀ (N : Nat), (∀ n, (List.range N).find? p = some n → n < N ∧ p n = true ∧ ∀ m, m < n → p m = false) ∧ ((List.range N).find? p = none → ∀ m, m < N → p m = false)
  | 0 => ⟨fun n h => by simp at h, fun _ m hm => by omega⟩
  | N + 1 => by
    obtain ⟨h1, h2⟩ := find_range (p := p) N
    rw [List.range_succ, List.find?_append]
    cases hN : (List.range N).find? p with
    | some k =>
      obtain ⟨a, b, c⟩ := h1 k hN
      exact ⟨fun n hn => by simp at hn; subst hn; exact ⟨by omega, b, c⟩, fun h => by simp at h⟩
    | none =>
      have h3 := h2 hN
      by_cases hp : p N = true
      · refine ⟨fun n hn => ?_, fun h => by simp [hp] at h⟩
        simp [hp] at hn
        subst hn
        exact ⟨by omega, hp, h3⟩
      · refine ⟨fun n hn => by simp [hp] at hn, fun _ m hm => ?_⟩
        by_cases e : m < N
        · exact h3 m e
        · obtain rfl : m = N := by omega
          simpa using hp
theorem firstFree_some {T : Tb} {n : Nat} (h : T.firstFree = some n) : T.low ≤ n ∧ n < 16 ∧ T.live n = none ∧ ∀ m, T.low ≤ m → m < n → (T.live m).isSome = true := by
  obtain ⟨h1, h2, h3⟩ := (find_range 16).1 n h
  simp only [Bool.and_eq_true, decide_eq_true_eq, Option.isNone_iff_eq_none] at h2
  refine ⟨h2.1, h1, h2.2, fun m hm hlt => ?_⟩
  have := h3 m hlt
  simp only [Bool.and_eq_false_iff, decide_eq_false_iff_not] at this
  rcases this with h4 | h4
  · exact absurd hm h4
  · cases hl : T.live m with
    | none => rw [hl] at h4; simp at h4
    | some r => rfl
theorem firstFree_none {T : Tb} (h : T.firstFree = none) : ∀ m, T.low ≤ m → m < 16 → (T.live m).isSome = true := fun m hm hlt => by
  have := (find_range 16).2 h m hlt
  simp only [Bool.and_eq_false_iff, decide_eq_false_iff_not] at this
  rcases this with h4 | h4
  · exact absurd hm h4
  · cases hl : T.live m with
    | none => rw [hl] at h4; simp at h4
    | some r => rfl

def Tb.create (T : Tb) (p serial : Int) (q : Qt) : Tb × Int × Int := match T.at p with
  | none => (T, -1, 90)
  | some r =>
    if goodB q = false ∨ serial ≤ T.last ∨ 4611686018427387903 < serial then (T, -1, 1)
    else if fitB q.child r.left = false then (T, -1, 2)
    else match T.firstFree with
      | none => ({ T with low := 16 }, -1, 2)
      | some n => ({ (T.add n (Rec.new serial p q)).set p.toNat { r with carved := r.carved.plus q.child, kids := r.kids ++ [n] } with last := serial }, n, 0)
/-- What a call that may move blocks leaves. -/
def Moved (w : World) (b : Nat) (L : Lay) (T' : Tb) (w' : World) : Prop := ∃ L', TabAt w' b L' T' ∧ Fr (Own L) w w' ∧ ∀ k, Own L' k → Own L k ∨ w.heap.size ≤ k
theorem Left.moved {w : World} {b : Nat} {L : Lay} {T' : Tb} {w' : World} (h : Left w b L T' w') : Moved w b L T' w' := ⟨L, h.tab, h.fr, fun _ h => .inl h⟩
end Go.Proofs.Ytdogpkcalflhbaa
