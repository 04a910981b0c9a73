/- rows: slices of sectors in new memory; raws. -/
import Derived.Test.YtppllhdocajfiaaA2
set_option linter.unusedSimpArgs false
set_option linter.unusedVariables false
namespace Go.Proofs.Ytppllhdocajfiaa
open Go.RowKit

theorem own_fr {w w' : World} {base : Nat} {e : TypeId} {k n : Nat} {v : Value} {L : List Value} {S : Nat → Prop} (h : w.ownsRow base e k v n L) (hf : Fr S w w') (hS : ∀ g, v.ownBlock = some g → ¬ S g) : w'.ownsRow base e k v n L := by
  refine ⟨h.1, h.2.imp id fun ⟨g, c, cu, h1, h2, h3, r⟩ => ⟨g, c, cu, h1, h2, hf.heap h3 (hS g (by rw [h1]; rfl)), r⟩⟩

def RowAt (wr : World) (v : Value) (P : Nat → Prop) (X : List UInt8) : Prop :=
  X.length = 128 ∧ ∃ g, v = .slice (some ⟨g, 0, none⟩) 128 128 ∧ P g ∧ wr.heap[g]? = some (.cells (X.map bv).toArray 5 (0, 0))
theorem RowAt.fr {wr w' : World} {v : Value} {P P' : Nat → Prop} {X : List UInt8} {S : Nat → Prop} (h : RowAt wr v P X) (hf : Fr S wr w') (hS : ∀ g, P g → ¬ S g) (hP : ∀ g, g < wr.heap.size → P g → P' g) : RowAt w' v P' X := by
  obtain ⟨hX, g, rfl, hp, hh⟩ := h
  exact ⟨hX, g, rfl, hP g (lt_of_block hh) hp, hf.heap hh (hS g hp)⟩
def RowsAt (wr : World) (P : Nat → Prop) (vals : List Value) (Xs : List (List UInt8)) : Prop :=
  vals.length = Xs.length ∧ ∀ (j : Nat) (X : List UInt8) (v : Value), Xs[j]? = some X → vals[j]? = some v → RowAt wr v P X

/-- A list of rows under way: its block and its rows new since w0. -/
structure PushSt (w0 wr : World) (v : Value) (j : Nat) (Xs : List (List UInt8)) (vals : List Value) : Prop where
  own : wr.ownsRow w0.heap.size 34 1 v j vals
  rows : RowsAt wr (fun g => w0.heap.size ≤ g) vals Xs
  fr : Fr No w0 wr

theorem PushSt.nil (w0 : World) : PushSt w0 w0 (.slice none 0 0) 0 [] [] := ⟨World.ownsRow_nil w0 _ 34 1, ⟨rfl, fun j X v h => by simp at h⟩, Fr.refl _ _⟩

theorem PushSt.step {w0 wr w1 w3 : World} {v v' : Value} {j g : Nat} {Xs : List (List UInt8)} {vals : List Value} {X : List UInt8} {o : Obj} (h : PushSt w0 wr v j Xs vals) (hf : Fr No wr w1) (hg : wr.heap.size ≤ g) (hX : X.length = 128)
    (hh : w1.heap[g]? = some (.cells (X.map bv).toArray 5 (0, 0))) (hown : w3.ownsRow w0.heap.size 34 1 v' (j + 1) (vals ++ [.slice (some ⟨g, 0, none⟩) 128 128])) (hgr : (w1.alloc o).grownBy w3 v.ownBlock) :
    PushSt w0 w3 v' (j + 1) (Xs ++ [X]) (vals ++ [.slice (some ⟨g, 0, none⟩) 128 128]) := by
  have hA : Fr No wr (w1.alloc o) := hf.alloc o
  have hs0 := h.fr.size
  have hrow : ∀ k, v.ownBlock = some k → w0.heap.size ≤ k ∧ ∃ cur, wr.heap[k]? = some (.cells cur 34 (0, 0)) := fun k hk => by
    rcases h.own.2 with ⟨rfl, _⟩ | ⟨g', cap, cur, rfl, hb, hh', _⟩
    · simp [Value.ownBlock] at hk
    · obtain rfl : g' = k := by simpa [Value.ownBlock] using hk
      exact ⟨hb, cur, hh'⟩
  have keep : ∀ (k : Nat) (cs : Array Value), (w1.alloc o).heap[k]? = some (.cells cs 5 (0, 0)) → w3.heap[k]? = some (.cells cs 5 (0, 0)) := fun k cs hk => by
    rw [hgr.block k (lt_of_block hk) ?_]
    · exact hk
    · intro e
      obtain ⟨_, cur, hcur⟩ := hrow k e.symm
      rw [hA.heap hcur id] at hk
      simp at hk
  have hg1 : (w1.alloc o).heap[g]? = some (.cells (X.map bv).toArray 5 (0, 0)) := ((Fr.refl No w1).alloc o).heap hh id
  refine ⟨hown, ⟨by simp [h.rows.1], fun i Y u hY hu => ?_⟩, Fr.grown (h.fr.trans hA) hgr fun k hk => .inr (hrow k hk).1⟩
  by_cases hi : i < Xs.length
  · rw [List.getElem?_append_left hi] at hY
    rw [List.getElem?_append_left (by rw [h.rows.1]; exact hi)] at hu
    obtain ⟨hY128, g', rfl, hp, hh'⟩ := h.rows.2 i Y u hY hu
    exact ⟨hY128, g', rfl, hp, keep _ _ (hA.heap hh' id)⟩
  · have hi' : i = Xs.length := by
      have := (List.getElem?_eq_some_iff.1 hY).1
      simp at this; omega
    subst hi'
    have e1 : X = Y := by simpa using hY
    have e2 : Value.slice (some ⟨g, 0, none⟩) 128 128 = u := by rw [← h.rows.1] at hu; simpa using hu
    subst e1; subst e2
    exact ⟨hX, g, rfl, by omega, keep _ _ hg1⟩

/-- A slice of rows, none of them the disk's. -/
def RowsK (w wr : World) (c : Nat) (v : Value) (Xs : List (List UInt8)) : Prop :=
  ∃ vals, LAt wr v vals ∧ (∀ g, v.ownBlock = some g → g < wr.heap.size ∧ g ≠ w.heap.size ∧ g ≠ c) ∧ RowsAt wr (fun g => g ≠ w.heap.size ∧ g ≠ c) vals Xs

theorem PushSt.rowsK {w w0 wr : World} {v : Value} {j c : Nat} {Xs : List (List UInt8)} {vals : List Value} (h : PushSt w0 wr v j Xs vals) (hb : w.heap.size < w0.heap.size) (hc : c < w0.heap.size) : RowsK w wr c v Xs := by
  obtain ⟨h1, _, h3⟩ := LAt.of_own h.own
  refine ⟨vals, h1, fun g hg => ⟨?_, ?_, ?_⟩, h.rows.1, fun i X u hX hu => ?_⟩
  · rcases h.own.2 with ⟨rfl, _⟩ | ⟨g', cap, cur, rfl, _, hh', _⟩
    · simp [Value.ownBlock] at hg
    · obtain rfl : g' = g := by simpa [Value.ownBlock] using hg
      exact lt_of_block hh'
  · have := h3 g hg; omega
  · have := h3 g hg; omega
  · obtain ⟨hX1, g', rfl, hp, hh⟩ := h.rows.2 i X u hX hu
    exact ⟨hX1, g', rfl, ⟨by omega, by omega⟩, hh⟩

theorem RowsK.step {w wr w' : World} {c c' : Nat} {v : Value} {Xs : List (List UInt8)} (h : RowsK w wr c v Xs) (hf : Fr (Two w.heap.size c) wr w') (hc : c' = c ∨ c' = w.heap.size ∨ wr.heap.size ≤ c') : RowsK w w' c' v Xs := by
  obtain ⟨vals, h1, h2, h3, h4⟩ := h
  have hs := hf.size
  refine ⟨vals, h1.fr hf fun g _ hg => Two.not (h2 g hg).2.1 (h2 g hg).2.2, fun g hg => ?_, h3, fun i X u hX hu => (h4 i X u hX hu).fr hf (fun g hg => Two.not hg.1 hg.2) fun g hg hp => ?_⟩
  · have := h2 g hg; omega
  · have : g ≠ w.heap.size ∧ g ≠ c := hp
    exact ⟨by omega, by omega⟩
theorem RowsK.no {w wr w' : World} {c : Nat} {v : Value} {Xs : List (List UInt8)} (h : RowsK w wr c v Xs) (hf : Fr No wr w') : RowsK w w' c v Xs := h.step (hf.mono fun _ _ h => False.elim h) (.inl rfl)
theorem RowsK.step1 {w wr w' : World} {c c' : Nat} {v : Value} {Xs : List (List UInt8)} (h : RowsK w wr c v Xs) (hf : Fr (One w.heap.size) wr w') (hc : c' = c ∨ c' = w.heap.size ∨ wr.heap.size ≤ c') : RowsK w w' c' v Xs := h.step hf.one_two hc

theorem RowsK.len {w wr : World} {c : Nat} {v : Value} {Xs : List (List UInt8)} (h : RowsK w wr c v Xs) : ∃ a cap, v = .slice a Xs.length cap := by
  obtain ⟨vals, h1, h2, h3, h4⟩ := h
  obtain ⟨a, cap, rfl, _⟩ := h1.len
  exact ⟨a, cap, by rw [h3]⟩
theorem RowsK.get {w wr : World} {c n cap : Nat} {a : Option Addr} {Xs : List (List UInt8)} (h : RowsK w wr c (.slice a n cap) Xs) {j : Nat} {X : List UInt8} (hX : Xs[j]? = some X) :
    ∃ g o g', a = some ⟨g, o, none⟩ ∧ (∀ w', Fr No wr w' → w'.cell? ⟨g, o + j, none⟩ = some (.slice (some ⟨g', 0, none⟩) 128 128) ∧ LAt w' (.slice (some ⟨g', 0, none⟩) 128 128) (X.map bv)) ∧ (wr.heap[g']? = some (.cells (X.map bv).toArray 5 (0, 0)) ∧ g' < wr.heap.size ∧ g' ≠ w.heap.size ∧ g' ≠ c) := by
  obtain ⟨vals, h1, h2, h3, h4⟩ := h
  have hj := (List.getElem?_eq_some_iff.1 hX).1
  obtain ⟨u, hu⟩ : ∃ u, vals[j]? = some u := ⟨_, List.getElem?_eq_getElem (by omega)⟩
  obtain ⟨hX1, g', rfl, hp, hh⟩ := h4 j X u hX hu
  rcases h1 with ⟨h1, h1'⟩ | ⟨a', cap', h1, hc, hs⟩
  · subst h1'; simp at hu
  · obtain ⟨g, o, rfl, hseg⟩ := hs (by omega)
    simp only [Value.slice.injEq] at h1
    obtain ⟨rfl, _, rfl⟩ := h1
    refine ⟨g, o, g', rfl, fun w' hf => ⟨?_, ?_⟩, hh, lt_of_block hh, hp⟩
    · exact (hseg.keep (hf.block g (hseg.lt (by omega)) id)) j _ hu
    · have hh' := hf.heap hh id
      exact .inr ⟨⟨g', 0, none⟩, 128, by rw [List.length_map, hX1], by rw [List.length_map, hX1]; exact Nat.le_refl _, fun _ => ⟨g', 0, rfl, SegAt.of_block hh' fun i u hu => by simpa using hu⟩⟩

theorem Try.info34 : (Try.prog.info? 34).map (fun i => (i.zero, i.size, i.bytes)) = some (some (.slice none 0 0), 1, 24) := by kernel_rfl
end Go.Proofs.Ytppllhdocajfiaa
