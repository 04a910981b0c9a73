/- Words that the walks of this seat share: a frame of blocks that may have changed, a disk in memory, and plain lemmas on lists. No program in sight. -/
import Derived.WalkKit
import Derived.WalkLawsBesides
import Derived.WalkSpells
import Derived.Lib.Hide
import Derived.BigQuiet
import Derived.Deep.QuietTactic
import Derived.Deep.AppendLies
import Derived.Deep.RegionLaw
import Derived.Laws.CopyOwn
import Derived.Test.YtdogpkcalflhbaaG
import Derived.Deep.LoopGhost
import Derived.Deep.RegionWith
import Derived.Deep.RegionHeld3
import Derived.Deep.RegionLawGrows
import Derived.StillTailTactics
import Derived.Deep.DeepFit
import Derived.Deep.DeepCutAuto
import Derived.Deep.Light
set_option linter.unusedSimpArgs false
set_option linter.unusedVariables false
namespace Go.Proofs.Ytdogpkcalflhbaa
open Go.RowKit

/-- Outside S, of what was there, nothing has changed. -/
structure Fr (S : Nat → Prop) (w w' : World) : Prop where
  os : w'.os = w.os
  tape : w'.tape = w.tape
  output : w'.output = w.output
  size : w.heap.size ≤ w'.heap.size
  block : ∀ k, k < w.heap.size → ¬ S k → w'.heap[k]? = w.heap[k]?

/-- The walk stops here. -/
def Stop (p : Prop) : Prop := p
theorem Stop.mk {p : Prop} (h : Stop p) : p := h
theorem Stop.go {p : Prop} (h : p) : Stop p := h

def No : Nat → Prop := fun _ => False
def One (b : Nat) : Nat → Prop := fun k => k = b
def Two (b c : Nat) : Nat → Prop := fun k => k = b ∨ k = c

theorem Fr.refl (S : Nat → Prop) (w : World) : Fr S w w := ⟨rfl, rfl, rfl, Nat.le_refl _, fun _ _ _ => rfl⟩
theorem Fr.mono {S T : Nat → Prop} {w w' : World} (h : Fr S w w') (hst : ∀ k, k < w.heap.size → S k → T k) : Fr T w w' :=
  ⟨h.os, h.tape, h.output, h.size, fun k hk hn => h.block k hk fun hs => hn (hst k hk hs)⟩
theorem Fr.trans {S : Nat → Prop} {a b c : World} (h : Fr S a b) (k : Fr S b c) : Fr S a c :=
  ⟨k.os.trans h.os, k.tape.trans h.tape, k.output.trans h.output, Nat.le_trans h.size k.size, fun i hi hs => (k.block i (Nat.lt_of_lt_of_le hi h.size) hs).trans (h.block i hi hs)⟩
/-- two steps, the second one's blocks known to lie in S or to be new -/
theorem Fr.then {S T : Nat → Prop} {a b c : World} (h : Fr S a b) (k : Fr T b c) (hst : ∀ i, i < a.heap.size → T i → S i) : Fr S a c :=
  ⟨k.os.trans h.os, k.tape.trans h.tape, k.output.trans h.output, Nat.le_trans h.size k.size, fun i hi hs => (k.block i (Nat.lt_of_lt_of_le hi h.size) fun ht => hs (hst i hi ht)).trans (h.block i hi hs)⟩
theorem Fr.drew {S : Nat → Prop} {a w : World} (h : Fr S a w) : Fr S a w.drew := ⟨h.os, h.tape, h.output, h.size, h.block⟩
theorem Fr.drewN {S : Nat → Prop} {a w : World} (h : Fr S a w) (n : Nat) : Fr S a (w.drewN n) := ⟨h.os, h.tape, h.output, h.size, h.block⟩
theorem Fr.alloc {S : Nat → Prop} {a w : World} (h : Fr S a w) (o : Obj) : Fr S a (w.alloc o) :=
  ⟨h.os, h.tape, h.output, by simp; have := h.size; omega, fun k hk hs => by rw [Below.heap_alloc _ _ _ (Nat.lt_of_lt_of_le hk h.size)]; exact h.block k hk hs⟩
theorem Fr.setCell {S : Nat → Prop} {a w : World} (h : Fr S a w) {p : Addr} (hp : S p.block ∨ a.heap.size ≤ p.block) (u : Value) : Fr S a (w.setCell p u) :=
  ⟨h.os, h.tape, h.output, by simp; exact h.size, fun k hk hs => by
    rw [Below.heap_setCell _ _ _ _ (fun e => by rcases hp with hp | hp; exact hs (e ▸ hp); omega)]; exact h.block k hk hs⟩
theorem Fr.put {S : Nat → Prop} {a w : World} (h : Fr S a w) {b : Nat} (hb : S b ∨ a.heap.size ≤ b) (o : Nat) (u : Value) : Fr S a (w.setCell ⟨b, o, none⟩ u) := h.setCell (p := ⟨b, o, none⟩) hb u
theorem One.self (b : Nat) : One b b := rfl
theorem One.not {b k : Nat} (h : k ≠ b) : ¬ One b k := h
theorem Two.left (b c : Nat) : Two b c b := .inl rfl
theorem Two.right (b c : Nat) : Two b c c := .inr rfl
theorem Two.not {b c k : Nat} (h : k ≠ b) (h2 : k ≠ c) : ¬ Two b c k := fun h' => h'.elim h h2
theorem Fr.one_two {b c : Nat} {w w' : World} (h : Fr (One b) w w') : Fr (Two b c) w w' := h.mono fun _ _ e => .inl e
theorem Fr.set1 (w : World) (b o : Nat) (u : Value) : Fr (One b) w (w.setCell ⟨b, o, none⟩ u) := (Fr.refl (One b) w).put (.inl (One.self b)) o u
theorem Fr.below {B : Nat} {w w' : World} (h : Below B w w') : Fr (fun k => B ≤ k) w w' := ⟨h.os, h.tape, h.output, h.size, fun k _ hn => h.block k (by omega)⟩
theorem Fr.of_below {w w' : World} (h : Below w.heap.size w w') : Fr No w w' := ⟨h.os, h.tape, h.output, h.size, fun k hk _ => h.block k hk⟩
theorem Fr.to_below {S : Nat → Prop} {w w' : World} (h : Fr S w w') {B : Nat} (hB : B ≤ w.heap.size) (hS : ∀ k, k < B → ¬ S k) : Below B w w' :=
  ⟨h.os, h.tape, h.output, h.size, fun k hk => h.block k (by omega) (hS k hk)⟩
theorem Fr.grown {S : Nat → Prop} {a w w' : World} {row : Option Nat} (h : Fr S a w) (hg : w.grownBy w' row) (hr : ∀ k, row = some k → S k ∨ a.heap.size ≤ k) : Fr S a w' :=
  ⟨hg.os.trans h.os, hg.tape.trans h.tape, hg.output.trans h.output, Nat.le_trans h.size hg.size, fun k hk hs => by
    rw [hg.block k (Nat.lt_of_lt_of_le hk h.size) (fun e => by rcases hr k e.symm with h1 | h1; exact hs h1; omega)]; exact h.block k hk hs⟩
theorem Fr.heap {S : Nat → Prop} {w w' : World} (h : Fr S w w') {k : Nat} {o : Obj} (hk : w.heap[k]? = some o) (hs : ¬ S k) : w'.heap[k]? = some o := by
  rw [h.block k (lt_of_block hk) hs]; exact hk
theorem Fr.cell {S : Nat → Prop} {w w' : World} (h : Fr S w w') {p : Addr} (hp : p.block < w.heap.size) (hs : ¬ S p.block) : w'.cell? p = w.cell? p := World.cell?_of_block (w := w) (h.block p.block hp hs)

/-- A byte's cell. -/
def bv (x : UInt8) : Value := .int .u8 (x.toNat : Int)
theorem bv_one (x : UInt8) : (bv x).oneCell' = true := rfl

theorem seg_get {X : List UInt8} {t n i : Nat} {v : Value} (h : (((X.drop t).take n).map bv)[i]? = some v) : i < n ∧ t + i < X.length ∧ v = bv (X.getD (t + i) 0) := by
  rw [List.getElem?_map, List.getElem?_take] at h
  split at h
  · rename_i hi
    rw [List.getElem?_drop] at h
    obtain ⟨x, hx, rfl⟩ := Option.map_eq_some_iff.1 h
    obtain ⟨hl, hx'⟩ := List.getElem?_eq_some_iff.1 hx
    exact ⟨hi, hl, by simp [List.getD, hx]⟩
  · simp at h
theorem all_get {X : List UInt8} {i : Nat} {v : Value} (h : (X.map bv)[i]? = some v) : i < X.length ∧ v = bv (X.getD i 0) := by
  rw [List.getElem?_map] at h
  obtain ⟨x, hx, rfl⟩ := Option.map_eq_some_iff.1 h
  obtain ⟨hl, _⟩ := List.getElem?_eq_some_iff.1 hx
  exact ⟨hl, by simp [List.getD, hx]⟩
theorem bvs_one (X : List UInt8) : ∀ v ∈ X.map bv, v.oneCell' = true := by
  intro v hv
  obtain ⟨x, _, rfl⟩ := List.mem_map.1 hv
  rfl
theorem splice_pre {α : Type} (A S cur : List α) (t n : Nat) (ha : A.length = t) (hs : S.length = n) (hc : n ≤ cur.length) : splice (A ++ cur) t S = A ++ S ++ cur.drop n := by
  subst ha; subst hs
  unfold splice
  rw [List.take_left' rfl, ← List.drop_drop, List.drop_left' rfl, List.append_assoc]
theorem splice_seg (X : List UInt8) (cur : List Value) (t n : Nat) (ht : t + n ≤ X.length) (hc : n ≤ cur.length) :
    splice ((X.take t).map bv ++ cur) t (((X.drop t).take n).map bv) = (X.take (t + n)).map bv ++ cur.drop n := by
  rw [splice_pre _ _ _ t n (by simp; omega) (by simp; omega) hc, List.take_add, List.map_append]
theorem addr_add (b o i : Nat) : (⟨b, o, none⟩ : Addr).add i = ⟨b, o + i, none⟩ := by unfold Addr.add; split <;> simp_all

/-! ### A list in memory, an element a cell -/
def LAt (w : World) (v : Value) (L : List Value) : Prop :=
  (v = .slice none 0 0 ∧ L = []) ∨ ∃ a cap, v = .slice (some a) L.length cap ∧ L.length ≤ cap ∧ (0 < L.length → ∃ g o, a = ⟨g, o, none⟩ ∧ SegAt w g o L)

theorem SegAt.lt {w : World} {g o : Nat} {L : List Value} (h : SegAt w g o L) (hl : 0 < L.length) : g < w.heap.size :=
  World.block_lt_of_cell? w ⟨g, o + 0, none⟩ (h 0 _ (List.getElem?_eq_getElem hl))
theorem SegAt.keep {w w' : World} {g o : Nat} {L : List Value} (h : SegAt w g o L) (hk : w'.heap[g]? = w.heap[g]?) : SegAt w' g o L :=
  fun j v hv => (World.cell?_of_block (w := w) hk).trans (h j v hv)
theorem LAt.len {w : World} {v : Value} {L : List Value} (h : LAt w v L) : ∃ a cap, v = .slice a L.length cap ∧ L.length ≤ cap := by
  rcases h with ⟨rfl, rfl⟩ | ⟨a, cap, rfl, hc, _⟩
  · exact ⟨_, _, rfl, Nat.le_refl _⟩
  · exact ⟨_, _, rfl, hc⟩
/-- Nothing that the list lies in has changed. -/
theorem LAt.keep {w w' : World} {v : Value} {L : List Value} (h : LAt w v L) (hk : ∀ g, g < w.heap.size → v.ownBlock = some g → w'.heap[g]? = w.heap[g]?) : LAt w' v L := by
  rcases h with h | ⟨a, cap, rfl, hc, hs⟩
  · exact .inl h
  · refine .inr ⟨a, cap, rfl, hc, fun h0 => ?_⟩
    obtain ⟨g, o, rfl, hseg⟩ := hs h0
    exact ⟨g, o, rfl, hseg.keep (hk g (hseg.lt h0) rfl)⟩
theorem LAt.below {w w' : World} {v : Value} {L : List Value} (h : LAt w v L) (hb : Below w.heap.size w w') : LAt w' v L := h.keep fun g hg _ => hb.block g hg
theorem LAt.fr {S : Nat → Prop} {w w' : World} {v : Value} {L : List Value} (h : LAt w v L) (hf : Fr S w w') (hS : ∀ g, g < w.heap.size → v.ownBlock = some g → ¬ S g) : LAt w' v L := h.keep fun g hg hv => hf.block g hg (hS g hg hv)
theorem LAt.no {w w' : World} {v : Value} {L : List Value} (h : LAt w v L) (hf : Fr No w w') : LAt w' v L := h.fr hf fun _ _ _ => id
theorem LAt.of_own {w : World} {base : Nat} {e : TypeId} {v : Value} {n : Nat} {L : List Value} (h : w.ownsRow base e 1 v n L) : LAt w v L ∧ n = L.length ∧ (∀ g, v.ownBlock = some g → base ≤ g) := by
  have hl : L.length = n := by have := h.1; omega
  rcases h.2 with ⟨rfl, rfl⟩ | ⟨g, cap, cur, rfl, hg, hh, hn, hm, hs, hx⟩
  · exact ⟨.inl ⟨rfl, List.eq_nil_of_length_eq_zero hl⟩, hl.symm, by simp [Value.ownBlock]⟩
  · refine ⟨.inr ⟨⟨g, 0, none⟩, cap, by rw [hl], by omega, fun _ => ⟨g, 0, rfl, SegAt.of_block hh fun j v hv => ?_⟩⟩, hl.symm, by simp [Value.ownBlock]; omega⟩
    rw [← hx, List.getElem?_take] at hv
    split at hv
    · simpa using hv
    · cases hv
theorem own_slice {w : World} {base : Nat} {e : TypeId} {size : Nat} {v : Value} {n : Nat} {L : List Value} (h : w.ownsRow base e size v n L) : ∃ a cap, v = .slice a n cap ∧ (0 < n → ∃ g, a = some ⟨g, 0, none⟩ ∧ n ≤ cap ∧ base ≤ g ∧ g < w.heap.size) := by
  rcases h.2 with ⟨rfl, rfl⟩ | ⟨g, cap, cur, rfl, hg, hh, hn, hm, hs, hx⟩
  · exact ⟨_, _, rfl, fun h => by omega⟩
  · exact ⟨_, _, rfl, fun _ => ⟨g, rfl, hn, hg, lt_of_block hh⟩⟩
theorem own_mono {w : World} {base base' : Nat} {e : TypeId} {size n : Nat} {v : Value} {L : List Value} (h : w.ownsRow base e size v n L) (hb : base' ≤ base) : w.ownsRow base' e size v n L :=
  ⟨h.1, h.2.imp id fun ⟨g, c, cu, h1, h2, r⟩ => ⟨g, c, cu, h1, by omega, r⟩⟩
theorem own_base {w : World} {base : Nat} {e : TypeId} {size g n cap : Nat} {L : List Value} (h : w.ownsRow base e size (.slice (some ⟨g, 0, none⟩) n cap) n L) : base ≤ g ∧ g < w.heap.size ∧ n ≤ cap := by
  rcases h.2 with ⟨h, _⟩ | ⟨g', cap', cur, h, hb, hh, hn, _⟩
  · cases h
  · simp only [Value.slice.injEq, Option.some.injEq, Addr.mk.injEq] at h
    obtain ⟨⟨rfl, _⟩, _, rfl⟩ := h
    exact ⟨hb, lt_of_block hh, hn⟩
theorem own_cut {w : World} {base : Nat} {e : TypeId} {g cap n m : Nat} {L : List Value} (h : w.ownsRow base e 1 (.slice (some ⟨g, 0, none⟩) n cap) n L) (hm : m ≤ n) : w.ownsRow base e 1 (.slice (some ⟨g, 0, none⟩) m cap) m (L.take m) := by
  have h1 := h.1
  rcases h.2 with ⟨h, _⟩ | ⟨g', cap', cur, h, hb, hh, hn, hm', hs, hx⟩
  · cases h
  · simp only [Value.slice.injEq, Option.some.injEq, Addr.mk.injEq] at h
    obtain ⟨⟨rfl, _⟩, _, rfl⟩ := h
    refine ⟨by simp; omega, .inr ⟨_, _, cur, rfl, hb, hh, by omega, hm', hs, ?_⟩⟩
    rw [← hx, List.take_take]
    congr 1
    omega
theorem own_cell {w : World} {base : Nat} {e : TypeId} {g cap n : Nat} {L : List Value} (h : w.ownsRow base e 1 (.slice (some ⟨g, 0, none⟩) n cap) n L) {j : Nat} {v : Value} (hj : L[j]? = some v) : w.cell? ⟨g, j, none⟩ = some v := by
  have := h.cellAt j (by have := (List.getElem?_eq_some_iff.1 hj).1; have := h.1; omega)
  rw [this]; exact hj
theorem LAt.news {w : World} {a : Addr} {n cap : Nat} {L : List Value} (h : LAt w (.slice (some a) n cap) L) : ∀ j u, L[j]? = some u → w.cell? (a.add j) = some u := by
  intro j u hu
  rcases h with ⟨h, _⟩ | ⟨a', cap', h, _, hs⟩
  · cases h
  · simp only [Value.slice.injEq, Option.some.injEq] at h
    obtain ⟨rfl, _, _⟩ := h
    have hj := (List.getElem?_eq_some_iff.1 hu).1
    obtain ⟨g, o, rfl, hseg⟩ := hs (by omega)
    rw [addr_add]
    exact hseg j u hu

/-- n elements in memory, whose cells together are L. -/
def RAt (w : World) (v : Value) (n : Nat) (L : List Value) : Prop :=
  (v = .slice none 0 0 ∧ n = 0) ∨ ∃ a cap, v = .slice (some a) n cap ∧ n ≤ cap ∧ (0 < n → ∃ g o, a = ⟨g, o, none⟩ ∧ SegAt w g o L)
theorem RAt.len {w : World} {v : Value} {n : Nat} {L : List Value} (h : RAt w v n L) : ∃ a cap, v = .slice a n cap ∧ n ≤ cap ∧ (0 < n → ∃ g o, a = some ⟨g, o, none⟩ ∧ SegAt w g o L) := by
  rcases h with ⟨rfl, rfl⟩ | ⟨a, cap, rfl, hc, hs⟩
  · exact ⟨_, _, rfl, Nat.le_refl _, fun h => by omega⟩
  · exact ⟨_, _, rfl, hc, fun h0 => by obtain ⟨g, o, rfl, hseg⟩ := hs h0; exact ⟨g, o, rfl, hseg⟩⟩
theorem RAt.keep {w w' : World} {v : Value} {n : Nat} {L : List Value} (h : RAt w v n L) (hL : 0 < n → 0 < L.length) (hk : ∀ g, g < w.heap.size → v.ownBlock = some g → w'.heap[g]? = w.heap[g]?) : RAt w' v n L := by
  rcases h with h | ⟨a, cap, rfl, hc, hs⟩
  · exact .inl h
  · refine .inr ⟨a, cap, rfl, hc, fun h0 => ?_⟩
    obtain ⟨g, o, rfl, hseg⟩ := hs h0
    exact ⟨g, o, rfl, hseg.keep (hk g (hseg.lt (hL h0)) rfl)⟩

theorem cell_blk {w : World} {b : Nat} {C : Array Value} {t : TypeId} (h : w.heap[b]? = some (.cells C t (0, 0))) {j : Nat} {v : Value} (hj : C[j]? = some v) : w.cell? ⟨b, j, none⟩ = some v := by
  rw [cell_of_row w b j C t (0, 0) h]; exact hj
theorem free_blk {w : World} {b : Nat} {C : Array Value} {t : TypeId} (h : w.heap[b]? = some (.cells C t (0, 0))) (j : Nat) : w.frozen? ⟨b, j, none⟩ = false := frozen_of_row w b j C t h

/-- Rows of one length laid behind one another. -/
theorem flat_get {α β : Type} (f : α → List β) (m : Nat) : ∀ (l : List α) (_ : ∀ x ∈ l, (f x).length = m) (i j : Nat) (x : α), l[i]? = some x → j < m → (l.flatMap f)[i * m + j]? = (f x)[j]?
  | [], _, i, j, x, h, _ => by simp at h
  | y :: l, hl, 0, j, x, h, hj => by
    simp at h; subst h
    rw [List.flatMap_cons, List.getElem?_append_left (by rw [hl y (by simp)]; omega)]
    simp
  | y :: l, hl, i + 1, j, x, h, hj => by
    rw [List.flatMap_cons, List.getElem?_append_right (by rw [hl y (by simp), Nat.add_mul]; omega), hl y (by simp), show (i + 1) * m + j - m = i * m + j by rw [Nat.add_mul]; omega]
    exact flat_get f m l (fun z hz => hl z (by simp [hz])) i j x (by simpa using h) hj
theorem flat_length {α β : Type} (f : α → List β) (m : Nat) : ∀ (l : List α) (_ : ∀ x ∈ l, (f x).length = m), (l.flatMap f).length = l.length * m
  | [], _ => by simp
  | y :: l, hl => by rw [List.flatMap_cons, List.length_append, hl y (by simp), flat_length f m l (fun z hz => hl z (by simp [hz])), List.length_cons, Nat.add_mul]; omega

end Go.Proofs.Ytdogpkcalflhbaa
