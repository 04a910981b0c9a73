/- Words that the walks of this seat share: a frame of blocks that may have changed, a disk in memory, and plain lemmas on lists. No program in sight. -/
import Derived.WalkKit
import Derived.WalkLawsBesides
import Derived.WalkSpells
import Derived.Lib.Hide
import Derived.BigQuiet
import Derived.Deep.QuietTactic
import Derived.Deep.AppendLies
import Derived.Deep.RegionLaw
import Derived.Laws.CopyOwn
import Derived.Test.YtppllhdocajfiaaG
import Derived.Deep.LoopGhost
import Derived.Deep.RegionWith
import Derived.Deep.RegionHeld3
import Derived.Deep.RegionLawGrows
import Derived.StillTailTactics
import Derived.Deep.DeepFit
import Derived.Deep.DeepCutAuto
import Derived.Deep.Light
set_option linter.unusedSimpArgs false
set_option linter.unusedVariables false
namespace Go.Proofs.Ytppllhdocajfiaa
open Go.RowKit

/-- Outside S, of what was there, nothing has changed. -/
structure Fr (S : Nat → Prop) (w w' : World) : Prop where
  os : w'.os = w.os
  tape : w'.tape = w.tape
  output : w'.output = w.output
  size : w.heap.size ≤ w'.heap.size
  block : ∀ k, k < w.heap.size → ¬ S k → w'.heap[k]? = w.heap[k]?

/-- The walk stops here. -/
def Stop (p : Prop) : Prop := p
theorem Stop.mk {p : Prop} (h : Stop p) : p := h
theorem Stop.go {p : Prop} (h : p) : Stop p := h

def No : Nat → Prop := fun _ => False
def One (b : Nat) : Nat → Prop := fun k => k = b
def Two (b c : Nat) : Nat → Prop := fun k => k = b ∨ k = c

theorem Fr.refl (S : Nat → Prop) (w : World) : Fr S w w := ⟨rfl, rfl, rfl, Nat.le_refl _, fun _ _ _ => rfl⟩
theorem Fr.mono {S T : Nat → Prop} {w w' : World} (h : Fr S w w') (hst : ∀ k, k < w.heap.size → S k → T k) : Fr T w w' :=
  ⟨h.os, h.tape, h.output, h.size, fun k hk hn => h.block k hk fun hs => hn (hst k hk hs)⟩
theorem Fr.trans {S : Nat → Prop} {a b c : World} (h : Fr S a b) (k : Fr S b c) : Fr S a c :=
  ⟨k.os.trans h.os, k.tape.trans h.tape, k.output.trans h.output, Nat.le_trans h.size k.size, fun i hi hs => (k.block i (Nat.lt_of_lt_of_le hi h.size) hs).trans (h.block i hi hs)⟩
/-- two steps, the second one's blocks known to lie in S or to be new -/
theorem Fr.then {S T : Nat → Prop} {a b c : World} (h : Fr S a b) (k : Fr T b c) (hst : ∀ i, i < a.heap.size → T i → S i) : Fr S a c :=
  ⟨k.os.trans h.os, k.tape.trans h.tape, k.output.trans h.output, Nat.le_trans h.size k.size, fun i hi hs => (k.block i (Nat.lt_of_lt_of_le hi h.size) fun ht => hs (hst i hi ht)).trans (h.block i hi hs)⟩
theorem Fr.drew {S : Nat → Prop} {a w : World} (h : Fr S a w) : Fr S a w.drew := ⟨h.os, h.tape, h.output, h.size, h.block⟩
theorem Fr.drewN {S : Nat → Prop} {a w : World} (h : Fr S a w) (n : Nat) : Fr S a (w.drewN n) := ⟨h.os, h.tape, h.output, h.size, h.block⟩
theorem Fr.alloc {S : Nat → Prop} {a w : World} (h : Fr S a w) (o : Obj) : Fr S a (w.alloc o) :=
  ⟨h.os, h.tape, h.output, by simp; have := h.size; omega, fun k hk hs => by rw [Below.heap_alloc _ _ _ (Nat.lt_of_lt_of_le hk h.size)]; exact h.block k hk hs⟩
theorem Fr.setCell {S : Nat → Prop} {a w : World} (h : Fr S a w) {p : Addr} (hp : S p.block ∨ a.heap.size ≤ p.block) (u : Value) : Fr S a (w.setCell p u) :=
  ⟨h.os, h.tape, h.output, by simp; exact h.size, fun k hk hs => by
    rw [Below.heap_setCell _ _ _ _ (fun e => by rcases hp with hp | hp; exact hs (e ▸ hp); omega)]; exact h.block k hk hs⟩
theorem Fr.put {S : Nat → Prop} {a w : World} (h : Fr S a w) {b : Nat} (hb : S b ∨ a.heap.size ≤ b) (o : Nat) (u : Value) : Fr S a (w.setCell ⟨b, o, none⟩ u) := h.setCell (p := ⟨b, o, none⟩) hb u
theorem One.self (b : Nat) : One b b := rfl
theorem One.not {b k : Nat} (h : k ≠ b) : ¬ One b k := h
theorem Two.left (b c : Nat) : Two b c b := .inl rfl
theorem Two.right (b c : Nat) : Two b c c := .inr rfl
theorem Two.not {b c k : Nat} (h : k ≠ b) (h2 : k ≠ c) : ¬ Two b c k := fun h' => h'.elim h h2
theorem Fr.one_two {b c : Nat} {w w' : World} (h : Fr (One b) w w') : Fr (Two b c) w w' := h.mono fun _ _ e => .inl e
theorem Fr.set1 (w : World) (b o : Nat) (u : Value) : Fr (One b) w (w.setCell ⟨b, o, none⟩ u) := (Fr.refl (One b) w).put (.inl (One.self b)) o u
theorem Fr.below {B : Nat} {w w' : World} (h : Below B w w') : Fr (fun k => B ≤ k) w w' := ⟨h.os, h.tape, h.output, h.size, fun k _ hn => h.block k (by omega)⟩
theorem Fr.of_below {w w' : World} (h : Below w.heap.size w w') : Fr No w w' := ⟨h.os, h.tape, h.output, h.size, fun k hk _ => h.block k hk⟩
theorem Fr.to_below {S : Nat → Prop} {w w' : World} (h : Fr S w w') {B : Nat} (hB : B ≤ w.heap.size) (hS : ∀ k, k < B → ¬ S k) : Below B w w' :=
  ⟨h.os, h.tape, h.output, h.size, fun k hk => h.block k (by omega) (hS k hk)⟩
theorem Fr.grown {S : Nat → Prop} {a w w' : World} {row : Option Nat} (h : Fr S a w) (hg : w.grownBy w' row) (hr : ∀ k, row = some k → S k ∨ a.heap.size ≤ k) : Fr S a w' :=
  ⟨hg.os.trans h.os, hg.tape.trans h.tape, hg.output.trans h.output, Nat.le_trans h.size hg.size, fun k hk hs => by
    rw [hg.block k (Nat.lt_of_lt_of_le hk h.size) (fun e => by rcases hr k e.symm with h1 | h1; exact hs h1; omega)]; exact h.block k hk hs⟩
theorem Fr.heap {S : Nat → Prop} {w w' : World} (h : Fr S w w') {k : Nat} {o : Obj} (hk : w.heap[k]? = some o) (hs : ¬ S k) : w'.heap[k]? = some o := by
  rw [h.block k (lt_of_block hk) hs]; exact hk
theorem Fr.cell {S : Nat → Prop} {w w' : World} (h : Fr S w w') {p : Addr} (hp : p.block < w.heap.size) (hs : ¬ S p.block) : w'.cell? p = w.cell? p := World.cell?_of_block (w := w) (h.block p.block hp hs)

/-- A byte's cell. -/
def bv (x : UInt8) : Value := .int .u8 (x.toNat : Int)
theorem bv_one (x : UInt8) : (bv x).oneCell' = true := rfl

theorem seg_get {X : List UInt8} {t n i : Nat} {v : Value} (h : (((X.drop t).take n).map bv)[i]? = some v) : i < n ∧ t + i < X.length ∧ v = bv (X.getD (t + i) 0) := by
  rw [List.getElem?_map, List.getElem?_take] at h
  split at h
  · rename_i hi
    rw [List.getElem?_drop] at h
    obtain ⟨x, hx, rfl⟩ := Option.map_eq_some_iff.1 h
    obtain ⟨hl, hx'⟩ := List.getElem?_eq_some_iff.1 hx
    exact ⟨hi, hl, by simp [List.getD, hx]⟩
  · simp at h
theorem all_get {X : List UInt8} {i : Nat} {v : Value} (h : (X.map bv)[i]? = some v) : i < X.length ∧ v = bv (X.getD i 0) := by
  rw [List.getElem?_map] at h
  obtain ⟨x, hx, rfl⟩ := Option.map_eq_some_iff.1 h
  obtain ⟨hl, _⟩ := List.getElem?_eq_some_iff.1 hx
  exact ⟨hl, by simp [List.getD, hx]⟩
theorem bvs_one (X : List UInt8) : ∀ v ∈ X.map bv, v.oneCell' = true := by
  intro v hv
  obtain ⟨x, _, rfl⟩ := List.mem_map.1 hv
  rfl
theorem splice_pre {α : Type} (A S cur : List α) (t n : Nat) (ha : A.length = t) (hs : S.length = n) (hc : n ≤ cur.length) : splice (A ++ cur) t S = A ++ S ++ cur.drop n := by
  subst ha; subst hs
  unfold splice
  rw [List.take_left' rfl, ← List.drop_drop, List.drop_left' rfl, List.append_assoc]
theorem splice_seg (X : List UInt8) (cur : List Value) (t n : Nat) (ht : t + n ≤ X.length) (hc : n ≤ cur.length) :
    splice ((X.take t).map bv ++ cur) t (((X.drop t).take n).map bv) = (X.take (t + n)).map bv ++ cur.drop n := by
  rw [splice_pre _ _ _ t n (by simp; omega) (by simp; omega) hc, List.take_add, List.map_append]
theorem addr_add (b o i : Nat) : (⟨b, o, none⟩ : Addr).add i = ⟨b, o + i, none⟩ := by unfold Addr.add; split <;> simp_all

/-! ### A list in memory, an element a cell -/
def LAt (w : World) (v : Value) (L : List Value) : Prop :=
  (v = .slice none 0 0 ∧ L = []) ∨ ∃ a cap, v = .slice (some a) L.length cap ∧ L.length ≤ cap ∧ (0 < L.length → ∃ g o, a = ⟨g, o, none⟩ ∧ SegAt w g o L)

theorem SegAt.lt {w : World} {g o : Nat} {L : List Value} (h : SegAt w g o L) (hl : 0 < L.length) : g < w.heap.size :=
  World.block_lt_of_cell? w ⟨g, o + 0, none⟩ (h 0 _ (List.getElem?_eq_getElem hl))
theorem SegAt.keep {w w' : World} {g o : Nat} {L : List Value} (h : SegAt w g o L) (hk : w'.heap[g]? = w.heap[g]?) : SegAt w' g o L :=
  fun j v hv => (World.cell?_of_block (w := w) hk).trans (h j v hv)
theorem LAt.len {w : World} {v : Value} {L : List Value} (h : LAt w v L) : ∃ a cap, v = .slice a L.length cap ∧ L.length ≤ cap := by
  rcases h with ⟨rfl, rfl⟩ | ⟨a, cap, rfl, hc, _⟩
  · exact ⟨_, _, rfl, Nat.le_refl _⟩
  · exact ⟨_, _, rfl, hc⟩
/-- Nothing that the list lies in has changed. -/
theorem LAt.keep {w w' : World} {v : Value} {L : List Value} (h : LAt w v L) (hk : ∀ g, g < w.heap.size → v.ownBlock = some g → w'.heap[g]? = w.heap[g]?) : LAt w' v L := by
  rcases h with h | ⟨a, cap, rfl, hc, hs⟩
  · exact .inl h
  · refine .inr ⟨a, cap, rfl, hc, fun h0 => ?_⟩
    obtain ⟨g, o, rfl, hseg⟩ := hs h0
    exact ⟨g, o, rfl, hseg.keep (hk g (hseg.lt h0) rfl)⟩
theorem LAt.below {w w' : World} {v : Value} {L : List Value} (h : LAt w v L) (hb : Below w.heap.size w w') : LAt w' v L := h.keep fun g hg _ => hb.block g hg
theorem LAt.fr {S : Nat → Prop} {w w' : World} {v : Value} {L : List Value} (h : LAt w v L) (hf : Fr S w w') (hS : ∀ g, g < w.heap.size → v.ownBlock = some g → ¬ S g) : LAt w' v L := h.keep fun g hg hv => hf.block g hg (hS g hg hv)
theorem LAt.no {w w' : World} {v : Value} {L : List Value} (h : LAt w v L) (hf : Fr No w w') : LAt w' v L := h.fr hf fun _ _ _ => id
theorem LAt.of_own {w : World} {base : Nat} {e : TypeId} {v : Value} {n : Nat} {L : List Value} (h : w.ownsRow base e 1 v n L) : LAt w v L ∧ n = L.length ∧ (∀ g, v.ownBlock = some g → base ≤ g) := by
  have hl : L.length = n := by have := h.1; omega
  rcases h.2 with ⟨rfl, rfl⟩ | ⟨g, cap, cur, rfl, hg, hh, hn, hm, hs, hx⟩
  · exact ⟨.inl ⟨rfl, List.eq_nil_of_length_eq_zero hl⟩, hl.symm, by simp [Value.ownBlock]⟩
  · refine ⟨.inr ⟨⟨g, 0, none⟩, cap, by rw [hl], by omega, fun _ => ⟨g, 0, rfl, SegAt.of_block hh fun j v hv => ?_⟩⟩, hl.symm, by simp [Value.ownBlock]; omega⟩
    rw [← hx, List.getElem?_take] at hv
    split at hv
    · simpa using hv
    · cases hv
theorem own_slice {w : World} {base : Nat} {e : TypeId} {size : Nat} {v : Value} {n : Nat} {L : List Value} (h : w.ownsRow base e size v n L) : ∃ a cap, v = .slice a n cap ∧ (0 < n → ∃ g, a = some ⟨g, 0, none⟩ ∧ n ≤ cap ∧ base ≤ g ∧ g < w.heap.size) := by
  rcases h.2 with ⟨rfl, rfl⟩ | ⟨g, cap, cur, rfl, hg, hh, hn, hm, hs, hx⟩
  · exact ⟨_, _, rfl, fun h => by omega⟩
  · exact ⟨_, _, rfl, fun _ => ⟨g, rfl, hn, hg, lt_of_block hh⟩⟩
theorem own_mono {w : World} {base base' : Nat} {e : TypeId} {size n : Nat} {v : Value} {L : List Value} (h : w.ownsRow base e size v n L) (hb : base' ≤ base) : w.ownsRow base' e size v n L :=
  ⟨h.1, h.2.imp id fun ⟨g, c, cu, h1, h2, r⟩ => ⟨g, c, cu, h1, by omega, r⟩⟩
theorem own_base {w : World} {base : Nat} {e : TypeId} {size g n cap : Nat} {L : List Value} (h : w.ownsRow base e size (.slice (some ⟨g, 0, none⟩) n cap) n L) : base ≤ g ∧ g < w.heap.size ∧ n ≤ cap := by
  rcases h.2 with ⟨h, _⟩ | ⟨g', cap', cur, h, hb, hh, hn, _⟩
  · cases h
  · simp only [Value.slice.injEq, Option.some.injEq, Addr.mk.injEq] at h
    obtain ⟨⟨rfl, _⟩, _, rfl⟩ := h
    exact ⟨hb, lt_of_block hh, hn⟩
theorem own_cut {w : World} {base : Nat} {e : TypeId} {g cap n m : Nat} {L : List Value} (h : w.ownsRow base e 1 (.slice (some ⟨g, 0, none⟩) n cap) n L) (hm : m ≤ n) : w.ownsRow base e 1 (.slice (some ⟨g, 0, none⟩) m cap) m (L.take m) := by
  have h1 := h.1
  rcases h.2 with ⟨h, _⟩ | ⟨g', cap', cur, h, hb, hh, hn, hm', hs, hx⟩
  · cases h
  · simp only [Value.slice.injEq, Option.some.injEq, Addr.mk.injEq] at h
    obtain ⟨⟨rfl, _⟩, _, rfl⟩ := h
    refine ⟨by simp; omega, .inr ⟨_, _, cur, rfl, hb, hh, by omega, hm', hs, ?_⟩⟩
    rw [← hx, List.take_take]
    congr 1
    omega
theorem own_cell {w : World} {base : Nat} {e : TypeId} {g cap n : Nat} {L : List Value} (h : w.ownsRow base e 1 (.slice (some ⟨g, 0, none⟩) n cap) n L) {j : Nat} {v : Value} (hj : L[j]? = some v) : w.cell? ⟨g, j, none⟩ = some v := by
  have := h.cellAt j (by have := (List.getElem?_eq_some_iff.1 hj).1; have := h.1; omega)
  rw [this]; exact hj
theorem LAt.news {w : World} {a : Addr} {n cap : Nat} {L : List Value} (h : LAt w (.slice (some a) n cap) L) : ∀ j u, L[j]? = some u → w.cell? (a.add j) = some u := by
  intro j u hu
  rcases h with ⟨h, _⟩ | ⟨a', cap', h, _, hs⟩
  · cases h
  · simp only [Value.slice.injEq, Option.some.injEq] at h
    obtain ⟨rfl, _, _⟩ := h
    have hj := (List.getElem?_eq_some_iff.1 hu).1
    obtain ⟨g, o, rfl, hseg⟩ := hs (by omega)
    rw [addr_add]
    exact hseg j u hu

/-- n elements in memory, whose cells together are L. -/
def RAt (w : World) (v : Value) (n : Nat) (L : List Value) : Prop :=
  (v = .slice none 0 0 ∧ n = 0) ∨ ∃ a cap, v = .slice (some a) n cap ∧ n ≤ cap ∧ (0 < n → ∃ g o, a = ⟨g, o, none⟩ ∧ SegAt w g o L)
theorem RAt.len {w : World} {v : Value} {n : Nat} {L : List Value} (h : RAt w v n L) : ∃ a cap, v = .slice a n cap ∧ n ≤ cap ∧ (0 < n → ∃ g o, a = some ⟨g, o, none⟩ ∧ SegAt w g o L) := by
  rcases h with ⟨rfl, rfl⟩ | ⟨a, cap, rfl, hc, hs⟩
  · exact ⟨_, _, rfl, Nat.le_refl _, fun h => by omega⟩
  · exact ⟨_, _, rfl, hc, fun h0 => by obtain ⟨g, o, rfl, hseg⟩ := hs h0; exact ⟨g, o, rfl, hseg⟩⟩
theorem RAt.keep {w w' : World} {v : Value} {n : Nat} {L : List Value} (h : RAt w v n L) (hL : 0 < n → 0 < L.length) (hk : ∀ g, g < w.heap.size → v.ownBlock = some g → w'.heap[g]? = w.heap[g]?) : RAt w' v n L := by
  rcases h with h | ⟨a, cap, rfl, hc, hs⟩
  · exact .inl h
  · refine .inr ⟨a, cap, rfl, hc, fun h0 => ?_⟩
    obtain ⟨g, o, rfl, hseg⟩ := hs h0
    exact ⟨g, o, rfl, hseg.keep (hk g (hseg.lt (hL h0)) rfl)⟩

/-! ### A disk -/
structure Dk where
  med : Nat → List UInt8
  cache : List (Nat × List UInt8)
  armed : Bool
  left : Int
  down : Bool
  acts : Int

structure Dk.Ok (D : Dk) : Prop where
  med : ∀ s, (D.med s).length = 128
  cache : ∀ p ∈ D.cache, p.1 < 1024 ∧ p.2.length = 128
  left : 0 ≤ D.left ∧ D.left ≤ 9223372036854775807
  acts : 0 ≤ D.acts

/-- A waiting write's cells. -/
def pcells (p : Nat × List UInt8) : List Value := .int .i64 (p.1 : Int) :: p.2.map bv

/-- The cache's slice: nil, or a row of the block c, which is not the disk's own. -/
def CacheAt (w : World) (b c : Nat) (cv : Value) (l : List (Nat × List UInt8)) : Prop :=
  (cv = .slice none 0 0 ∧ l = []) ∨
  ∃ cap cur, cv = .slice (some ⟨c, 0, none⟩) l.length cap ∧ c ≠ b ∧ w.heap[c]? = some (.cells cur 102 (0, 0)) ∧ l.length ≤ cap ∧ cap ≤ maxLen ∧ cur.size = cap * 129 ∧ cur.toList.take (l.length * 129) = l.flatMap pcells

/-- The disk's own cells. -/
structure DCells (C : Array Value) (cv : Value) (D : Dk) : Prop where
  size : C.size = 131077
  med : ∀ s j, s < 1024 → j < 128 → C[s * 128 + j]? = some (bv ((D.med s).getD j 0))
  cache : C[131072]? = some cv
  armed : C[131073]? = some (.bool D.armed)
  left : C[131074]? = some (.int .i64 D.left)
  down : C[131075]? = some (.bool D.down)
  acts : C[131076]? = some (.int .i64 D.acts)

/-- AT BLOCK b LIES A DISK IN THE STATE D, whose cache's row is the block c. -/
def DiskAt (w : World) (b c : Nat) (D : Dk) : Prop :=
  D.Ok ∧ c < w.heap.size ∧ ∃ C cv, w.heap[b]? = some (.cells C 98 (0, 0)) ∧ DCells C cv D ∧ CacheAt w b c cv D.cache

theorem cell_blk {w : World} {b : Nat} {C : Array Value} {t : TypeId} (h : w.heap[b]? = some (.cells C t (0, 0))) {j : Nat} {v : Value} (hj : C[j]? = some v) : w.cell? ⟨b, j, none⟩ = some v := by
  rw [cell_of_row w b j C t (0, 0) h]; exact hj
theorem free_blk {w : World} {b : Nat} {C : Array Value} {t : TypeId} (h : w.heap[b]? = some (.cells C t (0, 0))) (j : Nat) : w.frozen? ⟨b, j, none⟩ = false := frozen_of_row w b j C t h

section
variable {w : World} {b c : Nat} {D : Dk}

theorem DiskAt.lt (h : DiskAt w b c D) : b < w.heap.size ∧ c < w.heap.size := by
  obtain ⟨_, h2, C, cv, hb, _⟩ := h
  exact ⟨lt_of_block hb, h2⟩
theorem DiskAt.ok (h : DiskAt w b c D) : D.Ok := h.1
theorem DiskAt.armed (h : DiskAt w b c D) : w.cell? ⟨b, 131073, none⟩ = some (.bool D.armed) := by obtain ⟨_, _, C, cv, hb, hc, _⟩ := h; exact cell_blk hb hc.armed
theorem DiskAt.left (h : DiskAt w b c D) : w.cell? ⟨b, 131074, none⟩ = some (.int .i64 D.left) := by obtain ⟨_, _, C, cv, hb, hc, _⟩ := h; exact cell_blk hb hc.left
theorem DiskAt.down (h : DiskAt w b c D) : w.cell? ⟨b, 131075, none⟩ = some (.bool D.down) := by obtain ⟨_, _, C, cv, hb, hc, _⟩ := h; exact cell_blk hb hc.down
theorem DiskAt.acts (h : DiskAt w b c D) : w.cell? ⟨b, 131076, none⟩ = some (.int .i64 D.acts) := by obtain ⟨_, _, C, cv, hb, hc, _⟩ := h; exact cell_blk hb hc.acts
theorem DiskAt.cache (h : DiskAt w b c D) : ∃ cv, w.cell? ⟨b, 131072, none⟩ = some cv ∧ CacheAt w b c cv D.cache := by obtain ⟨_, _, C, cv, hb, hc, hx⟩ := h; exact ⟨cv, cell_blk hb hc.cache, hx⟩
theorem DiskAt.med (h : DiskAt w b c D) {s j : Nat} (hs : s < 1024) (hj : j < 128) : w.cell? ⟨b, s * 128 + j, none⟩ = some (bv ((D.med s).getD j 0)) := by obtain ⟨_, _, C, cv, hb, hc, hx⟩ := h; exact cell_blk hb (hc.med s j hs hj)
theorem DiskAt.free (h : DiskAt w b c D) (j : Nat) : w.frozen? ⟨b, j, none⟩ = false := by obtain ⟨_, _, C, cv, hb, hc, hx⟩ := h; exact free_blk hb j

theorem CacheAt.keep {cv : Value} {l : List (Nat × List UInt8)} (h : CacheAt w b c cv l) {w' : World} (hk : w'.heap[c]? = w.heap[c]?) : CacheAt w' b c cv l := by
  rcases h with h | ⟨cap, cur, h1, h2, h3, r⟩
  · exact .inl h
  · exact .inr ⟨cap, cur, h1, h2, hk.trans h3, r⟩

theorem DiskAt.keep (h : DiskAt w b c D) {S : Nat → Prop} {w' : World} (hf : Fr S w w') (hb : ¬ S b) (hc : ¬ S c) : DiskAt w' b c D := by
  obtain ⟨h1, h3, C, cv, hC, hd, hx⟩ := h
  exact ⟨h1, Nat.lt_of_lt_of_le h3 hf.size, C, cv, hf.heap hC hb, hd, hx.keep (hf.block c h3 hc)⟩

/-- One of the disk's own cells, other than its cache's slice, is written. -/
theorem DiskAt.put (h : DiskAt w b c D) {o : Nat} {v : Value} {D' : Dk} (hok : D'.Ok) (hcache : D'.cache = D.cache) (hd : ∀ C cv, DCells C cv D → DCells (C.setIfInBounds o v) cv D') : DiskAt (w.setCell ⟨b, o, none⟩ v) b c D' := by
  obtain ⟨h1, h3, C, cv, hC, hdd, hx⟩ := h
  refine ⟨hok, by simpa using h3, C.setIfInBounds o v, cv, heap_setCell_same w b o C 98 v hC, hd C cv hdd, ?_⟩
  rw [hcache]
  rcases hx with hx | ⟨cap, cur, e1, e2, e3, r⟩
  · exact .inl hx
  · exact .inr ⟨cap, cur, e1, e2, by rw [heap_setCell_other _ _ _ _ (by simpa using e2)]; exact e3, r⟩

theorem DiskAt.setArmed (h : DiskAt w b c D) (x : Bool) : DiskAt (w.setCell ⟨b, 131073, none⟩ (.bool x)) b c { D with armed := x } :=
  h.put ⟨h.1.med, h.1.cache, h.1.left, h.1.acts⟩ rfl fun C cv d => ⟨by simp [d.size], fun s j hs hj => by rw [Array.getElem?_setIfInBounds_ne (by omega)]; exact d.med s j hs hj,
    by rw [Array.getElem?_setIfInBounds_ne (by omega)]; exact d.cache, by rw [Array.getElem?_setIfInBounds_self_of_lt (by rw [d.size]; omega)],
    by rw [Array.getElem?_setIfInBounds_ne (by omega)]; exact d.left, by rw [Array.getElem?_setIfInBounds_ne (by omega)]; exact d.down, by rw [Array.getElem?_setIfInBounds_ne (by omega)]; exact d.acts⟩
theorem DiskAt.setLeft (h : DiskAt w b c D) (x : Int) (hx : 0 ≤ x ∧ x ≤ 9223372036854775807) : DiskAt (w.setCell ⟨b, 131074, none⟩ (.int .i64 x)) b c { D with left := x } :=
  h.put ⟨h.1.med, h.1.cache, hx, h.1.acts⟩ rfl fun C cv d => ⟨by simp [d.size], fun s j hs hj => by rw [Array.getElem?_setIfInBounds_ne (by omega)]; exact d.med s j hs hj,
    by rw [Array.getElem?_setIfInBounds_ne (by omega)]; exact d.cache, by rw [Array.getElem?_setIfInBounds_ne (by omega)]; exact d.armed,
    by rw [Array.getElem?_setIfInBounds_self_of_lt (by rw [d.size]; omega)], by rw [Array.getElem?_setIfInBounds_ne (by omega)]; exact d.down, by rw [Array.getElem?_setIfInBounds_ne (by omega)]; exact d.acts⟩
theorem DiskAt.setDown (h : DiskAt w b c D) (x : Bool) : DiskAt (w.setCell ⟨b, 131075, none⟩ (.bool x)) b c { D with down := x } :=
  h.put ⟨h.1.med, h.1.cache, h.1.left, h.1.acts⟩ rfl fun C cv d => ⟨by simp [d.size], fun s j hs hj => by rw [Array.getElem?_setIfInBounds_ne (by omega)]; exact d.med s j hs hj,
    by rw [Array.getElem?_setIfInBounds_ne (by omega)]; exact d.cache, by rw [Array.getElem?_setIfInBounds_ne (by omega)]; exact d.armed,
    by rw [Array.getElem?_setIfInBounds_ne (by omega)]; exact d.left, by rw [Array.getElem?_setIfInBounds_self_of_lt (by rw [d.size]; omega)], by rw [Array.getElem?_setIfInBounds_ne (by omega)]; exact d.acts⟩
theorem DiskAt.setActs (h : DiskAt w b c D) (x : Int) (hx : 0 ≤ x) : DiskAt (w.setCell ⟨b, 131076, none⟩ (.int .i64 x)) b c { D with acts := x } :=
  h.put ⟨h.1.med, h.1.cache, h.1.left, hx⟩ rfl fun C cv d => ⟨by simp [d.size], fun s j hs hj => by rw [Array.getElem?_setIfInBounds_ne (by omega)]; exact d.med s j hs hj,
    by rw [Array.getElem?_setIfInBounds_ne (by omega)]; exact d.cache, by rw [Array.getElem?_setIfInBounds_ne (by omega)]; exact d.armed,
    by rw [Array.getElem?_setIfInBounds_ne (by omega)]; exact d.left, by rw [Array.getElem?_setIfInBounds_ne (by omega)]; exact d.down, by rw [Array.getElem?_setIfInBounds_self_of_lt (by rw [d.size]; omega)]⟩

/-- The cache's slice is written, in a later world in which the disk's own block is as it was: what the new one leads to is told. -/
theorem DiskAt.newCache (h : DiskAt w b c D) {w3 : World} (hw3 : w3.heap[b]? = w.heap[b]?) {c' : Nat} {cv : Value} {l : List (Nat × List UInt8)} (hl : ∀ p ∈ l, p.1 < 1024 ∧ p.2.length = 128) (hc' : c' < w3.heap.size) (hx : CacheAt w3 b c' cv l) :
    DiskAt (w3.setCell ⟨b, 131072, none⟩ cv) b c' { D with cache := l } := by
  obtain ⟨h1, h3, C, cv0, hC, d, _⟩ := h
  rw [← hw3] at hC
  refine ⟨⟨h1.med, hl, h1.left, h1.acts⟩, by simpa using hc', C.setIfInBounds 131072 cv, cv, heap_setCell_same w3 b _ C 98 cv hC, ?_, ?_⟩
  · exact ⟨by simp [d.size], fun s j hs hj => by rw [Array.getElem?_setIfInBounds_ne (by omega)]; exact d.med s j hs hj,
      by rw [Array.getElem?_setIfInBounds_self_of_lt (by rw [d.size]; omega)], by rw [Array.getElem?_setIfInBounds_ne (by omega)]; exact d.armed,
      by rw [Array.getElem?_setIfInBounds_ne (by omega)]; exact d.left, by rw [Array.getElem?_setIfInBounds_ne (by omega)]; exact d.down, by rw [Array.getElem?_setIfInBounds_ne (by omega)]; exact d.acts⟩
  · rcases hx with hx | ⟨cap, cur, e1, e2, e3, r⟩
    · exact .inl hx
    · exact .inr ⟨cap, cur, e1, e2, by rw [heap_setCell_other _ _ _ _ (by simpa using e2)]; exact e3, r⟩
theorem DiskAt.setCache (h : DiskAt w b c D) {c' : Nat} {cv : Value} {l : List (Nat × List UInt8)} (hl : ∀ p ∈ l, p.1 < 1024 ∧ p.2.length = 128) (hc' : c' < w.heap.size) (hx : CacheAt w b c' cv l) :
    DiskAt (w.setCell ⟨b, 131072, none⟩ cv) b c' { D with cache := l } := h.newCache rfl hl hc' hx
end

/-- A list of bytes in memory, at the slice with the address a. -/
def SegOf (w : World) (a : Option Addr) (L : List Value) : Prop := 0 < L.length → ∃ g o, a = some ⟨g, o, none⟩ ∧ SegAt w g o L

/-- Bytes of a sector of the medium are laid. -/
theorem DiskAt.setPart {w : World} {b c : Nat} {D : Dk} (h : DiskAt w b c D) {s m : Nat} (hs : s < 1024) {X : List UInt8} (hX : m + X.length ≤ 128) :
    DiskAt (World.setSeg w b (s * 128 + m) (X.map bv)) b c { D with med := fun k => if k = s then splice (D.med s) m X else D.med k } := by
  obtain ⟨h1, h3, C, cv, hC, d, hx⟩ := h
  have hsz := d.size
  have get : ∀ j, (splice C.toList (s * 128 + m) (X.map bv)).toArray[j]? = if s * 128 + m ≤ j ∧ j < s * 128 + m + X.length then (X.map bv)[j - (s * 128 + m)]? else C[j]? := fun j => by
    rw [List.getElem?_toArray, get_splice _ _ _ _ (by simp; omega)]
    simp
  have out : ∀ j, 131072 ≤ j → (splice C.toList (s * 128 + m) (X.map bv)).toArray[j]? = C[j]? := fun j hj => by rw [get, if_neg (by omega)]
  have hmed := h1.med s
  refine ⟨⟨fun k => ?_, h1.cache, h1.left, h1.acts⟩, by simpa using h3, _, cv, World.heap_setSeg_same w b _ _ hC, ?_, ?_⟩
  · by_cases hk : k = s
    · simp only [hk, if_true]; rw [length_splice _ _ _ (by omega)]; exact hmed
    · simp [hk, h1.med]
  · refine ⟨by simp; rw [length_splice _ _ _ (by simp; omega)]; simp [hsz], fun k j hk hj => ?_, by rw [out _ (by omega)]; exact d.cache, by rw [out _ (by omega)]; exact d.armed, by rw [out _ (by omega)]; exact d.left,
      by rw [out _ (by omega)]; exact d.down, by rw [out _ (by omega)]; exact d.acts⟩
    rw [get]
    by_cases hk' : k = s
    · subst hk'
      simp only [if_true]
      have e : (splice (D.med k) m X).getD j 0 = if m ≤ j ∧ j < m + X.length then X.getD (j - m) 0 else (D.med k).getD j 0 := by
        simp only [List.getD]
        rw [get_splice _ _ _ _ (by omega)]
        split <;> rfl
      rw [e]
      by_cases hr : m ≤ j ∧ j < m + X.length
      · rw [if_pos (by omega), if_pos hr, show k * 128 + j - (k * 128 + m) = j - m by omega]
        simp [List.getD, List.getElem?_eq_getElem (show j - m < X.length by omega)]
      · rw [if_neg (by omega), if_neg hr]
        exact d.med _ _ hk hj
    · rw [if_neg (by omega), d.med _ _ hk hj]
      simp [hk']
  · rcases hx with hx | ⟨cap, cur, e1, e2, e3, r⟩
    · exact .inl hx
    · exact .inr ⟨cap, cur, e1, e2, by rw [World.heap_setSeg_other _ _ _ _ e2]; exact e3, r⟩
/-- A sector of the medium is laid. -/
theorem DiskAt.setMed {w : World} {b c : Nat} {D : Dk} (h : DiskAt w b c D) {s : Nat} (hs : s < 1024) {X : List UInt8} (hX : X.length = 128) :
    DiskAt (World.setSeg w b (s * 128) (X.map bv)) b c { D with med := fun k => if k = s then X else D.med k } := by
  have := h.setPart (m := 0) hs (X := X) (by omega)
  have e : splice (D.med s) 0 X = X := by
    simp only [splice, List.take_zero, List.nil_append, Nat.zero_add]
    rw [List.drop_eq_nil_of_le (by rw [h.ok.med]; omega), List.append_nil]
  rw [e] at this
  exact this
theorem DiskAt.roomPart {w : World} {b c : Nat} {D : Dk} (h : DiskAt w b c D) {s m n : Nat} (hs : s < 1024) (hm : m + n ≤ 128) : RoomAt w b (s * 128 + m) n := by
  obtain ⟨h1, h3, C, cv, hC, d, hx⟩ := h
  exact ⟨C, 98, hC, by have := d.size; omega⟩
theorem DiskAt.room {w : World} {b c : Nat} {D : Dk} (h : DiskAt w b c D) {s : Nat} (hs : s < 1024) : RoomAt w b (s * 128) 128 := by
  obtain ⟨h1, h3, C, cv, hC, d, hx⟩ := h
  exact ⟨C, 98, hC, by have := d.size; omega⟩
theorem Fr.seg {S : Nat → Prop} {a w : World} (h : Fr S a w) {b : Nat} (hb : S b ∨ a.heap.size ≤ b) (o : Nat) (L : List Value) : Fr S a (World.setSeg w b o L) :=
  ⟨h.os, h.tape, h.output, by simp; exact h.size, fun k hk hs => by
    rw [World.heap_setSeg_other _ _ _ _ (fun e => by rcases hb with hb | hb; exact hs (e ▸ hb); omega)]; exact h.block k hk hs⟩

/-- Rows of one length laid behind one another. -/
theorem flat_get {α β : Type} (f : α → List β) (m : Nat) : ∀ (l : List α) (_ : ∀ x ∈ l, (f x).length = m) (i j : Nat) (x : α), l[i]? = some x → j < m → (l.flatMap f)[i * m + j]? = (f x)[j]?
  | [], _, i, j, x, h, _ => by simp at h
  | y :: l, hl, 0, j, x, h, hj => by
    simp at h; subst h
    rw [List.flatMap_cons, List.getElem?_append_left (by rw [hl y (by simp)]; omega)]
    simp
  | y :: l, hl, i + 1, j, x, h, hj => by
    rw [List.flatMap_cons, List.getElem?_append_right (by rw [hl y (by simp), Nat.add_mul]; omega), hl y (by simp), show (i + 1) * m + j - m = i * m + j by rw [Nat.add_mul]; omega]
    exact flat_get f m l (fun z hz => hl z (by simp [hz])) i j x (by simpa using h) hj
theorem flat_length {α β : Type} (f : α → List β) (m : Nat) : ∀ (l : List α) (_ : ∀ x ∈ l, (f x).length = m), (l.flatMap f).length = l.length * m
  | [], _ => by simp
  | y :: l, hl => by rw [List.flatMap_cons, List.length_append, hl y (by simp), flat_length f m l (fun z hz => hl z (by simp [hz])), List.length_cons, Nat.add_mul]; omega

theorem pcells_length {p : Nat × List UInt8} (h : p.2.length = 128) : (pcells p).length = 129 := by simp [pcells, h]
theorem pcells_one (p : Nat × List UInt8) : OneL (pcells p) := by
  intro v hv
  rcases List.mem_cons.1 hv with rfl | hv
  · rfl
  · exact bvs_one _ v hv

/-- A waiting write's cells, in the cache's row. -/
theorem CacheAt.seg {w : World} {b c : Nat} {cv : Value} {l : List (Nat × List UInt8)} (h : CacheAt w b c cv l) (hl : ∀ p ∈ l, p.1 < 1024 ∧ p.2.length = 128) {i : Nat} {p : Nat × List UInt8} (hi : l[i]? = some p) :
    c ≠ b ∧ (∃ cap, cv = .slice (some ⟨c, 0, none⟩) l.length cap ∧ l.length ≤ cap) ∧ SegAt w c (i * 129) (pcells p) := by
  rcases h with ⟨_, rfl⟩ | ⟨cap, cur, e1, e2, e3, e4, e5, e6, e7⟩
  · simp at hi
  · refine ⟨e2, ⟨cap, e1, e4⟩, SegAt.of_block e3 fun j v hv => ?_⟩
    have hj : j < 129 := by
      have := (List.getElem?_eq_some_iff.1 hv).1
      rwa [pcells_length (hl p (List.mem_of_getElem? hi)).2] at this
    have hil : i < l.length := (List.getElem?_eq_some_iff.1 hi).1
    have g := flat_get pcells 129 l (fun x hx => pcells_length (hl x hx).2) i j p hi hj
    rw [← e7, hv, List.getElem?_take] at g
    split at g
    · simpa using g
    · cases g

theorem CacheAt.own {w : World} {b c : Nat} {cv : Value} {l : List (Nat × List UInt8)} (h : CacheAt w b c cv l) (hl : ∀ p ∈ l, p.1 < 1024 ∧ p.2.length = 128) : w.ownsRow 0 102 129 cv l.length (l.flatMap pcells) := by
  refine ⟨flat_length pcells 129 l fun p hp => pcells_length (hl p hp).2, ?_⟩
  rcases h with ⟨rfl, rfl⟩ | ⟨cap, cur, e1, e2, e3, e4, e5, e6, e7⟩
  · exact .inl ⟨rfl, rfl⟩
  · exact .inr ⟨c, cap, cur, e1, Nat.zero_le _, e3, e4, e5, e6, e7⟩
theorem CacheAt.own_block {w : World} {b c : Nat} {cv : Value} {l : List (Nat × List UInt8)} (h : CacheAt w b c cv l) : cv.ownBlock = none ∨ (cv.ownBlock = some c ∧ c ≠ b) := by
  rcases h with ⟨rfl, rfl⟩ | ⟨cap, cur, rfl, e2, _⟩
  · exact .inl rfl
  · exact .inr ⟨rfl, e2⟩
theorem CacheAt.of_own {w : World} {b g cap : Nat} {l : List (Nat × List UInt8)} (h : w.ownsRow 0 102 129 (.slice (some ⟨g, 0, none⟩) l.length cap) l.length (l.flatMap pcells)) (hg : g ≠ b) : CacheAt w b g (.slice (some ⟨g, 0, none⟩) l.length cap) l := by
  rcases h.2 with ⟨h, _⟩ | ⟨g', cap', cur, h, _, hh, hn, hm, hs, hx⟩
  · cases h
  · simp only [Value.slice.injEq, Option.some.injEq, Addr.mk.injEq] at h
    obtain ⟨⟨rfl, _⟩, _, rfl⟩ := h
    exact .inr ⟨_, cur, rfl, hg, hh, hn, hm, hs, hx⟩

/-- May one more act be done? -/
def Dk.act (D : Dk) : Dk × Bool :=
  if D.down then (D, false)
  else if D.armed then (if D.left = 0 then ({ D with down := true }, false) else ({ D with left := D.left - 1, acts := D.acts + 1 }, true))
  else ({ D with acts := D.acts + 1 }, true)

end Go.Proofs.Ytppllhdocajfiaa
