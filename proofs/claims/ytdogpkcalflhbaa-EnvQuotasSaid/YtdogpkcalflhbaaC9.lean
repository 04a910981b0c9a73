/- carve, uncarve. -/
import Derived.Test.YtdogpkcalflhbaaC7
import Derived.Test.YtdogpkcalflhbaaC8
set_option linter.unusedSimpArgs false
set_option linter.unusedVariables false
namespace Go.Proofs.Ytdogpkcalflhbaa
open Go.RowKit

def Qt.child (q : Qt) : Qt := ⟨q.f, q.e + 1, q.x⟩
theorem heap_carved {w : World} {k : Nat} {r : Rec} {kv : Value} (c : Qt) (h : w.heap[k]? = some (.cells (reccells r kv) 80 (0, 0))) : (((w.setCell ⟨k, 27, none⟩ (.int .i64 c.f)).setCell ⟨k, 28, none⟩ (.int .i64 c.e)).setCell ⟨k, 29, none⟩ (.int .i64 c.x)).heap[k]? = some (.cells (reccells { r with carved := c } kv) 80 (0, 0)) := by
  have e : reccells { r with carved := c } kv = (((reccells r kv).setIfInBounds 27 (.int .i64 c.f)).setIfInBounds 28 (.int .i64 c.e)).setIfInBounds 29 (.int .i64 c.x) := by simp [reccells]
  rw [e]
  exact heap_setCell_same _ _ _ _ _ _ (heap_setCell_same _ _ _ _ _ _ (heap_setCell_same _ _ _ _ _ _ h))
theorem heap_paid {w : World} {k : Nat} {r : Rec} {kv : Value} (c : Qt) (h : w.heap[k]? = some (.cells (reccells r kv) 80 (0, 0))) : (((w.setCell ⟨k, 24, none⟩ (.int .i64 c.f)).setCell ⟨k, 25, none⟩ (.int .i64 c.e)).setCell ⟨k, 26, none⟩ (.int .i64 c.x)).heap[k]? = some (.cells (reccells { r with paid := c } kv) 80 (0, 0)) := by
  have e : reccells { r with paid := c } kv = (((reccells r kv).setIfInBounds 24 (.int .i64 c.f)).setIfInBounds 25 (.int .i64 c.e)).setIfInBounds 26 (.int .i64 c.x) := by simp [reccells]
  rw [e]
  exact heap_setCell_same _ _ _ _ _ _ (heap_setCell_same _ _ _ _ _ _ (heap_setCell_same _ _ _ _ _ _ h))
set_option maxHeartbeats 2000000 in
theorem carve_raw {w : World} {g : Nat} {r : Rec} {kv : Value} (hh : w.heap[g]? = some (.cells (reccells r kv) 80 (0, 0))) (q0 q1 q2 : Int) (hq : in64 (q1 + 1)) (hs : (r.carved.plus (Qt.child ⟨q0, q1, q2⟩)).in64) :
    Calls Try.prog 39 #[.pointer (some ⟨g, 21, none⟩), .agg #[.int .i64 q0, .int .i64 q1, .int .i64 q2]] w fun e w' => e = .returned (.tuple #[]) ∧ w'.heap[g]? = some (.cells (reccells { r with carved := r.carved.plus (Qt.child ⟨q0, q1, q2⟩) } kv) 80 (0, 0)) ∧ Fr (One g) w w' := by
  obtain ⟨W, hW⟩ : ∃ W, Hid (W = w.alloc (.cells #[.int .i64 q0, .int .i64 q1, .int .i64 q2] 39)) := ⟨_, Lib.hid rfl⟩
  have HFW : Hid (Fr No w W) := Lib.hid (by rw [hW.out]; exact (Fr.refl _ w).alloc _)
  have HBW : Hid (W.heap[w.heap.size]? = some (.cells #[.int .i64 q0, .int .i64 q1, .int .i64 q2] 39 (0, 0))) := Lib.hid (by rw [hW.out]; exact heap_alloc_new w _)
  have HQ := Lib.hid hq
  have HS : Hid ((Qt.plus ⟨r.carved.f, r.carved.e, r.carved.x⟩ ⟨q0, q1 + 1, q2⟩).in64) := Lib.hid hs
  have HH := Lib.hid hh
  have KC : Hid (∀ w', Fr No W w' → w'.cell? ⟨g, 27, none⟩ = some (.int .i64 r.carved.f) ∧ w'.cell? ⟨g, 28, none⟩ = some (.int .i64 r.carved.e) ∧ w'.cell? ⟨g, 29, none⟩ = some (.int .i64 r.carved.x) ∧
      w'.cell? ⟨w.heap.size, 0, none⟩ = some (.int .i64 q0) ∧ w'.cell? ⟨w.heap.size, 1, none⟩ = some (.int .i64 q1) ∧ w'.cell? ⟨w.heap.size, 2, none⟩ = some (.int .i64 q2) ∧
      w'.frozen? ⟨g, 27, none⟩ = false ∧ w'.frozen? ⟨g, 28, none⟩ = false ∧ w'.frozen? ⟨g, 29, none⟩ = false ∧ g < w'.heap.size) := Lib.hid fun w' hf => by
    have hb := (HFW.out.trans hf).heap HH.out id
    have hb2 := hf.heap HBW.out id
    exact ⟨cell_blk hb rfl, cell_blk hb rfl, cell_blk hb rfl, cell_blk hb2 rfl, cell_blk hb2 rfl, cell_blk hb2 rfl, free_blk hb _, free_blk hb _, free_blk hb _, lt_of_block hb⟩
  obtain ⟨b0, b1, b2, b3, b4, b5, b6, b7, b8, b9⟩ := KC.out _ (Fr.refl _ _)
  have lt : w.heap.size < W.heap.size := World.block_lt_of_cell? _ _ b3
  clear hh hq hs
  go_enter Try.func39, Try.ntmps39
  go_wp2_with fail
  rw [← hW.out]
  go_region_law (first
      | (go_simp; go_at_call 37; (with_reducible refine (forChild_raw q0 q1 q2 _ HQ.out).mono ?_); rintro e w1 ⟨rfl, hf1⟩; obtain ⟨d0, d1, d2, d3, d4, d5, d6, d7, d8, d9⟩ := KC.out _ ((Fr.refl _ W).drew.trans hf1))
      | (go_simp; go_at_call 51; (with_reducible refine (plus_raw r.carved.f r.carved.e r.carved.x q0 (q1 + 1) q2 _ HS.out).mono ?_); rintro e w2 ⟨rfl, hf2⟩; obtain ⟨e0, e1, e2, e3, e4, e5, e6, e7, e8, e9⟩ := KC.out _ (((Fr.refl _ W).drew.trans hf1).trans hf2)))
  all_goals
    go_end0
    exact ⟨rfl, heap_carved (r.carved.plus (Qt.child ⟨q0, q1, q2⟩)) (((HFW.out.drew.trans hf1).trans hf2).heap HH.out id), ((((HFW.out.drew.trans hf1).trans hf2).mono fun _ _ h => h.elim).put (.inl (One.self g)) _ _ |>.put (.inl (One.self g)) _ _).put (.inl (One.self g)) _ _⟩
set_option maxHeartbeats 2000000 in
theorem uncarve_raw {w : World} {g : Nat} {r : Rec} {kv : Value} (hh : w.heap[g]? = some (.cells (reccells r kv) 80 (0, 0))) (q0 q1 q2 : Int) (hq : in64 (q1 + 1)) (hs : (r.carved.minus (Qt.child ⟨q0, q1, q2⟩)).in64) :
    Calls Try.prog 41 #[.pointer (some ⟨g, 21, none⟩), .agg #[.int .i64 q0, .int .i64 q1, .int .i64 q2]] w fun e w' => e = .returned (.tuple #[]) ∧ w'.heap[g]? = some (.cells (reccells { r with carved := r.carved.minus (Qt.child ⟨q0, q1, q2⟩) } kv) 80 (0, 0)) ∧ Fr (One g) w w' := by
  obtain ⟨W, hW⟩ : ∃ W, Hid (W = w.alloc (.cells #[.int .i64 q0, .int .i64 q1, .int .i64 q2] 39)) := ⟨_, Lib.hid rfl⟩
  have HFW : Hid (Fr No w W) := Lib.hid (by rw [hW.out]; exact (Fr.refl _ w).alloc _)
  have HBW : Hid (W.heap[w.heap.size]? = some (.cells #[.int .i64 q0, .int .i64 q1, .int .i64 q2] 39 (0, 0))) := Lib.hid (by rw [hW.out]; exact heap_alloc_new w _)
  have HQ := Lib.hid hq
  have HS : Hid ((Qt.minus ⟨r.carved.f, r.carved.e, r.carved.x⟩ ⟨q0, q1 + 1, q2⟩).in64) := Lib.hid hs
  have HH := Lib.hid hh
  have KC : Hid (∀ w', Fr No W w' → w'.cell? ⟨g, 27, none⟩ = some (.int .i64 r.carved.f) ∧ w'.cell? ⟨g, 28, none⟩ = some (.int .i64 r.carved.e) ∧ w'.cell? ⟨g, 29, none⟩ = some (.int .i64 r.carved.x) ∧
      w'.cell? ⟨w.heap.size, 0, none⟩ = some (.int .i64 q0) ∧ w'.cell? ⟨w.heap.size, 1, none⟩ = some (.int .i64 q1) ∧ w'.cell? ⟨w.heap.size, 2, none⟩ = some (.int .i64 q2) ∧
      w'.frozen? ⟨g, 27, none⟩ = false ∧ w'.frozen? ⟨g, 28, none⟩ = false ∧ w'.frozen? ⟨g, 29, none⟩ = false ∧ g < w'.heap.size) := Lib.hid fun w' hf => by
    have hb := (HFW.out.trans hf).heap HH.out id
    have hb2 := hf.heap HBW.out id
    exact ⟨cell_blk hb rfl, cell_blk hb rfl, cell_blk hb rfl, cell_blk hb2 rfl, cell_blk hb2 rfl, cell_blk hb2 rfl, free_blk hb _, free_blk hb _, free_blk hb _, lt_of_block hb⟩
  obtain ⟨b0, b1, b2, b3, b4, b5, b6, b7, b8, b9⟩ := KC.out _ (Fr.refl _ _)
  have lt : w.heap.size < W.heap.size := World.block_lt_of_cell? _ _ b3
  clear hh hq hs
  go_enter Try.func41, Try.ntmps41
  go_wp2_with fail
  rw [← hW.out]
  go_region_law (first
      | (go_simp; go_at_call 37; (with_reducible refine (forChild_raw q0 q1 q2 _ HQ.out).mono ?_); rintro e w1 ⟨rfl, hf1⟩; obtain ⟨d0, d1, d2, d3, d4, d5, d6, d7, d8, d9⟩ := KC.out _ ((Fr.refl _ W).drew.trans hf1))
      | (go_simp; go_at_call 47; (with_reducible refine (minus_raw r.carved.f r.carved.e r.carved.x q0 (q1 + 1) q2 _ HS.out).mono ?_); rintro e w2 ⟨rfl, hf2⟩; obtain ⟨e0, e1, e2, e3, e4, e5, e6, e7, e8, e9⟩ := KC.out _ (((Fr.refl _ W).drew.trans hf1).trans hf2)))
  all_goals
    go_end0
    exact ⟨rfl, heap_carved (r.carved.minus (Qt.child ⟨q0, q1, q2⟩)) (((HFW.out.drew.trans hf1).trans hf2).heap HH.out id), ((((HFW.out.drew.trans hf1).trans hf2).mono fun _ _ h => h.elim).put (.inl (One.self g)) _ _ |>.put (.inl (One.self g)) _ _).put (.inl (One.self g)) _ _⟩
end Go.Proofs.Ytdogpkcalflhbaa
