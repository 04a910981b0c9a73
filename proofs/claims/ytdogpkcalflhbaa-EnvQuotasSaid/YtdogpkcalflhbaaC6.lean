/- Info. -/
import Derived.Test.YtdogpkcalflhbaaC5
import Derived.Test.YtdogpkcalflhbaaX
set_option linter.unusedSimpArgs false
set_option linter.unusedVariables false
namespace Go.Proofs.Ytdogpkcalflhbaa
open Go.RowKit

def infocells (r : Rec) : Array Value :=
  #[.int .i64 r.serial, .int .i64 r.parent, .int .i64 r.state, .int .i64 r.code, .int .i64 r.bits, .bool r.frozen, .int .u32 r.regs.r0, .int .u32 r.regs.r1, .int .u32 r.regs.r2, .int .u32 r.regs.r3, .int .u32 r.regs.r4, .int .u32 r.regs.r5, .int .u32 r.regs.r6, .int .u32 r.regs.r7, .int .u32 r.regs.pc, .int .i64 r.whole.f, .int .i64 r.whole.e, .int .i64 r.whole.x, .int .i64 r.left.f, .int .i64 r.left.e, .int .i64 r.left.x]
def Rec.none : Rec := ⟨0, 0, 0, 0, 0, false, Rg.zero, Qt.zero, Qt.zero, Qt.zero, []⟩
def Tb.info (T : Tb) (e : Int) : Rec × Int := match T.at e with
  | .none => (Rec.none, 90)
  | some r => (r, 0)
theorem Try.params14ok : True := trivial
/-- The first part of an environment's record, before its quota. -/
def envcells (r : Rec) : List Value := [.int .i64 r.serial, .int .i64 r.parent, .int .i64 r.state, .int .i64 r.code, .int .i64 r.bits, .bool r.frozen, .int .u32 r.regs.r0, .int .u32 r.regs.r1, .int .u32 r.regs.r2, .int .u32 r.regs.r3, .int .u32 r.regs.r4, .int .u32 r.regs.r5, .int .u32 r.regs.r6, .int .u32 r.regs.r7, .int .u32 r.regs.pc, .int .i64 0, .int .i64 0, .int .i64 0, .int .i64 0, .int .i64 0, .int .i64 0]
theorem envcells_one (r : Rec) : OneL (envcells r) := by
  intro v hv
  simp only [envcells, List.mem_cons, List.not_mem_nil, or_false] at hv
  rcases hv with rfl | rfl | rfl | rfl | rfl | rfl | rfl | rfl | rfl | rfl | rfl | rfl | rfl | rfl | rfl | rfl | rfl | rfl | rfl | rfl | rfl <;> rfl
theorem infocells_one (r : Rec) : OneL (infocells r).toList := by
  intro v hv
  simp only [infocells, List.mem_cons, List.not_mem_nil, or_false] at hv
  rcases hv with rfl | rfl | rfl | rfl | rfl | rfl | rfl | rfl | rfl | rfl | rfl | rfl | rfl | rfl | rfl | rfl | rfl | rfl | rfl | rfl | rfl <;> rfl
def zero41 : Array Value := #[.int .i64 0, .int .i64 0, .int .i64 0, .int .i64 0, .int .i64 0, .bool false, .int .u32 0, .int .u32 0, .int .u32 0, .int .u32 0, .int .u32 0, .int .u32 0, .int .u32 0, .int .u32 0, .int .u32 0, .int .i64 0, .int .i64 0, .int .i64 0, .int .i64 0, .int .i64 0, .int .i64 0]
theorem zero41_one : OneL zero41.toList := by
  intro v hv
  simp only [zero41, List.mem_cons, List.not_mem_nil, or_false] at hv
  rcases hv with rfl | rfl | rfl | rfl | rfl | rfl | rfl | rfl | rfl | rfl | rfl | rfl | rfl | rfl | rfl | rfl | rfl | rfl | rfl | rfl | rfl <;> rfl
theorem zero41_info : infocells Rec.none = zero41 := by
  simp [infocells, zero41, Rec.none, Rec.left, Qt.minus, Qt.zero, Rg.zero]

section
variable {w : World} {b : Nat} {L : Lay} {T : Tb}
set_option maxHeartbeats 4000000 in
theorem Info_none (h : TabAt w b L T) (e : Int) (hr : T.at e = .none) :
    Calls Try.prog 14 #[.pointer (some ⟨b, 0, .none⟩), .int .i64 e] w fun v w' => v = .returned (.tuple #[.agg zero41, .int .i64 90]) ∧ Fr No w w' := by
  have h1 := h.head
  have hbw : b < w.heap.size := lt_of_block h.hb
  obtain ⟨W, hW⟩ : ∃ W, Hid (W = w.alloc (.cells #[.int .i64 0, .int .i64 0, .int .i64 0, .int .i64 0, .int .i64 0, .bool false, .int .u32 0, .int .u32 0, .int .u32 0, .int .u32 0, .int .u32 0, .int .u32 0, .int .u32 0, .int .u32 0, .int .u32 0, .int .i64 0, .int .i64 0, .int .i64 0, .int .i64 0, .int .i64 0, .int .i64 0] 41)) := ⟨_, Lib.hid rfl⟩
  have HFW : Hid (Fr No w W) := Lib.hid (by rw [hW.out]; exact (Fr.refl _ w).alloc _)
  have HBW : Hid (W.heap[w.heap.size]? = some (.cells zero41 41 (0, 0))) := Lib.hid (by rw [hW.out]; exact heap_alloc_new w _)
  have HB := Lib.hid (at_none (h.no HFW.out) hr)
  clear h hr
  go_enter Try.func14, Try.ntmps14
  go_wp2_with fail
  rw [← hW.out]
  refine HB.out.mono ?_
  rintro r w1 ⟨rfl, hf⟩
  have HW1 : Hid (w1.heap[w.heap.size]? = some (.cells zero41 41 (0, 0))) := Lib.hid (hf.heap HBW.out id)
  have HF1 : Hid (Fr No w w1) := Lib.hid (HFW.out.trans hf)
  clear hf
  go_wp2_with (with_reducible show wpList _ _ _ (Oper.mk none (.store 41 _ _) _ _ _ _ :: _) _ _; refine Stop.mk ?_)
  refine Stop.go ?_
  refine wpList_store_seg rfl rfl (.tmp 4) (.tmp 16) 41 rfl 21 Try.sizeOf41 w.heap.size 0 zero41.toList rfl rfl rfl zero41_one ⟨zero41, 41, HW1.out, by simp [zero41]⟩ ?_
  obtain ⟨w2, hw2⟩ : ∃ w2, w2 = World.setSeg w1 w.heap.size 0 zero41.toList := ⟨_, rfl⟩
  rw [← hw2]
  have HB2 : Hid (w2.heap[w.heap.size]? = some (.cells zero41 41 (0, 0))) := Lib.hid (by rw [hw2]; exact heap_seg_all HW1.out rfl)
  have HF2 : Hid (Fr No w w2) := Lib.hid (by rw [hw2]; exact HF1.out.seg (.inr (Nat.le_refl _)) _ _)
  clear hw2
  go_wp2_with fail
  exact bodyPost_ret (results_cell_tmp (L := zero41.toList) Try.results14 Try.isAgg41 Try.sizeOf41 rfl rfl (SegAt.of_block HB2.out fun j v hv => by rw [← hv, Nat.zero_add, Array.getElem?_toList])) rfl ⟨rfl, HF2.out⟩
set_option maxHeartbeats 8000000 in
theorem Info_some (h : TabAt w b L T) (n : Nat) (r : Rec) (hn : T.live n = some r) (ok : Rok r) :
    Calls Try.prog 14 #[.pointer (some ⟨b, 0, .none⟩), .int .i64 (n : Int)] w fun v w' => v = .returned (.tuple #[.agg (infocells r), .int .i64 0]) ∧ Fr No w w' := by
  have h1 := h.head
  have hbw : b < w.heap.size := lt_of_block h.hb
  obtain ⟨W, hW⟩ : ∃ W, Hid (W = w.alloc (.cells #[.int .i64 0, .int .i64 0, .int .i64 0, .int .i64 0, .int .i64 0, .bool false, .int .u32 0, .int .u32 0, .int .u32 0, .int .u32 0, .int .u32 0, .int .u32 0, .int .u32 0, .int .u32 0, .int .u32 0, .int .i64 0, .int .i64 0, .int .i64 0, .int .i64 0, .int .i64 0, .int .i64 0] 41)) := ⟨_, Lib.hid rfl⟩
  have HFW : Hid (Fr No w W) := Lib.hid (by rw [hW.out]; exact (Fr.refl _ w).alloc _)
  have HBW : Hid (W.heap[w.heap.size]? = some (.cells zero41 41 (0, 0))) := Lib.hid (by rw [hW.out]; exact heap_alloc_new w _)
  have HB := Lib.hid (at_some (h.no HFW.out) hn)
  have HR := Lib.hid (h.hrb n r hn)
  obtain ⟨g, hg⟩ : ∃ g, L.rb n = g := ⟨_, rfl⟩
  obtain ⟨kv, hkv⟩ : ∃ kv, L.kv n = kv := ⟨_, rfl⟩
  rw [hg, hkv] at HR
  rw [hg] at HB
  have HOK := Lib.hid ok
  clear h hn hg hkv ok
  go_enter Try.func14, Try.ntmps14
  go_wp2_with fail
  rw [← hW.out]
  refine HB.out.mono ?_
  rintro v w1 ⟨rfl, hf⟩
  have HW1 : Hid (w1.heap[w.heap.size]? = some (.cells zero41 41 (0, 0))) := Lib.hid (hf.heap HBW.out id)
  have HF1 : Hid (Fr No w w1) := Lib.hid (HFW.out.trans hf)
  clear hf
  go_wp2_with (with_reducible show wpList _ _ _ (Oper.mk (some 20) _ _ _ _ _ :: _) _ _; refine Stop.mk ?_)
  refine Stop.go ?_
  refine wpList_load_seg rfl (.tmp 19) 41 rfl 21 Try.isAgg41 Try.sizeOf41 g 0 (envcells r) rfl rfl (SegAt.of_block (HF1.out.heap HR.out id) fun j v hv => ?seg) ?_
  case seg =>
    have hj : j < 21 := (List.getElem?_eq_some_iff.1 hv).1
    rw [← hv, Nat.zero_add]
    have e : (reccells r kv).toList.take 21 = envcells r := rfl
    rw [← e, List.getElem?_take, if_pos hj, Array.getElem?_toList]
  go_wp2_with (with_reducible show wpList _ _ _ (Oper.mk none (.store 41 _ _) _ _ _ _ :: _) _ _; refine Stop.mk ?_)
  obtain ⟨W2, hW2⟩ : ∃ W2, W2 = w1.alloc (.cells #[.int .i64 0, .int .i64 0, .int .i64 0, .int .i64 0, .int .i64 0, .bool false, .int .u32 0, .int .u32 0, .int .u32 0, .int .u32 0, .int .u32 0, .int .u32 0, .int .u32 0, .int .u32 0, .int .u32 0, .int .i64 0, .int .i64 0, .int .i64 0, .int .i64 0, .int .i64 0, .int .i64 0] 41) := ⟨_, rfl⟩
  rw [← hW2]
  have HW2 : Hid (W2.heap[w1.heap.size]? = some (.cells zero41 41 (0, 0)) ∧ Fr No w1 W2) := Lib.hid (by rw [hW2]; exact ⟨heap_alloc_new w1 _, (Fr.refl _ _).alloc _⟩)
  clear hW2
  refine Stop.go ?_
  refine wpList_store_seg rfl rfl (.tmp 7) (.tmp 20) 41 rfl 21 Try.sizeOf41 w1.heap.size 0 (envcells r) rfl rfl rfl (envcells_one _) ⟨zero41, 41, HW2.out.1, by simp [zero41]⟩ ?_
  obtain ⟨w3, hw3⟩ : ∃ w3, w3 = World.setSeg W2 w1.heap.size 0 (envcells r) := ⟨_, rfl⟩
  rw [← hw3]
  have HB3 : Hid (w3.heap[w1.heap.size]? = some (.cells (envcells r).toArray 41 (0, 0)) ∧ Fr No w1 w3) := Lib.hid (by rw [hw3]; exact ⟨heap_seg_all HW2.out.1 rfl, HW2.out.2.seg (.inr (Nat.le_refl _)) _ _⟩)
  clear hw3
  have HR3 : Hid (w3.heap[g]? = some (.cells (reccells r kv) 80 (0, 0))) := Lib.hid ((HF1.out.trans HB3.out.2).heap HR.out id)
  have KC : Hid (∀ w', Fr No w1 w' → w'.cell? ⟨g, 21, .none⟩ = some (.int .i64 r.whole.f) ∧ w'.cell? ⟨g, 22, .none⟩ = some (.int .i64 r.whole.e) ∧ w'.cell? ⟨g, 23, .none⟩ = some (.int .i64 r.whole.x)) := Lib.hid fun w' hf => by
    have hb := (HF1.out.trans hf).heap HR.out id
    exact ⟨cell_blk hb rfl, cell_blk hb rfl, cell_blk hb rfl⟩
  have KB : Hid (∀ w', Fr No w3 w' → w'.heap[w1.heap.size]? = some (.cells (envcells r).toArray 41 (0, 0))) := Lib.hid fun w' hf => hf.heap HB3.out.1 id
  obtain ⟨b0, b1, b2⟩ := KC.out _ HB3.out.2
  have lt : g < w3.heap.size := World.block_lt_of_cell? _ _ b0
  go_wp2_with fail
  go_region_held3 (fun w' => w'.cell? ⟨g, 21, .none⟩ = some (.int .i64 r.whole.f) ∧ w'.cell? ⟨g, 22, .none⟩ = some (.int .i64 r.whole.e) ∧ w'.cell? ⟨g, 23, .none⟩ = some (.int .i64 r.whole.x))
    (first | go_keep | (with_reducible exact KC.out _ HB3.out.2.drew) | (with_reducible exact KC.out _ (HB3.out.2.drew.trans hf4)) | (with_reducible exact KC.out _ (((((HB3.out.2.drew.trans hf4).put (.inr (Nat.le_refl _)) _ _).put (.inr (Nat.le_refl _)) _ _).put (.inr (Nat.le_refl _)) _ _))) | (with_reducible exact KC.out _ (((((((((HB3.out.2.drew.trans hf4).put (.inr (Nat.le_refl _)) _ _).put (.inr (Nat.le_refl _)) _ _).put (.inr (Nat.le_refl _)) _ _)).put (.inr (Nat.le_refl _)) _ _).put (.inr (Nat.le_refl _)) _ _).put (.inr (Nat.le_refl _)) _ _))))
    (first
      | ((with_reducible refine (left_any (Fr.heap (Fr.refl No w3).drew HR3.out id) HOK.out).mono ?_); rintro e w4 ⟨rfl, hf4⟩; have hb := KB.out _ ((Fr.refl _ w3).drew.trans hf4);
         have d15 : w4.cell? ⟨w1.heap.size, 15, .none⟩ = some (.int .i64 0) := cell_blk hb rfl; have e15 := free_blk hb 15;
         have d16 : w4.cell? ⟨w1.heap.size, 16, .none⟩ = some (.int .i64 0) := cell_blk hb rfl; have e16 := free_blk hb 16;
         have d17 : w4.cell? ⟨w1.heap.size, 17, .none⟩ = some (.int .i64 0) := cell_blk hb rfl; have e17 := free_blk hb 17;
         have d18 : w4.cell? ⟨w1.heap.size, 18, .none⟩ = some (.int .i64 0) := cell_blk hb rfl; have e18 := free_blk hb 18;
         have d19 : w4.cell? ⟨w1.heap.size, 19, .none⟩ = some (.int .i64 0) := cell_blk hb rfl; have e19 := free_blk hb 19;
         have d20 : w4.cell? ⟨w1.heap.size, 20, .none⟩ = some (.int .i64 0) := cell_blk hb rfl; have e20 := free_blk hb 20;
         have lt4 := lt_of_block hb; clear hb; unfold qv))
  obtain ⟨w5, hw5⟩ : ∃ w5, w5 = ((((((w4.setCell ⟨w1.heap.size, 15, .none⟩ (.int .i64 r.whole.f)).setCell ⟨w1.heap.size, 16, .none⟩ (.int .i64 r.whole.e)).setCell ⟨w1.heap.size, 17, .none⟩ (.int .i64 r.whole.x)).setCell ⟨w1.heap.size, 18, .none⟩ (.int .i64 r.left.f)).setCell ⟨w1.heap.size, 19, .none⟩ (.int .i64 r.left.e)).setCell ⟨w1.heap.size, 20, .none⟩ (.int .i64 r.left.x)) := ⟨_, rfl⟩
  rw [← hw5]
  have HB5 : Hid (w5.heap[w1.heap.size]? = some (.cells (infocells r) 41 (0, 0)) ∧ Fr No w1 w5) := Lib.hid (by
    rw [hw5]
    constructor
    · have e : infocells r = ((((((envcells r).toArray.setIfInBounds 15 (.int .i64 r.whole.f)).setIfInBounds 16 (.int .i64 r.whole.e)).setIfInBounds 17 (.int .i64 r.whole.x)).setIfInBounds 18 (.int .i64 r.left.f)).setIfInBounds 19 (.int .i64 r.left.e)).setIfInBounds 20 (.int .i64 r.left.x) := by simp [infocells, envcells]
      rw [e]
      exact heap_setCell_same _ _ _ _ _ _ (heap_setCell_same _ _ _ _ _ _ (heap_setCell_same _ _ _ _ _ _ (heap_setCell_same _ _ _ _ _ _ (heap_setCell_same _ _ _ _ _ _ (heap_setCell_same _ _ _ _ _ _ (KB.out _ ((Fr.refl _ w3).drew.trans hf4)))))))
    · exact ((((((HB3.out.2.drew.trans hf4).put (.inr (Nat.le_refl _)) _ _).put (.inr (Nat.le_refl _)) _ _).put (.inr (Nat.le_refl _)) _ _).put (.inr (Nat.le_refl _)) _ _).put (.inr (Nat.le_refl _)) _ _).put (.inr (Nat.le_refl _)) _ _)
  clear hw5 b0 b1 b2 lt lt4
  clear d15 d16 d17 d18 d19 d20 e15 e16 e17 e18 e19 e20
  go_wp2_with (with_reducible show wpList _ _ _ (Oper.mk (some 32) _ _ _ _ _ :: _) _ _; refine Stop.mk ?_)
  refine Stop.go ?_
  refine wpList_load_seg rfl (.tmp 7) 41 rfl 21 Try.isAgg41 Try.sizeOf41 w1.heap.size 0 (infocells r).toList rfl rfl (SegAt.of_block HB5.out.1 fun j v hv => by rw [← hv, Nat.zero_add, Array.getElem?_toList]) ?_
  have HW5 : Hid (w5.heap[w.heap.size]? = some (.cells zero41 41 (0, 0))) := Lib.hid (HB5.out.2.heap HW1.out id)
  refine wpList_store_seg rfl rfl (.tmp 4) (.tmp 32) 41 rfl 21 Try.sizeOf41 w.heap.size 0 (infocells r).toList rfl rfl rfl (infocells_one _) ⟨zero41, 41, HW5.out, by simp [zero41]⟩ ?_
  obtain ⟨w6, hw6⟩ : ∃ w6, w6 = World.setSeg w5 w.heap.size 0 (infocells r).toList := ⟨_, rfl⟩
  rw [← hw6]
  have HB6 : Hid (w6.heap[w.heap.size]? = some (.cells (infocells r) 41 (0, 0)) ∧ Fr No w w6) := Lib.hid (by rw [hw6]; exact ⟨heap_seg_all HW5.out rfl, (HF1.out.trans HB5.out.2).seg (.inr (Nat.le_refl _)) _ _⟩)
  clear hw6
  go_wp2_with fail
  exact bodyPost_ret (results_cell_tmp (L := (infocells r).toList) Try.results14 Try.isAgg41 Try.sizeOf41 rfl rfl (SegAt.of_block HB6.out.1 fun j v hv => by rw [← hv, Nat.zero_add, Array.getElem?_toList])) rfl ⟨rfl, HB6.out.2⟩
end
end Go.Proofs.Ytdogpkcalflhbaa
