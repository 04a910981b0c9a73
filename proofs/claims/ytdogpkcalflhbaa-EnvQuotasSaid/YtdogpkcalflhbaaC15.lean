/- New. -/
import Derived.Test.YtdogpkcalflhbaaC14
set_option linter.unusedSimpArgs false
set_option linter.unusedVariables false
namespace Go.Proofs.Ytdogpkcalflhbaa
open Go.RowKit
def Tb.empty (s : Int) : Tb := ⟨fun _ => none, 0, s⟩
def Lay.empty (b tb cb : Nat) : Lay := ⟨tb, cb, fun _ => 0, fun _ => .slice none 0 0, fun k => if k = b then some .table else if k = tb then some .slots else if k = cb then some .cells else none⟩
theorem empty_at {w w' : World} {cb tb b : Nat} {s : Int} (h : Empty w cb tb w') (hb : w'.heap[b]? = some (.cells #[.pointer (some ⟨tb, 0, none⟩), .int .i64 s] 75 (0, 0))) (h1 : b ≠ tb) (h2 : b ≠ cb) : TabAt w' b (Lay.empty b tb cb) (Tb.empty s) := by
  obtain ⟨C, hC, hsz, hc⟩ := h.cells
  have h3 := h.ne
  refine ⟨by simp [Lay.empty], by simp only [Lay.empty]; rw [if_neg (Ne.symm h1)]; simp, by simp only [Lay.empty]; rw [if_neg (Ne.symm h2), if_neg (by omega)]; simp, (fun n r hn => by cases hn), (fun n r g hn => by cases hn), fun k hk => ?_, hb, ⟨0, h.slots⟩, ⟨C, hC, hsz, hc⟩, (fun n r hn => by cases hn), (fun n r hn => by cases hn), (fun n r hn => by cases hn), Nat.zero_le _⟩
  unfold Own at hk
  simp only [Lay.empty] at hk
  by_cases e1 : k = b
  · subst e1; exact lt_of_block hb
  · rw [if_neg e1] at hk
    by_cases e2 : k = tb
    · subst e2; exact lt_of_block h.slots
    · rw [if_neg e2] at hk
      by_cases e3 : k = cb
      · subst e3; exact lt_of_block hC
      · rw [if_neg e3] at hk; exact absurd rfl hk
set_option maxRecDepth 100000 in
set_option maxHeartbeats 4000000 in
theorem New_any (s q0 q1 q2 : Int) (hq : Qok ⟨q0, q1, q2⟩) (w : World) : Calls Try.prog 27 #[.int .i64 s, .agg #[.int .i64 q0, .int .i64 q1, .int .i64 q2]] w fun e w' => ∃ b L, e = .returned (.pointer (some ⟨b, 0, none⟩)) ∧ TabAt w' b L ((Tb.empty s).add 0 (Rec.new s (-1) ⟨q0, q1, q2⟩)) ∧ Fr No w w' ∧ ∀ k, Own L k → w.heap.size ≤ k := by
  obtain ⟨W, hW⟩ : ∃ W, Hid (W = w.alloc (.cells #[.int .i64 q0, .int .i64 q1, .int .i64 q2] 39)) := ⟨_, Lib.hid rfl⟩
  have HQ : Hid (Boxed w q0 q1 q2 W) := Lib.hid (by rw [hW.out]; exact Boxed.mk' _ _ _ _)
  obtain ⟨⟨h0, h1⟩, ⟨h2, h3⟩, ⟨h4, h5⟩⟩ := hq
  simp only at h0 h1 h2 h3 h4 h5
  have HW0 := Lib.hid (fun w => within_raw q0 w h0 h1)
  have HW1 := Lib.hid (fun w => within_raw q1 w h2 h3)
  have HW2 := Lib.hid (fun w => within_raw q2 w h4 h5)
  clear h0 h1 h2 h3 h4 h5
  go_enter Try.func27, Try.ntmps27
  go_wp2_with fail
  rw [← hW.out]
  refine (New44 _).mono ?_
  rintro e w1 ⟨cb, tb, rfl, he, hfe⟩
  have HE := Lib.hid he
  have HFE := Lib.hid hfe
  clear he hfe
  go_wp2_with fail
  obtain ⟨w2, hw2⟩ : ∃ w2, w2 = w1.alloc (.cells #[.pointer (some ⟨tb, 0, none⟩), .int .i64 s] 75) := ⟨_, rfl⟩
  rw [← hw2]
  have HB2 : Hid (w2.heap[w1.heap.size]? = some (.cells #[.pointer (some ⟨tb, 0, none⟩), .int .i64 s] 75 (0, 0)) ∧ Fr No w1 w2 ∧ tb < w1.heap.size ∧ cb < w1.heap.size) := Lib.hid (by
    rw [hw2]; exact ⟨heap_alloc_new _ _, (Fr.refl _ _).alloc _, lt_of_block HE.out.slots, by obtain ⟨C, h, _⟩ := HE.out.cells; exact lt_of_block h⟩)
  clear hw2
  have HQ2 := Lib.hid (HQ.out.no (HFE.out.trans HB2.out.2.1))
  have KC : Hid (∀ w', Fr No w2 w' → w'.cell? ⟨w.heap.size, 0, none⟩ = some (.int .i64 q0) ∧ w'.cell? ⟨w.heap.size, 1, none⟩ = some (.int .i64 q1) ∧ w'.cell? ⟨w.heap.size, 2, none⟩ = some (.int .i64 q2)) := Lib.hid fun w' hf => ⟨(HQ2.out.no hf).c0, (HQ2.out.no hf).c1, (HQ2.out.no hf).c2⟩
  obtain ⟨c0, c1, c2⟩ := KC.out _ (Fr.refl _ _)
  have f0 := free_blk HQ2.out.blk 0
  have f1 := free_blk HQ2.out.blk 1
  have f2 := free_blk HQ2.out.blk 2
  have clt := HQ2.out.lt
  obtain ⟨w3, hw3⟩ : ∃ w3, w3 = ((w2.setCell ⟨w.heap.size, 0, none⟩ (.int .i64 q0)).setCell ⟨w.heap.size, 1, none⟩ (.int .i64 q1)).setCell ⟨w.heap.size, 2, none⟩ (.int .i64 q2) := ⟨_, rfl⟩
  have HB3 : Hid (w3.heap[w.heap.size]? = some (.cells #[.int .i64 q0, .int .i64 q1, .int .i64 q2] 39 (0, 0)) ∧ Fr (One w.heap.size) w2 w3) := Lib.hid (by
    rw [hw3]
    exact ⟨heap_setCell_same _ _ _ _ _ _ (heap_setCell_same _ _ _ _ _ _ (heap_setCell_same _ _ _ _ _ _ HQ2.out.blk)), ((Fr.set1 _ _ _ _).put (.inl (One.self _)) _ _).put (.inl (One.self _)) _ _⟩)
  have KS : Hid (w3.cell? ⟨w.heap.size, 0, none⟩ = some (.int .i64 q0) ∧ w3.cell? ⟨w.heap.size, 1, none⟩ = some (.int .i64 q1) ∧ w3.cell? ⟨w.heap.size, 2, none⟩ = some (.int .i64 q2)) := Lib.hid ⟨cell_blk HB3.out.1 rfl, cell_blk HB3.out.1 rfl, cell_blk HB3.out.1 rfl⟩
  have KS2 : Hid (w3.drew.cell? ⟨w.heap.size, 0, none⟩ = some (.int .i64 q0) ∧ w3.drew.cell? ⟨w.heap.size, 1, none⟩ = some (.int .i64 q1) ∧ w3.drew.cell? ⟨w.heap.size, 2, none⟩ = some (.int .i64 q2)) := Lib.hid KS.out
  rw [hw3] at KS KS2
  have HW3 := Lib.hid hw3
  clear hw3
  go_region_held3 (fun w' => w'.cell? ⟨w.heap.size, 0, none⟩ = some (.int .i64 q0) ∧ w'.cell? ⟨w.heap.size, 1, none⟩ = some (.int .i64 q1) ∧ w'.cell? ⟨w.heap.size, 2, none⟩ = some (.int .i64 q2))
    (first | (with_reducible exact KC.out _ (Fr.refl _ _).drew) | (with_reducible exact KS2.out) | go_keep)
    (first
    | (go_at_call 45; (with_reducible refine (HW0.out _).mono ?_); rintro e w' ⟨rfl, rfl⟩)
    | (go_at_call 45; (with_reducible refine (HW1.out _).mono ?_); rintro e w' ⟨rfl, rfl⟩)
    | (go_at_call 45; (with_reducible refine (HW2.out _).mono ?_); rintro e w' ⟨rfl, rfl⟩))
  rw [← HW3.out]
  obtain ⟨w4, hw4⟩ : ∃ w4, w4 = w3.drew := ⟨_, rfl⟩
  rw [← hw4]
  have HWS : Hid (W.heap.size = w.heap.size + 1) := Lib.hid (by rw [hW.out]; simp)
  have HB4 : Hid (w4.heap[w.heap.size]? = some (.cells #[.int .i64 q0, .int .i64 q1, .int .i64 q2] 39 (0, 0)) ∧ Fr (One w.heap.size) w2 w4) := Lib.hid (by rw [hw4]; exact ⟨HB3.out.1, HB3.out.2.drew⟩)
  have HT4 : Hid (TabAt w4 w1.heap.size (Lay.empty w1.heap.size tb cb) (Tb.empty s)) := Lib.hid (by
    have h1 := HE.out.cbw
    have h2 := HE.out.ne
    have h3 := HB2.out
    have h4 := HWS.out
    have hf : Fr (One w.heap.size) w1 w4 := (HB2.out.2.1.mono fun _ _ h => h.elim).trans HB4.out.2
    exact empty_at (HE.out.keep hf (One.not (by omega)) (One.not (by omega))) (HB4.out.2.heap HB2.out.1 (One.not (by omega))) (by omega) (by omega))
  have HF4 : Hid (Fr No w w4) := Lib.hid (HQ2.out.fr.then HB4.out.2 fun i hi hx => by have e : i = w.heap.size := hx; omega)
  have HLT : Hid (w1.heap.size ≠ tb ∧ w1.heap.size ≠ cb ∧ w.heap.size ≠ tb ∧ w.heap.size ≠ cb ∧ w.heap.size < cb ∧ w.heap.size < tb ∧ w1.heap.size < w4.heap.size ∧ w.heap.size < w1.heap.size) := Lib.hid (by
    have h1 := HE.out.cbw
    have h2 := HE.out.ne
    have h3 := HB2.out.2.2
    have h4 := HWS.out
    have h5 := lt_of_block HB2.out.1
    have h6 := HB4.out.2.size
    omega)
  have KD : Hid (∀ w' w'', Fr No w4 w' → Fr (Two tb cb) w' w'' → w''.cell? ⟨w1.heap.size, 0, none⟩ = some (.pointer (some ⟨tb, 0, none⟩)) ∧ w''.cell? ⟨w.heap.size, 0, none⟩ = some (.int .i64 q0) ∧ w''.cell? ⟨w.heap.size, 1, none⟩ = some (.int .i64 q1) ∧ w''.cell? ⟨w.heap.size, 2, none⟩ = some (.int .i64 q2)) := Lib.hid fun w' w'' hf hf2 => by
    have e := HLT.out
    have hb := hf2.heap (hf.heap HT4.out.hb id) (Two.not e.1 e.2.1)
    have hq := hf2.heap (hf.heap HB4.out.1 id) (Two.not e.2.2.1 e.2.2.2.1)
    exact ⟨cell_blk hb rfl, cell_blk hq rfl, cell_blk hq rfl, cell_blk hq rfl⟩
  have HPUT : Hid (∀ o, Calls Try.prog 38 #[.pointer (some ⟨tb, 0, none⟩), .pointer (some ⟨w4.heap.size, 0, none⟩)] (w4.alloc o).drew fun e w' => e = .returned (.tuple #[.int .i64 0, .int .i64 0]) ∧ Laid (w4.alloc o).drew (Lay.empty w1.heap.size tb cb) 0 (.pointer (some ⟨w4.heap.size, 0, none⟩)) w' ∧ Fr (Two tb cb) (w4.alloc o).drew w') := Lib.hid fun o =>
    (Put_ok (HT4.out.no ((Fr.refl No w4).alloc o).drew) 0 (Nat.le_refl _) (by omega) rfl (fun m h1 h2 => by omega) _).mono fun e w' ⟨h1, h2⟩ => ⟨h1, h2, h2.fr⟩
  clear hw4 c0 c1 c2 f0 f1 f2 clt
  obtain ⟨cb0, c0, c1, c2⟩ := KD.out _ _ (Fr.refl _ _) (Fr.refl _ _)
  have clt : w.heap.size < w4.heap.size := World.block_lt_of_cell? _ _ c0
  have blt : w1.heap.size < w4.heap.size := World.block_lt_of_cell? _ _ cb0
  go_wp2_with fail
  go_region_held3 (fun w' => w'.cell? ⟨w1.heap.size, 0, none⟩ = some (.pointer (some ⟨tb, 0, none⟩)) ∧ w'.cell? ⟨w.heap.size, 0, none⟩ = some (.int .i64 q0) ∧ w'.cell? ⟨w.heap.size, 1, none⟩ = some (.int .i64 q1) ∧ w'.cell? ⟨w.heap.size, 2, none⟩ = some (.int .i64 q2))
    (first | (with_reducible exact KD.out _ _ (Fr.refl _ _).drew (Fr.refl _ _)) | (with_reducible exact KD.out _ _ ((Fr.refl _ _).alloc _).drew (Fr.refl _ _)) | (with_reducible exact KD.out _ _ ((Fr.refl _ _).alloc _).drew hf6) | go_keep)
    (first
      | ((with_reducible refine (HPUT.out _).mono ?_); rintro e w6 ⟨rfl, hl6, hf6⟩))
  have hl6' := hl6
  have HL6 := Lib.hid hl6
  have HF6 := Lib.hid hf6
  have hno : (Lay.empty w1.heap.size tb cb).F w4.heap.size = none := by
    have h1 := HLT.out
    have h2 := HB2.out.2.2
    simp only [Lay.empty]
    rw [if_neg (by omega), if_neg (by omega), if_neg (by omega)]
  have hg6 : w6.heap[w4.heap.size]? = some (.cells (reccells (Rec.new s (-1) ⟨q0, q1, q2⟩) (.slice none 0 0)) 80 (0, 0)) := by
    refine hf6.heap (Fr.heap (Fr.refl No _).drew (heap_alloc_new w4 _) id) (Two.not ?_ ?_)
    · have := HLT.out; have := HB2.out.2.2; omega
    · have := HLT.out; have := HB2.out.2.2; omega
  have HT6 := Lib.hid ((HT4.out.no ((Fr.refl _ w4).alloc _).drew).add hno hl6' hg6 rfl rfl (by omega))
  have HFF : Hid (Fr No w w6) := Lib.hid ((HF4.out.trans ((Fr.refl No w4).alloc _).drew).then hf6 fun i hi hx => by
    have e := HLT.out
    rcases hx with hx | hx <;> omega)
  clear hl6 hl6' hno hg6 hf6
  go_wp2_with fail
  go_ret
  refine ⟨w1.heap.size, _, rfl, HT6.out, HFF.out, fun k hk => ?_⟩
  unfold Own at hk
  simp only [Lay.add, Lay.empty] at hk
  have e := HLT.out
  by_cases e1 : k = w4.heap.size
  · omega
  · rw [if_neg e1] at hk
    by_cases e2 : k = w1.heap.size
    · omega
    · rw [if_neg e2] at hk
      by_cases e3 : k = tb
      · omega
      · rw [if_neg e3] at hk
        by_cases e4 : k = cb
        · omega
        · rw [if_neg e4] at hk; exact absurd rfl hk
end Go.Proofs.Ytdogpkcalflhbaa
