/- SetRegs, SetBits, Freeze, Wait, Notify. -/
import Derived.Test.YtdogpkcalflhbaaC2
import Derived.BigRegion
set_option linter.unusedSimpArgs false
set_option linter.unusedVariables false
namespace Go.Proofs.Ytdogpkcalflhbaa
open Go.RowKit

/-- Registers by value. -/
def rgv (g : Rg) : Value := .agg #[.int .u32 g.r0, .int .u32 g.r1, .int .u32 g.r2, .int .u32 g.r3, .int .u32 g.r4, .int .u32 g.r5, .int .u32 g.r6, .int .u32 g.r7, .int .u32 g.pc]

theorem rec_regs (r : Rec) (kv : Value) (g : Rg) : (((((((((reccells r kv).setIfInBounds 6 (.int .u32 g.r0)).setIfInBounds 7 (.int .u32 g.r1)).setIfInBounds 8 (.int .u32 g.r2)).setIfInBounds 9 (.int .u32 g.r3)).setIfInBounds 10 (.int .u32 g.r4)).setIfInBounds 11 (.int .u32 g.r5)).setIfInBounds 12 (.int .u32 g.r6)).setIfInBounds 13 (.int .u32 g.r7)).setIfInBounds 14 (.int .u32 g.pc) = reccells { r with regs := g } kv := by
  simp [reccells]
theorem heap_regs {w : World} {k : Nat} {r : Rec} {kv : Value} (g : Rg) (h : w.heap[k]? = some (.cells (reccells r kv) 80 (0, 0))) : ((((((((((w.setCell ⟨k, 6, none⟩ (.int .u32 g.r0)).setCell ⟨k, 7, none⟩ (.int .u32 g.r1)).setCell ⟨k, 8, none⟩ (.int .u32 g.r2)).setCell ⟨k, 9, none⟩ (.int .u32 g.r3)).setCell ⟨k, 10, none⟩ (.int .u32 g.r4)).setCell ⟨k, 11, none⟩ (.int .u32 g.r5)).setCell ⟨k, 12, none⟩ (.int .u32 g.r6)).setCell ⟨k, 13, none⟩ (.int .u32 g.r7)).setCell ⟨k, 14, none⟩ (.int .u32 g.pc))).heap[k]? = some (.cells (reccells { r with regs := g } kv) 80 (0, 0)) := by
  rw [← rec_regs]
  exact heap_setCell_same _ _ _ _ _ _ (heap_setCell_same _ _ _ _ _ _ (heap_setCell_same _ _ _ _ _ _ (heap_setCell_same _ _ _ _ _ _ (heap_setCell_same _ _ _ _ _ _ (heap_setCell_same _ _ _ _ _ _ (heap_setCell_same _ _ _ _ _ _ (heap_setCell_same _ _ _ _ _ _ (heap_setCell_same _ _ _ _ _ _ h))))))))

section
variable {w : World} {b : Nat} {L : Lay} {T : Tb}
theorem Fr.anyOwn {w w' : World} {L : Lay} (h : Fr No w w') : Fr (Own L) w w' := h.mono fun _ _ h => h.elim

/-! SetRegs -/
def Tb.setRegs (T : Tb) (e : Int) (g : Rg) : Tb × Int := match T.at e with
  | none => (T, 90)
  | some r => (T.set e.toNat { r with regs := g }, 0)
set_option maxHeartbeats 1000000 in
theorem SetRegs_any (h : TabAt w b L T) (e : Int) (g : Rg) : Calls Try.prog 10 #[.pointer (some ⟨b, 0, none⟩), .int .i64 e, rgv g] w fun r w' => r = .returned (.int .i64 (T.setRegs e g).2) ∧ Left w b L (T.setRegs e g).1 w' := by
  obtain ⟨W, hW⟩ : ∃ W, Hid (W = w.alloc (.cells #[.int .u32 g.r0, .int .u32 g.r1, .int .u32 g.r2, .int .u32 g.r3, .int .u32 g.r4, .int .u32 g.r5, .int .u32 g.r6, .int .u32 g.r7, .int .u32 g.pc] 33)) := ⟨_, Lib.hid rfl⟩
  have HFW : Hid (Fr No w W) := Lib.hid (by rw [hW.out]; exact (Fr.refl _ w).alloc _)
  have HBW : Hid (W.heap[w.heap.size]? = some (.cells #[.int .u32 g.r0, .int .u32 g.r1, .int .u32 g.r2, .int .u32 g.r3, .int .u32 g.r4, .int .u32 g.r5, .int .u32 g.r6, .int .u32 g.r7, .int .u32 g.pc] 33 (0, 0))) := Lib.hid (by rw [hW.out]; exact heap_alloc_new w _)
  have hT := h.no HFW.out
  have h1 := h.head
  have hbw : b < w.heap.size := lt_of_block h.hb
  unfold Tb.setRegs
  unfold rgv
  cases hr : T.at e with
  | none =>
    have HB := Lib.hid (at_none hT hr)
    have H := Lib.hid hT
    clear h hr hT
    go_enter Try.func10, Try.ntmps10
    go_wp2_with fail
    rw [← hW.out]
    refine HB.out.mono ?_
    rintro r w1 ⟨rfl, hf⟩
    have HF := Lib.hid hf
    clear hf
    go_wp2_with fail
    go_ret
    exact ⟨rfl, H.out.no HF.out, (HFW.out.trans HF.out).anyOwn⟩
  | some r =>
    obtain ⟨n, rfl, hn, h16⟩ := h.some_at hr
    simp only [Int.toNat_natCast]
    have HB := Lib.hid (at_some hT hn)
    have H := Lib.hid hT
    have HN := Lib.hid hn
    have HL := Lib.hid h
    clear h hr hn hT
    go_enter Try.func10, Try.ntmps10
    go_wp2_with fail
    rw [← hW.out]
    refine HB.out.mono ?_
    rintro v w1 ⟨rfl, hf⟩
    have HT := Lib.hid (H.out.no hf)
    have HF := Lib.hid hf
    have hb := hf.heap HBW.out id
    have a0 : w1.cell? ⟨w.heap.size, 0, none⟩ = some (.int .u32 g.r0) := cell_blk hb rfl
    have a1 : w1.cell? ⟨w.heap.size, 1, none⟩ = some (.int .u32 g.r1) := cell_blk hb rfl
    have a2 : w1.cell? ⟨w.heap.size, 2, none⟩ = some (.int .u32 g.r2) := cell_blk hb rfl
    have a3 : w1.cell? ⟨w.heap.size, 3, none⟩ = some (.int .u32 g.r3) := cell_blk hb rfl
    have a4 : w1.cell? ⟨w.heap.size, 4, none⟩ = some (.int .u32 g.r4) := cell_blk hb rfl
    have a5 : w1.cell? ⟨w.heap.size, 5, none⟩ = some (.int .u32 g.r5) := cell_blk hb rfl
    have a6 : w1.cell? ⟨w.heap.size, 6, none⟩ = some (.int .u32 g.r6) := cell_blk hb rfl
    have a7 : w1.cell? ⟨w.heap.size, 7, none⟩ = some (.int .u32 g.r7) := cell_blk hb rfl
    have a8 : w1.cell? ⟨w.heap.size, 8, none⟩ = some (.int .u32 g.pc) := cell_blk hb rfl
    have c6 := HT.out.c6 HN.out
    have c7 := HT.out.c7 HN.out
    have c8 := HT.out.c8 HN.out
    have c9 := HT.out.c9 HN.out
    have c10 := HT.out.c10 HN.out
    have c11 := HT.out.c11 HN.out
    have c12 := HT.out.c12 HN.out
    have c13 := HT.out.c13 HN.out
    have c14 := HT.out.c14 HN.out
    have f6 := HT.out.free HN.out 6
    have f7 := HT.out.free HN.out 7
    have f8 := HT.out.free HN.out 8
    have f9 := HT.out.free HN.out 9
    have f10 := HT.out.free HN.out 10
    have f11 := HT.out.free HN.out 11
    have f12 := HT.out.free HN.out 12
    have f13 := HT.out.free HN.out 13
    have f14 := HT.out.free HN.out 14
    have lt := HT.out.ltRec HN.out
    have lt2 : w.heap.size < w1.heap.size := lt_of_block hb
    clear hf hb
    go_wp2_with fail
    go_ret
    have hh := HT.out.hrb n r HN.out
    refine ⟨rfl, HT.out.putRec HN.out (r' := { r with regs := g }) rfl (heap_regs g hh)
      (((((((((Fr.set1 _ _ _ _).put (.inl rfl) _ _).put (.inl rfl) _ _).put (.inl rfl) _ _).put (.inl rfl) _ _).put (.inl rfl) _ _).put (.inl rfl) _ _).put (.inl rfl) _ _).put (.inl rfl) _ _), ?_⟩
    have ho := HT.out.ownRec HN.out
    exact ((((((((((HFW.out.trans HF.out).anyOwn.own ho).own ho).own ho).own ho).own ho).own ho).own ho).own ho).own ho)

/-! SetBits -/
def Tb.setBits (T : Tb) (e n : Int) : Tb × Int := match T.at e with
  | none => (T, 90)
  | some r => if word n = false then (T, 1) else (T.set e.toNat { r with bits := n }, 0)
theorem SetBits_any (h : TabAt w b L T) (e c : Int) : Calls Try.prog 33 #[.pointer (some ⟨b, 0, none⟩), .int .i64 e, .int .i64 c] w fun r w' => r = .returned (.int .i64 (T.setBits e c).2) ∧ Left w b L (T.setBits e c).1 w' := by
  have h1 := h.head
  unfold Tb.setBits
  cases hr : T.at e with
  | none =>
    have HB := Lib.hid (at_none h hr)
    have H := Lib.hid h
    clear h hr
    go_enter Try.func33, Try.ntmps33
    go_wp2_with fail
    refine HB.out.mono ?_
    rintro r w1 ⟨rfl, hf⟩
    have HF := Lib.hid hf
    clear hf
    go_wp2_with fail
    go_ret
    exact ⟨rfl, H.out.no HF.out, HF.out.anyOwn⟩
  | some r =>
    obtain ⟨n, rfl, hn, h16⟩ := h.some_at hr
    simp only [Int.toNat_natCast]
    have HB := Lib.hid (at_some h hn)
    have H := Lib.hid h
    have HN := Lib.hid hn
    have HW := Lib.hid (fun w => isWord_any c w)
    obtain ⟨z, hz⟩ : ∃ z, word c = z := ⟨_, rfl⟩
    rw [hz] at HW ⊢
    clear h hr hn hz
    cases z with
    | false =>
      rw [if_pos rfl]
      go_enter Try.func33, Try.ntmps33
      go_wp2_with fail
      refine HB.out.mono ?_
      rintro r w1 ⟨rfl, hf⟩
      have HF := Lib.hid hf
      clear hf
      go_wp2_with (refine (HW.out _).mono ?_; rintro r w' ⟨rfl, rfl⟩)
      go_ret
      exact ⟨rfl, H.out.no HF.out, HF.out.anyOwn⟩
    | true =>
      rw [if_neg (by simp)]
      go_enter Try.func33, Try.ntmps33
      go_wp2_with fail
      refine HB.out.mono ?_
      rintro v w1 ⟨rfl, hf⟩
      have HT := Lib.hid (H.out.no hf)
      have c4 := HT.out.c4 HN.out
      have f4 := HT.out.free HN.out 4
      have lt := HT.out.ltRec HN.out
      have HF := Lib.hid hf
      clear hf
      go_wp2_with (refine (HW.out _).mono ?_; rintro r w' ⟨rfl, rfl⟩)
      go_ret
      exact ⟨rfl, HT.out.setRec HN.out rfl 4 (.int .i64 c) (r' := { r with bits := c }) rfl, HF.out.anyOwn.own (HT.out.ownRec HN.out)⟩

/-! Freeze -/
def Tb.freeze (T : Tb) (e : Int) (on : Bool) : Tb × Int := match T.at e with
  | none => (T, 90)
  | some r => (T.set e.toNat { r with frozen := on }, 0)
theorem Freeze_any (h : TabAt w b L T) (e : Int) (on : Bool) : Calls Try.prog 34 #[.pointer (some ⟨b, 0, none⟩), .int .i64 e, .bool on] w fun r w' => r = .returned (.int .i64 (T.freeze e on).2) ∧ Left w b L (T.freeze e on).1 w' := by
  have h1 := h.head
  unfold Tb.freeze
  cases hr : T.at e with
  | none =>
    have HB := Lib.hid (at_none h hr)
    have H := Lib.hid h
    clear h hr
    go_enter Try.func34, Try.ntmps34
    go_wp2_with fail
    refine HB.out.mono ?_
    rintro r w1 ⟨rfl, hf⟩
    have HF := Lib.hid hf
    clear hf
    go_wp2_with fail
    go_ret
    exact ⟨rfl, H.out.no HF.out, HF.out.anyOwn⟩
  | some r =>
    obtain ⟨n, rfl, hn, h16⟩ := h.some_at hr
    simp only [Int.toNat_natCast]
    have HB := Lib.hid (at_some h hn)
    have H := Lib.hid h
    have HN := Lib.hid hn
    clear h hr hn
    go_enter Try.func34, Try.ntmps34
    go_wp2_with fail
    refine HB.out.mono ?_
    rintro v w1 ⟨rfl, hf⟩
    have HT := Lib.hid (H.out.no hf)
    have c5 := HT.out.c5 HN.out
    have f5 := HT.out.free HN.out 5
    have lt := HT.out.ltRec HN.out
    have HF := Lib.hid hf
    clear hf
    go_wp2_with fail
    go_ret
    exact ⟨rfl, HT.out.setRec HN.out rfl 5 (.bool on) (r' := { r with frozen := on }) rfl, HF.out.anyOwn.own (HT.out.ownRec HN.out)⟩

/-! Wait -/
def Tb.wait (T : Tb) (e : Int) : Tb × Int × Int := match T.at e with
  | none => (T, 0, 90)
  | some r => if r.bits = 0 then (T.set e.toNat { r with bits := 0, state := 2 }, 0, 0) else (T.set e.toNat { r with bits := 0 }, r.bits, 0)
theorem Wait_any (h : TabAt w b L T) (e : Int) : Calls Try.prog 11 #[.pointer (some ⟨b, 0, none⟩), .int .i64 e] w fun r w' => r = .returned (.tuple #[.int .i64 (T.wait e).2.1, .int .i64 (T.wait e).2.2]) ∧ Left w b L (T.wait e).1 w' := by
  have h1 := h.head
  unfold Tb.wait
  cases hr : T.at e with
  | none =>
    have HB := Lib.hid (at_none h hr)
    have H := Lib.hid h
    clear h hr
    go_enter Try.func11, Try.ntmps11
    go_wp2_with fail
    refine HB.out.mono ?_
    rintro r w1 ⟨rfl, hf⟩
    have HF := Lib.hid hf
    clear hf
    go_wp2_with fail
    go_ret2
    exact ⟨rfl, H.out.no HF.out, HF.out.anyOwn⟩
  | some r =>
    obtain ⟨n, rfl, hn, h16⟩ := h.some_at hr
    simp only [Int.toNat_natCast]
    have HB := Lib.hid (at_some h hn)
    have H := Lib.hid h
    have HN := Lib.hid hn
    clear h hr hn
    by_cases hz : r.bits = 0
    · rw [if_pos hz]
      have HZ := Lib.hid hz
      have hz' : (r.bits == 0) = true := by simpa using hz
      clear hz
      go_enter Try.func11, Try.ntmps11
      go_wp2_with fail
      refine HB.out.mono ?_
      rintro v w1 ⟨rfl, hf⟩
      have HT := Lib.hid (H.out.no hf)
      have c4 := HT.out.c4 HN.out
      have f4 := HT.out.free HN.out 4
      have c2 := HT.out.c2 HN.out
      have f2 := HT.out.free HN.out 2
      have lt := HT.out.ltRec HN.out
      have HF := Lib.hid hf
      clear hf
      go_wp2_with fail
      go_ret2
      refine ⟨by show Ending.returned (.tuple #[.int .i64 r.bits, .int .i64 0]) = _; rw [HZ.out], ?_, (HF.out.anyOwn.own (HT.out.ownRec HN.out)).own (HT.out.ownRec HN.out)⟩
      have := (HT.out.setRec HN.out rfl 4 (.int .i64 0) (r' := { r with bits := 0 }) rfl).setRec (Tb.set_same _ _ _) rfl 2 (.int .i64 2) (r' := { r with bits := 0, state := 2 }) rfl
      rw [Tb.set_set] at this
      exact this
    · rw [if_neg hz]
      have hz' : (r.bits == 0) = false := by simpa using hz
      go_enter Try.func11, Try.ntmps11
      go_wp2_with fail
      refine HB.out.mono ?_
      rintro v w1 ⟨rfl, hf⟩
      have HT := Lib.hid (H.out.no hf)
      have c4 := HT.out.c4 HN.out
      have f4 := HT.out.free HN.out 4
      have lt := HT.out.ltRec HN.out
      have HF := Lib.hid hf
      clear hf
      go_wp2_with fail
      go_ret2
      exact ⟨rfl, HT.out.setRec HN.out rfl 4 (.int .i64 0) (r' := { r with bits := 0 }) rfl, HF.out.anyOwn.own (HT.out.ownRec HN.out)⟩
end
end Go.Proofs.Ytdogpkcalflhbaa
