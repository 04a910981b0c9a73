/- noted: the steps that set a field; those that do nothing. -/
import Derived.Test.YtdogpkcalflhbaaC23
import Derived.Test.YtdogpkcalflhbaaC4
set_option linter.unusedSimpArgs false
set_option linter.unusedVariables false
namespace Go.Proofs.Ytdogpkcalflhbaa
open Go.RowKit
def Noted (w0 : World) (b : Nat) (T : Tb) (o : OpE) (bb : Nat) (e : Ending) (w' : World) : Prop := e = .returned (.bool true) ∧ ∃ L' T', NS w0 b L' T' bb w' ∧ StepR T o T'
section
variable {w0 w : World} {b bb : Nat} {L : Lay} {T : Tb}
set_option maxRecDepth 100000 in
set_option maxHeartbeats 4000000 in
theorem noted_regs (N : NS w0 b L T bb w) (o : OpE) (hk : o.kind = 5) : Calls Try.prog 15 #[.pointer (some ⟨bb, 0, none⟩), .pointer (some ⟨b, 0, none⟩), .agg (opcells o)] w (Noted w0 b T o bb) := by
  obtain ⟨k, ot, oe, onn, om, ⟨q0, q1, q2⟩, ⟨r0, r1, r2, r3, r4, r5, r6, r7, pc⟩, oon⟩ := o
  simp only at hk
  subst hk
  obtain ⟨W, hW⟩ : ∃ W, Hid (W = w.alloc (.cells (opcells ⟨5, ot, oe, onn, om, ⟨q0, q1, q2⟩, ⟨r0, r1, r2, r3, r4, r5, r6, r7, pc⟩, oon⟩) 47)) := ⟨_, Lib.hid rfl⟩
  have HN : Hid (NS w0 b L T bb W) := Lib.hid (by rw [hW.out]; exact N.no ((Fr.refl _ _).alloc _))
  unfold opcells at hW ⊢
  clear N
  have HK := Lib.hid (keeps_setRegs HN.out.inv oe ⟨r0, r1, r2, r3, r4, r5, r6, r7, pc⟩)
  go_enter Try.func15, Try.ntmps15
  go_wp2_with fail
  rw [← hW.out]
  refine (SetRegs_any HN.out.tab oe ⟨r0, r1, r2, r3, r4, r5, r6, r7, pc⟩).mono ?_
  rintro e w1 ⟨rfl, hl⟩
  have HN1 := Lib.hid (HN.out.left hl HK.out.inv (fun w2 => HK.out.book w2 bb))
  clear hl
  go_wp2_with fail
  go_ret
  exact ⟨rfl, L, _, HN1.out, .inr (.inr (.inr (.inr (.inl ⟨rfl, rfl⟩))))⟩
set_option maxRecDepth 100000 in
set_option maxHeartbeats 4000000 in
theorem noted_state (N : NS w0 b L T bb w) (o : OpE) (hk : o.kind = 6) : Calls Try.prog 15 #[.pointer (some ⟨bb, 0, none⟩), .pointer (some ⟨b, 0, none⟩), .agg (opcells o)] w (Noted w0 b T o bb) := by
  obtain ⟨k, ot, oe, onn, om, ⟨q0, q1, q2⟩, ⟨r0, r1, r2, r3, r4, r5, r6, r7, pc⟩, oon⟩ := o
  simp only at hk
  subst hk
  obtain ⟨W, hW⟩ : ∃ W, Hid (W = w.alloc (.cells (opcells ⟨6, ot, oe, onn, om, ⟨q0, q1, q2⟩, ⟨r0, r1, r2, r3, r4, r5, r6, r7, pc⟩, oon⟩) 47)) := ⟨_, Lib.hid rfl⟩
  have HN : Hid (NS w0 b L T bb W) := Lib.hid (by rw [hW.out]; exact N.no ((Fr.refl _ _).alloc _))
  unfold opcells at hW ⊢
  clear N
  have HK := Lib.hid (keeps_setState HN.out.inv oe onn om)
  go_enter Try.func15, Try.ntmps15
  go_wp2_with fail
  rw [← hW.out]
  refine (SetState_any HN.out.tab oe onn om).mono ?_
  rintro e w1 ⟨rfl, hl⟩
  have HN1 := Lib.hid (HN.out.left hl HK.out.inv (fun w2 => HK.out.book w2 bb))
  clear hl
  go_wp2_with fail
  go_ret
  exact ⟨rfl, L, _, HN1.out, .inr (.inr (.inr (.inr (.inr (.inl ⟨rfl, rfl⟩)))))⟩
set_option maxRecDepth 100000 in
set_option maxHeartbeats 4000000 in
theorem noted_bits (N : NS w0 b L T bb w) (o : OpE) (hk : o.kind = 7) : Calls Try.prog 15 #[.pointer (some ⟨bb, 0, none⟩), .pointer (some ⟨b, 0, none⟩), .agg (opcells o)] w (Noted w0 b T o bb) := by
  obtain ⟨k, ot, oe, onn, om, ⟨q0, q1, q2⟩, ⟨r0, r1, r2, r3, r4, r5, r6, r7, pc⟩, oon⟩ := o
  simp only at hk
  subst hk
  obtain ⟨W, hW⟩ : ∃ W, Hid (W = w.alloc (.cells (opcells ⟨7, ot, oe, onn, om, ⟨q0, q1, q2⟩, ⟨r0, r1, r2, r3, r4, r5, r6, r7, pc⟩, oon⟩) 47)) := ⟨_, Lib.hid rfl⟩
  have HN : Hid (NS w0 b L T bb W) := Lib.hid (by rw [hW.out]; exact N.no ((Fr.refl _ _).alloc _))
  unfold opcells at hW ⊢
  clear N
  have HK := Lib.hid (keeps_setBits HN.out.inv oe onn)
  go_enter Try.func15, Try.ntmps15
  go_wp2_with fail
  rw [← hW.out]
  refine (SetBits_any HN.out.tab oe onn).mono ?_
  rintro e w1 ⟨rfl, hl⟩
  have HN1 := Lib.hid (HN.out.left hl HK.out.inv (fun w2 => HK.out.book w2 bb))
  clear hl
  go_wp2_with fail
  go_ret
  exact ⟨rfl, L, _, HN1.out, .inr (.inr (.inr (.inr (.inr (.inr (.inl ⟨rfl, rfl⟩))))))⟩
set_option maxRecDepth 100000 in
set_option maxHeartbeats 4000000 in
theorem noted_notify (N : NS w0 b L T bb w) (o : OpE) (hk : o.kind = 8) : Calls Try.prog 15 #[.pointer (some ⟨bb, 0, none⟩), .pointer (some ⟨b, 0, none⟩), .agg (opcells o)] w (Noted w0 b T o bb) := by
  obtain ⟨k, ot, oe, onn, om, ⟨q0, q1, q2⟩, ⟨r0, r1, r2, r3, r4, r5, r6, r7, pc⟩, oon⟩ := o
  simp only at hk
  subst hk
  obtain ⟨W, hW⟩ : ∃ W, Hid (W = w.alloc (.cells (opcells ⟨8, ot, oe, onn, om, ⟨q0, q1, q2⟩, ⟨r0, r1, r2, r3, r4, r5, r6, r7, pc⟩, oon⟩) 47)) := ⟨_, Lib.hid rfl⟩
  have HN : Hid (NS w0 b L T bb W) := Lib.hid (by rw [hW.out]; exact N.no ((Fr.refl _ _).alloc _))
  unfold opcells at hW ⊢
  clear N
  have HK := Lib.hid (keeps_notify HN.out.inv oe onn)
  go_enter Try.func15, Try.ntmps15
  go_wp2_with fail
  rw [← hW.out]
  refine (Notify_any HN.out.tab oe onn (fun n r hr => (HN.out.inv.ok n r hr).bits)).mono ?_
  rintro e w1 ⟨rfl, hl⟩
  have HN1 := Lib.hid (HN.out.left hl HK.out.inv (fun w2 => HK.out.book w2 bb))
  clear hl
  go_wp2_with fail
  go_ret
  exact ⟨rfl, L, _, HN1.out, .inr (.inr (.inr (.inr (.inr (.inr (.inr (.inl ⟨rfl, rfl⟩)))))))⟩
set_option maxRecDepth 100000 in
set_option maxHeartbeats 4000000 in
theorem noted_wait (N : NS w0 b L T bb w) (o : OpE) (hk : o.kind = 9) : Calls Try.prog 15 #[.pointer (some ⟨bb, 0, none⟩), .pointer (some ⟨b, 0, none⟩), .agg (opcells o)] w (Noted w0 b T o bb) := by
  obtain ⟨k, ot, oe, onn, om, ⟨q0, q1, q2⟩, ⟨r0, r1, r2, r3, r4, r5, r6, r7, pc⟩, oon⟩ := o
  simp only at hk
  subst hk
  obtain ⟨W, hW⟩ : ∃ W, Hid (W = w.alloc (.cells (opcells ⟨9, ot, oe, onn, om, ⟨q0, q1, q2⟩, ⟨r0, r1, r2, r3, r4, r5, r6, r7, pc⟩, oon⟩) 47)) := ⟨_, Lib.hid rfl⟩
  have HN : Hid (NS w0 b L T bb W) := Lib.hid (by rw [hW.out]; exact N.no ((Fr.refl _ _).alloc _))
  unfold opcells at hW ⊢
  clear N
  have HK := Lib.hid (keeps_wait HN.out.inv oe)
  go_enter Try.func15, Try.ntmps15
  go_wp2_with fail
  rw [← hW.out]
  refine (Wait_any HN.out.tab oe).mono ?_
  rintro e w1 ⟨rfl, hl⟩
  have HN1 := Lib.hid (HN.out.left hl HK.out.inv (fun w2 => HK.out.book w2 bb))
  clear hl
  go_wp2_with fail
  go_ret
  exact ⟨rfl, L, _, HN1.out, .inr (.inr (.inr (.inr (.inr (.inr (.inr (.inr (.inl ⟨rfl, rfl⟩))))))))⟩
set_option maxRecDepth 100000 in
set_option maxHeartbeats 4000000 in
theorem noted_freeze (N : NS w0 b L T bb w) (o : OpE) (hk : o.kind = 10) : Calls Try.prog 15 #[.pointer (some ⟨bb, 0, none⟩), .pointer (some ⟨b, 0, none⟩), .agg (opcells o)] w (Noted w0 b T o bb) := by
  obtain ⟨k, ot, oe, onn, om, ⟨q0, q1, q2⟩, ⟨r0, r1, r2, r3, r4, r5, r6, r7, pc⟩, oon⟩ := o
  simp only at hk
  subst hk
  obtain ⟨W, hW⟩ : ∃ W, Hid (W = w.alloc (.cells (opcells ⟨10, ot, oe, onn, om, ⟨q0, q1, q2⟩, ⟨r0, r1, r2, r3, r4, r5, r6, r7, pc⟩, oon⟩) 47)) := ⟨_, Lib.hid rfl⟩
  have HN : Hid (NS w0 b L T bb W) := Lib.hid (by rw [hW.out]; exact N.no ((Fr.refl _ _).alloc _))
  unfold opcells at hW ⊢
  clear N
  have HK := Lib.hid (keeps_freeze HN.out.inv oe oon)
  go_enter Try.func15, Try.ntmps15
  go_wp2_with fail
  rw [← hW.out]
  refine (Freeze_any HN.out.tab oe oon).mono ?_
  rintro e w1 ⟨rfl, hl⟩
  have HN1 := Lib.hid (HN.out.left hl HK.out.inv (fun w2 => HK.out.book w2 bb))
  clear hl
  go_wp2_with fail
  go_ret
  exact ⟨rfl, L, _, HN1.out, .inr (.inr (.inr (.inr (.inr (.inr (.inr (.inr (.inr (.inl ⟨rfl, rfl⟩)))))))))⟩
set_option maxRecDepth 100000 in
set_option maxHeartbeats 4000000 in
theorem noted_other (N : NS w0 b L T bb w) (o : OpE) (h2 : o.kind ≠ 2) (h3 : o.kind ≠ 3) (h5 : o.kind ≠ 5) (h6 : o.kind ≠ 6) (h7 : o.kind ≠ 7) (h8 : o.kind ≠ 8) (h9 : o.kind ≠ 9) (h10 : o.kind ≠ 10) (h11 : o.kind ≠ 11) (h12 : o.kind ≠ 12) :
    Calls Try.prog 15 #[.pointer (some ⟨bb, 0, none⟩), .pointer (some ⟨b, 0, none⟩), .agg (opcells o)] w (Noted w0 b T o bb) := by
  have HS : Hid (StepR T o T) := Lib.hid (.inr (.inr (.inr (.inr (.inr (.inr (.inr (.inr (.inr (.inr (⟨h2, h3, h5, h6, h7, h8, h9, h10, h11, h12, rfl⟩)))))))))))
  have HN : Hid (NS w0 b L T bb (w.alloc (.cells (opcells o) 47))) := Lib.hid (N.no ((Fr.refl _ _).alloc _))
  clear N
  obtain ⟨k, ot, oe, onn, om, ⟨q0, q1, q2⟩, ⟨r0, r1, r2, r3, r4, r5, r6, r7, pc⟩, oon⟩ := o
  simp only at h2 h3 h5 h6 h7 h8 h9 h10 h11 h12
  unfold opcells at HN ⊢
  have f2 : (k == 2) = false := by simpa using h2
  have f3 : (k == 3) = false := by simpa using h3
  have f5 : (k == 5) = false := by simpa using h5
  have f6 : (k == 6) = false := by simpa using h6
  have f7 : (k == 7) = false := by simpa using h7
  have f8 : (k == 8) = false := by simpa using h8
  have f9 : (k == 9) = false := by simpa using h9
  have f10 : (k == 10) = false := by simpa using h10
  have f11 : (k == 11) = false := by simpa using h11
  have f12 : (k == 12) = false := by simpa using h12
  clear h2 h3 h5 h6 h7 h8 h9 h10 h11 h12
  go_enter Try.func15, Try.ntmps15
  go_wp2_with fail
  go_ret
  exact ⟨rfl, L, _, HN.out, HS.out⟩
end
end Go.Proofs.Ytdogpkcalflhbaa
