/- Notify. -/
import Derived.Test.YtdogpkcalflhbaaC3
import Derived.RegionTactic
import Derived.ChangeAlike
import Derived.BigRegion
import Derived.IntWalk
set_option linter.unusedSimpArgs false
set_option linter.unusedVariables false
namespace Go.Proofs.Ytdogpkcalflhbaa
open Go.RowKit

def orW (a b : Int) : Int := bits BinOp.or IntKind.i64 a b
theorem word_iff {a : Int} : word a = true ↔ 0 ≤ a ∧ a ≤ 4294967295 := by unfold word; simp
theorem orW_nat {a b : Int} (ha : word a = true) (hb : word b = true) : orW a b = ((a.toNat ||| b.toNat : Nat) : Int) ∧ word (orW a b) = true := by
  rw [word_iff] at ha hb
  obtain ⟨m, rfl⟩ : ∃ m : Nat, a = m := ⟨a.toNat, by omega⟩
  obtain ⟨n, rfl⟩ : ∃ n : Nat, b = n := ⟨b.toNat, by omega⟩
  have h1 : m < 2 ^ 32 := by omega
  have h2 : n < 2 ^ 32 := by omega
  have h3 := Nat.or_lt_two_pow h1 h2
  have e : orW (m : Int) (n : Int) = ((m ||| n : Nat) : Int) := by
    unfold orW bits
    have e1 : ∀ q : Nat, q < 2 ^ 32 → (BitVec.ofInt 64 (q : Int)).toNat = q := fun q hq => by
      rw [BitVec.toNat_ofInt]
      have : ((q : Int) % ((2 ^ 64 : Nat) : Int)) = (q : Int) := Int.emod_eq_of_lt (by omega) (by omega)
      rw [this]
      rfl
    simp only [BitVec.toNat_or]
    show IntKind.i64.wrap (((BitVec.ofInt 64 (m : Int)).toNat ||| (BitVec.ofInt 64 (n : Int)).toNat : Nat) : Int) = _
    rw [e1 m h1, e1 n h2]
    exact IntWalk.i64_in _ (by omega)
  refine ⟨by rw [e]; rfl, ?_⟩
  rw [e, word_iff]
  omega
theorem orW_zero {a b : Int} (ha : word a = true) (hb : word b = true) : orW a b = 0 ↔ a = 0 ∧ b = 0 := by
  rw [(orW_nat ha hb).1]
  rw [word_iff] at ha hb
  have : a.toNat ||| b.toNat = 0 ↔ a.toNat = 0 ∧ b.toNat = 0 := Nat.or_eq_zero_iff
  omega

def Rec.noticed (r : Rec) (n : Int) : Rec :=
  if r.state = 2 ∧ orW r.bits n ≠ 0 then { r with bits := 0, state := 1, regs := { r.regs with r0 := 0, r1 := orW r.bits n } } else { r with bits := orW r.bits n }
def Tb.notify (T : Tb) (e n : Int) : Tb × Int := match T.at e with
  | none => (T, 90)
  | some r => if word n = false then (T, 1) else (T.set e.toNat (r.noticed n), 0)

section
variable {w : World} {b : Nat} {L : Lay} {T : Tb}
theorem Notify_none (h : TabAt w b L T) (e c : Int) (hr : T.at e = none) : Calls Try.prog 13 #[.pointer (some ⟨b, 0, none⟩), .int .i64 e, .int .i64 c] w fun r w' => r = .returned (.int .i64 90) ∧ Left w b L T w' := by
  have h1 := h.head
  have HB := Lib.hid (at_none h hr)
  have H := Lib.hid h
  clear h hr
  go_enter Try.func13, Try.ntmps13
  go_wp2_with fail
  refine HB.out.mono ?_
  rintro r w1 ⟨rfl, hf⟩
  have HF := Lib.hid hf
  clear hf
  go_wp2_with fail
  go_ret
  exact ⟨rfl, H.out.no HF.out, HF.out.anyOwn⟩
theorem Notify_bad (h : TabAt w b L T) (n : Nat) (r : Rec) (hn : T.live n = some r) (c : Int) (hc : word c = false) : Calls Try.prog 13 #[.pointer (some ⟨b, 0, none⟩), .int .i64 (n : Int), .int .i64 c] w fun v w' => v = .returned (.int .i64 1) ∧ Left w b L T w' := by
  have h1 := h.head
  have HB := Lib.hid (at_some h hn)
  have H := Lib.hid h
  have HW := Lib.hid (fun w => isWord_any c w)
  rw [hc] at HW
  clear h hn hc
  go_enter Try.func13, Try.ntmps13
  go_wp2_with fail
  refine HB.out.mono ?_
  rintro r w1 ⟨rfl, hf⟩
  have HF := Lib.hid hf
  clear hf
  go_wp2_with (refine (HW.out _).mono ?_; rintro r w' ⟨rfl, rfl⟩)
  go_ret
  exact ⟨rfl, H.out.no HF.out, HF.out.anyOwn⟩
theorem Notify_quiet (h : TabAt w b L T) (n : Nat) (r : Rec) (hn : T.live n = some r) (c : Int) (hc : word c = true) (hs : ¬ (r.state = 2 ∧ orW r.bits c ≠ 0)) :
    Calls Try.prog 13 #[.pointer (some ⟨b, 0, none⟩), .int .i64 (n : Int), .int .i64 c] w fun v w' => v = .returned (.int .i64 0) ∧ Left w b L (T.set n { r with bits := orW r.bits c }) w' := by
  have h1 := h.head
  have HB := Lib.hid (at_some h hn)
  have H := Lib.hid h
  have HN := Lib.hid hn
  have HW := Lib.hid (fun w => isWord_any c w)
  rw [hc] at HW
  by_cases hst : r.state = 2
  · have hz : (bits BinOp.or IntKind.i64 r.bits c != 0) = false := by
      have : orW r.bits c = 0 := by
        by_cases h0 : orW r.bits c = 0
        · exact h0
        · exact absurd ⟨hst, h0⟩ hs
      unfold orW at this
      simpa using this
    have hs' : (r.state == 2) = true := by simpa using hst
    clear h hn hc hs hst
    go_enter Try.func13, Try.ntmps13
    go_wp2_with fail
    refine HB.out.mono ?_
    rintro v w1 ⟨rfl, hf⟩
    have HT := Lib.hid (H.out.no hf)
    have c4 := HT.out.c4 HN.out
    have f4 := HT.out.free HN.out 4
    have c2 := HT.out.c2 HN.out
    have lt := HT.out.ltRec HN.out
    have HF := Lib.hid hf
    clear hf
    go_wp2_with (refine (HW.out _).mono ?_; rintro r w' ⟨rfl, rfl⟩)
    go_ret
    exact ⟨rfl, HT.out.setRec HN.out rfl 4 (.int .i64 (orW r.bits c)) (r' := { r with bits := orW r.bits c }) rfl, HF.out.anyOwn.own (HT.out.ownRec HN.out)⟩
  · have hs' : (r.state == 2) = false := by simpa using hst
    clear h hn hc hs hst
    go_enter Try.func13, Try.ntmps13
    go_wp2_with fail
    refine HB.out.mono ?_
    rintro v w1 ⟨rfl, hf⟩
    have HT := Lib.hid (H.out.no hf)
    have c4 := HT.out.c4 HN.out
    have f4 := HT.out.free HN.out 4
    have c2 := HT.out.c2 HN.out
    have lt := HT.out.ltRec HN.out
    have HF := Lib.hid hf
    clear hf
    go_wp2_with (refine (HW.out _).mono ?_; rintro r w' ⟨rfl, rfl⟩)
    go_ret
    exact ⟨rfl, HT.out.setRec HN.out rfl 4 (.int .i64 (orW r.bits c)) (r' := { r with bits := orW r.bits c }) rfl, HF.out.anyOwn.own (HT.out.ownRec HN.out)⟩

set_option maxHeartbeats 4000000 in
theorem Notify_wakes (h : TabAt w b L T) (n : Nat) (r : Rec) (hn : T.live n = some r) (c : Int) (hc : word c = true) (hs : r.state = 2) (hz : orW r.bits c ≠ 0) (hw : word (orW r.bits c) = true) :
    Calls Try.prog 13 #[.pointer (some ⟨b, 0, none⟩), .int .i64 (n : Int), .int .i64 c] w fun v w' => v = .returned (.int .i64 0) ∧ Left w b L (T.set n { r with bits := 0, state := 1, regs := { r.regs with r0 := 0, r1 := orW r.bits c } }) w' := by
  have h1 := h.head
  have HB := Lib.hid (at_some h hn)
  have H := Lib.hid h
  have HN := Lib.hid hn
  have HW := Lib.hid (fun w => isWord_any c w)
  rw [hc] at HW
  have hs' : (r.state == 2) = true := by simpa using hs
  have hz' : (bits BinOp.or IntKind.i64 r.bits c != 0) = true := by unfold orW at hz; simpa using hz
  obtain ⟨B, hB⟩ : ∃ B, orW r.bits c = B := ⟨_, rfl⟩
  rw [hB] at hw ⊢
  rw [word_iff] at hw
  have HBB : Hid (bits BinOp.or IntKind.i64 r.bits c = B) := Lib.hid hB
  clear h hn hc hs hz hB
  go_enter Try.func13, Try.ntmps13
  go_wp2_with fail
  refine HB.out.mono ?_
  rintro v w1 ⟨rfl, hf⟩
  have HT := Lib.hid (H.out.no hf)
  have c4 := HT.out.c4 HN.out
  have f4 := HT.out.free HN.out 4
  have c2 := HT.out.c2 HN.out
  have f2 := HT.out.free HN.out 2
  have c6 := HT.out.c6 HN.out
  have f6 := HT.out.free HN.out 6
  have c7 := HT.out.c7 HN.out
  have f7 := HT.out.free HN.out 7
  have lt := HT.out.ltRec HN.out
  have HF := Lib.hid hf
  clear hf
  go_wp2_with (refine (HW.out _).mono ?_; rintro r w' ⟨rfl, rfl⟩)
  rw [HBB.out]
  obtain ⟨hw0, hw1⟩ := hw
  go_region
  go_wp2_with fail
  go_ret
  have t1 := HT.out.setRec HN.out rfl 4 (.int .i64 B) (r' := { r with bits := B }) rfl
  have t2 := t1.setRec (Tb.set_same _ _ _) rfl 2 (.int .i64 1) (r' := { r with bits := B, state := 1 }) rfl
  have t3 := t2.setRec (Tb.set_same _ _ _) rfl 6 (.int .u32 0) (r' := { r with bits := B, state := 1, regs := { r.regs with r0 := 0 } }) rfl
  have t4 := t3.setRec (Tb.set_same _ _ _) rfl 7 (.int .u32 B) (r' := { r with bits := B, state := 1, regs := { r.regs with r0 := 0, r1 := B } }) rfl
  have t5 := (t4.no (Fr.refl _ _).drew).setRec (Tb.set_same _ _ _) rfl 4 (.int .i64 0) (r' := { r with bits := 0, state := 1, regs := { r.regs with r0 := 0, r1 := B } }) rfl
  rw [Tb.set_set, Tb.set_set, Tb.set_set, Tb.set_set] at t5
  have ho := HT.out.ownRec HN.out
  exact ⟨rfl, t5, (((((HF.out.anyOwn.own ho).own ho).own ho).own ho).drew).own ho⟩

theorem Notify_any (h : TabAt w b L T) (e c : Int) (hw : ∀ n r, T.live n = some r → word r.bits = true) :
    Calls Try.prog 13 #[.pointer (some ⟨b, 0, none⟩), .int .i64 e, .int .i64 c] w fun v w' => v = .returned (.int .i64 (T.notify e c).2) ∧ Left w b L (T.notify e c).1 w' := by
  unfold Tb.notify
  cases hr : T.at e with
  | none => exact Notify_none h e c hr
  | some r =>
    obtain ⟨n, rfl, hn, h16⟩ := h.some_at hr
    simp only [Int.toNat_natCast]
    by_cases hc : word c = true
    · rw [if_neg (by rw [hc]; simp)]
      unfold Rec.noticed
      by_cases hs : r.state = 2 ∧ orW r.bits c ≠ 0
      · rw [if_pos hs]
        exact Notify_wakes h n r hn c hc hs.1 hs.2 (orW_nat (hw n r hn) hc).2
      · rw [if_neg hs]
        exact Notify_quiet h n r hn c hc hs
    · rw [if_pos (by simpa using hc)]
      exact Notify_bad h n r hn c (by simpa using hc)
end
end Go.Proofs.Ytdogpkcalflhbaa
