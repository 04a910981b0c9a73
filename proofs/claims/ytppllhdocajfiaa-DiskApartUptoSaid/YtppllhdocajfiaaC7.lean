/- Edit; refused writes. -/
import Derived.Test.YtppllhdocajfiaaC6
set_option linter.unusedSimpArgs false
set_option linter.unusedVariables false
namespace Go.Proofs.Ytppllhdocajfiaa
open Go.RowKit

def Dk.edit (D : Dk) (s m : Nat) (X : List UInt8) : Dk := { D with med := fun k => if k = s then splice (D.med s) m X else D.med k }
section
variable {w : World} {b c : Nat} {D : Dk}

theorem Write_sector (n : Int) (hn : ¬ (0 ≤ n ∧ n < 1024)) (v : Value) :
    Calls Try.prog 16 #[.pointer (some ⟨b, 0, none⟩), .int .i64 n, v] w fun e w' => e = .returned (.int .i64 40) ∧ w = w' := by
  go_enter Try.func16, Try.ntmps16
  go_wp2_with (first | (go_at_call 53; refine (there_no _ _ hn).mono ?_; rintro e w' ⟨rfl, rfl⟩))
  go_ret
  exact ⟨rfl, rfl⟩
theorem Write_size (n : Int) (hn : 0 ≤ n ∧ n < 1024) (a : Option Addr) (l cap : Nat) (hl : l ≠ 128) :
    Calls Try.prog 16 #[.pointer (some ⟨b, 0, none⟩), .int .i64 n, .slice a l cap] w fun e w' => e = .returned (.int .i64 41) ∧ w = w' := by
  have hl' : ((l : Int) != 128) = true := by simp; omega
  go_enter Try.func16, Try.ntmps16
  go_wp2_with (first | (go_at_call 53; refine (there_yes _ _ hn).mono ?_; rintro e w' ⟨rfl, rfl⟩))
  go_ret
  exact ⟨rfl, rfl⟩

theorem Edit_sector (n m : Int) (hn : ¬ (0 ≤ n ∧ n < 1024)) (v : Value) :
    Calls Try.prog 29 #[.pointer (some ⟨b, 0, none⟩), .int .i64 n, .int .i64 m, v] w fun e w' => e = .returned (.int .i64 40) ∧ w = w' := by
  go_enter Try.func29, Try.ntmps29
  go_wp2_with (first | (go_at_call 53; refine (there_no _ _ hn).mono ?_; rintro e w' ⟨rfl, rfl⟩))
  go_ret
  exact ⟨rfl, rfl⟩
theorem Edit_arg (n m : Int) (hn : 0 ≤ n ∧ n < 1024) (a : Option Addr) (l cap : Nat) (hl : l ≤ 4611686018427387904) (hm : m < 0 ∨ 128 < m + l) :
    Calls Try.prog 29 #[.pointer (some ⟨b, 0, none⟩), .int .i64 n, .int .i64 m, .slice a l cap] w fun e w' => e = .returned (.int .i64 1) ∧ w = w' := by
  by_cases h0 : m < 0
  · have h0' : decide (m < 0) = true := by simpa using h0
    go_enter Try.func29, Try.ntmps29
    go_wp2_with (first | (go_at_call 53; refine (there_yes _ _ hn).mono ?_; rintro e w' ⟨rfl, rfl⟩))
    go_ret
    exact ⟨rfl, rfl⟩
  · have h0' : decide (m < 0) = false := by simpa using h0
    have h1 : (128 : Int) - l < m := by omega
    go_enter Try.func29, Try.ntmps29
    go_wp2_with (first | (go_at_call 53; refine (there_yes _ _ hn).mono ?_; rintro e w' ⟨rfl, rfl⟩))
    go_ret
    exact ⟨rfl, rfl⟩
set_option maxRecDepth 100000 in
theorem Edit_go1 (h : DiskAt w b c D) (s : Nat) (hs : s < 1024) (m : Nat) (a : Option Addr) (cap : Nat) (X : List UInt8) (hm : m + X.length ≤ 128) (hv : SegOf w a (X.map bv)) (hmm : m < 128) :
    Calls Try.prog 29 #[.pointer (some ⟨b, 0, none⟩), .int .i64 s, .int .i64 m, .slice a X.length cap] w fun e w' => e = .returned (.int .i64 0) ∧ DiskAt w' b c (D.edit s m X) ∧ Fr (One b) w w' := by
  obtain ⟨l, hl⟩ : ∃ l, Hid (X.length = l) := ⟨_, Lib.hid rfl⟩
  rw [hl.out] at hm ⊢
  obtain ⟨S, hS⟩ : ∃ S, Hid (S = X.map bv) := ⟨_, Lib.hid rfl⟩
  have hSl : Hid (S.length = l) := Lib.hid (by rw [hS.out, ← hl.out]; simp)
  have hs1 : (s : Int) < 1024 := by omega
  have hm1 : (m : Int) ≤ 128 - l := by omega
  have h0' : decide ((m : Int) < 0) = false := by simp
  have hm2 : (m : Int) ≤ 128 := by omega
  have hm3 : m ≤ 128 := by omega
  have hm4 : ¬ 128 = m := by omega
  have hmm' : ¬ m = 128 := by omega
  have H := Lib.hid h
  have HV := Lib.hid hv
  clear h hv
  go_enter Try.func29, Try.ntmps29
  go_wp2_with (first | (go_at_call 53; refine (there_yes _ _ (by omega)).mono ?_; rintro e w' ⟨rfl, rfl⟩) | (with_reducible show wpList _ _ _ (Oper.mk (some 29) _ _ _ _ _ :: _) _ _; refine Stop.mk ?_))
  refine Stop.go ?_
  refine wpList_copy_seg rfl (.tmp 27) (.tmp 28) 34 34 rfl 5 Try.underlying34 Try.size5 _ a _ _ l cap rfl rfl b (s * 128 + m) S ?cn ?cpos ?croom ?cone ?_
  case cn => rw [hSl.out]; simp [Nat.min_def]; omega
  case cpos =>
    intro h0
    rw [hSl.out] at h0
    refine ⟨?_, ?_⟩
    · first | rfl | (exfalso; omega)
    · rw [hS.out]; exact HV.out (by simp; rw [hl.out]; exact h0)
  case croom => intro _; rw [hSl.out]; exact H.out.roomPart hs hm
  case cone => rw [hS.out]; exact bvs_one _
  rw [hSl.out]
  go_wp2
  go_ret
  refine ⟨rfl, ?_, (Fr.refl _ _).seg (.inl (One.self b)) _ _⟩
  rw [hS.out]
  exact H.out.setPart hs (by rw [hl.out]; exact hm)
set_option maxRecDepth 100000 in
theorem Edit_go2 (h : DiskAt w b c D) (s : Nat) (hs : s < 1024)  (a : Option Addr) (cap : Nat) (X : List UInt8) (hm : 128 + X.length ≤ 128) (hv : SegOf w a (X.map bv)) :
    Calls Try.prog 29 #[.pointer (some ⟨b, 0, none⟩), .int .i64 s, .int .i64 128, .slice a X.length cap] w fun e w' => e = .returned (.int .i64 0) ∧ DiskAt w' b c (D.edit s 128 X) ∧ Fr (One b) w w' := by
  obtain ⟨l, hl⟩ : ∃ l, Hid (X.length = l) := ⟨_, Lib.hid rfl⟩
  rw [hl.out] at hm ⊢
  obtain ⟨S, hS⟩ : ∃ S, Hid (S = X.map bv) := ⟨_, Lib.hid rfl⟩
  have hSl : Hid (S.length = l) := Lib.hid (by rw [hS.out, ← hl.out]; simp)
  have hs1 : (s : Int) < 1024 := by omega
  have hm1 : (128 : Int) ≤ 128 - l := by omega
  have h0' : decide ((128 : Int) < 0) = false := by simp
  have hm2 : (128 : Int) ≤ 128 := by omega
  have hm3 : 128 ≤ 128 := by omega
  have H := Lib.hid h
  have HV := Lib.hid hv
  clear h hv
  go_enter Try.func29, Try.ntmps29
  go_wp2_with (first | (go_at_call 53; refine (there_yes _ _ (by omega)).mono ?_; rintro e w' ⟨rfl, rfl⟩) | (with_reducible show wpList _ _ _ (Oper.mk (some 29) _ _ _ _ _ :: _) _ _; refine Stop.mk ?_))
  refine Stop.go ?_
  refine wpList_copy_seg rfl (.tmp 27) (.tmp 28) 34 34 rfl 5 Try.underlying34 Try.size5 _ a _ _ l cap rfl rfl b (s * 128 + 128) S ?cn ?cpos ?croom ?cone ?_
  case cn => rw [hSl.out]; simp [Nat.min_def]; omega
  case cpos =>
    intro h0
    rw [hSl.out] at h0
    refine ⟨?_, ?_⟩
    · first | rfl | (exfalso; omega)
    · rw [hS.out]; exact HV.out (by simp; rw [hl.out]; exact h0)
  case croom => intro _; rw [hSl.out]; exact H.out.roomPart hs hm
  case cone => rw [hS.out]; exact bvs_one _
  rw [hSl.out]
  go_wp2
  go_ret
  refine ⟨rfl, ?_, (Fr.refl _ _).seg (.inl (One.self b)) _ _⟩
  rw [hS.out]
  exact H.out.setPart hs (by rw [hl.out]; exact hm)

theorem Edit_go (h : DiskAt w b c D) (s : Nat) (hs : s < 1024) (m : Nat) (a : Option Addr) (cap : Nat) (X : List UInt8) (hm : m + X.length ≤ 128) (hv : SegOf w a (X.map bv)) :
    Calls Try.prog 29 #[.pointer (some ⟨b, 0, none⟩), .int .i64 s, .int .i64 m, .slice a X.length cap] w fun e w' => e = .returned (.int .i64 0) ∧ DiskAt w' b c (D.edit s m X) ∧ Fr (One b) w w' := by
  by_cases h1 : m < 128
  · exact Edit_go1 h s hs m a cap X hm hv h1
  · obtain rfl : m = 128 := by omega
    exact Edit_go2 h s hs a cap X hm hv
end
end Go.Proofs.Ytppllhdocajfiaa
