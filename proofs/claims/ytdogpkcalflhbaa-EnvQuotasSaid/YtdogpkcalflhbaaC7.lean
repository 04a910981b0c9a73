/- The sums of quotas. -/
import Derived.Test.YtdogpkcalflhbaaC6
set_option linter.unusedSimpArgs false
set_option linter.unusedVariables false
namespace Go.Proofs.Ytdogpkcalflhbaa
open Go.RowKit

theorem plus_raw (a0 a1 a2 c0 c1 c2 : Int) (w : World) (h : (Qt.plus ⟨a0, a1, a2⟩ ⟨c0, c1, c2⟩).in64) : Calls Try.prog 51 #[.agg #[.int .i64 a0, .int .i64 a1, .int .i64 a2], .agg #[.int .i64 c0, .int .i64 c1, .int .i64 c2]] w fun e w' => e = .returned (.agg #[.int .i64 (a0 + c0), .int .i64 (a1 + c1), .int .i64 (a2 + c2)]) ∧ Fr No w w' := by
  simp only [Qt.plus, Qt.in64, in64] at h
  obtain ⟨⟨h0, h1⟩, ⟨h2, h3⟩, ⟨h4, h5⟩⟩ := h
  go_enter Try.func51, Try.ntmps51
  go_wp2
  exact bodyPost_ret (v := .agg #[.int .i64 (a0 + c0), .int .i64 (a1 + c1), .int .i64 (a2 + c2)]) (by simp [results, Try.results51, go_sem]) rfl ⟨rfl, by
    repeat (first | exact Fr.refl _ _ | apply Fr.alloc | refine Fr.put ?_ (.inr (by simp)) _ _)⟩
theorem forChild_raw (a0 a1 a2 : Int) (w : World) (h : in64 (a1 + 1)) : Calls Try.prog 37 #[.agg #[.int .i64 a0, .int .i64 a1, .int .i64 a2]] w fun e w' => e = .returned (.agg #[.int .i64 a0, .int .i64 (a1 + 1), .int .i64 a2]) ∧ Fr No w w' := by
  obtain ⟨h0, h1⟩ := h
  go_enter Try.func37, Try.ntmps37
  go_wp2
  exact bodyPost_ret (v := .agg #[.int .i64 a0, .int .i64 (a1 + 1), .int .i64 a2]) (by simp [results, Try.results37, go_sem]) rfl ⟨rfl, by
    repeat (first | exact Fr.refl _ _ | apply Fr.alloc | refine Fr.put ?_ (.inr (by simp)) _ _)⟩

def fitB (a c : Qt) : Bool := decide (a.f ≤ c.f ∧ a.e ≤ c.e ∧ a.x ≤ c.x)
def goodB (a : Qt) : Bool := decide ((0 ≤ a.f ∧ a.f ≤ 4611686018427387903) ∧ (0 ≤ a.e ∧ a.e ≤ 4611686018427387903) ∧ (0 ≤ a.x ∧ a.x ≤ 4611686018427387903))
theorem goodB_iff {a : Qt} : goodB a = true ↔ Qok a := by unfold goodB Qok; simp only [decide_eq_true_eq]
theorem ret_bool {a b : Bool} (h : a = b) : Ending.returned (.bool a) = .returned (.bool b) := by rw [h]
set_option maxHeartbeats 1000000 in
theorem fits_raw (a0 a1 a2 c0 c1 c2 : Int) (w : World) : Calls Try.prog 36 #[.agg #[.int .i64 a0, .int .i64 a1, .int .i64 a2], .agg #[.int .i64 c0, .int .i64 c1, .int .i64 c2]] w fun e w' => e = .returned (.bool (fitB ⟨a0, a1, a2⟩ ⟨c0, c1, c2⟩)) ∧ Fr No w w' := by
  have hF : Fr No w ((w.alloc (.cells #[.int .i64 a0, .int .i64 a1, .int .i64 a2] 39)).alloc (.cells #[.int .i64 c0, .int .i64 c1, .int .i64 c2] 39)) := ((Fr.refl _ w).alloc _).alloc _
  by_cases h0 : a0 ≤ c0
  · by_cases h1 : a1 ≤ c1
    · by_cases h2 : a2 ≤ c2
      · have e : fitB ⟨a0, a1, a2⟩ ⟨c0, c1, c2⟩ = true := decide_eq_true ⟨h0, h1, h2⟩
        rw [e]
        have HF := Lib.hid hF
        clear e hF
        go_enter Try.func36, Try.ntmps36
        go_wp2
        go_ret
        exact ⟨rfl, HF.out⟩
      · have e : fitB ⟨a0, a1, a2⟩ ⟨c0, c1, c2⟩ = false := decide_eq_false (by simp; omega)
        rw [e]
        have HF := Lib.hid hF
        clear e hF
        have h2' : decide (a2 ≤ c2) = false := by simpa using h2
        go_enter Try.func36, Try.ntmps36
        go_wp2
        go_ret
        exact ⟨rfl, HF.out⟩
    · have e : fitB ⟨a0, a1, a2⟩ ⟨c0, c1, c2⟩ = false := decide_eq_false (by simp; omega)
      rw [e]
      have HF := Lib.hid hF
      clear e hF
      have h2' : decide (a1 ≤ c1) = false := by simpa using h1
      go_enter Try.func36, Try.ntmps36
      go_wp2
      go_ret
      exact ⟨rfl, HF.out⟩
  · have e : fitB ⟨a0, a1, a2⟩ ⟨c0, c1, c2⟩ = false := decide_eq_false (by simp; omega)
    rw [e]
    have HF := Lib.hid hF
    clear e hF
    have h2' : decide (a0 ≤ c0) = false := by simpa using h0
    go_enter Try.func36, Try.ntmps36
    go_wp2
    go_ret
    exact ⟨rfl, HF.out⟩
set_option maxHeartbeats 1000000 in
theorem good_raw (a0 a1 a2 : Int) (w : World) : Calls Try.prog 35 #[.agg #[.int .i64 a0, .int .i64 a1, .int .i64 a2]] w fun e w' => e = .returned (.bool (goodB ⟨a0, a1, a2⟩)) ∧ Fr No w w' := by
  go_enter Try.func35, Try.ntmps35
  go_wp2
  all_goals
    go_ret
    refine ⟨ret_bool ?_, (Fr.refl _ w).alloc _⟩
    simp only [goodB]
    rw [Bool.eq_iff_iff]
    simp
    omega
end Go.Proofs.Ytdogpkcalflhbaa
