/- The small calls of a disk: there, act, Down, Acts, Arm. -/
import Derived.Test.YtppllhdocajfiaaRows
import Derived.Test.YtppllhdocajfiaaB
set_option linter.unusedSimpArgs false
set_option linter.unusedVariables false
namespace Go.Proofs.Ytppllhdocajfiaa
open Go.RowKit

set_option maxHeartbeats 400000 in
theorem there_any (n : Int) (w : World) :
    Calls Try.prog 53 #[.int .i64 n] w fun e w' => e = .returned (.bool (decide (0 ≤ n ∧ n < 1024))) ∧ w = w' := by
  by_cases h1 : 0 ≤ n
  · by_cases h2 : n < 1024
    all_goals
      go_enter Try.func53, Try.ntmps53
      go_wp2
      go_ret
      exact ⟨by first | (simp; done) | (simp; omega), rfl⟩
  · have h1' : decide (0 ≤ n) = false := by simpa using h1
    go_enter Try.func53, Try.ntmps53
    go_wp2
    go_ret
    exact ⟨by first | (simp; done) | (simp; omega), rfl⟩
theorem there_yes (n : Int) (w : World) (h : 0 ≤ n ∧ n < 1024) : Calls Try.prog 53 #[.int .i64 n] w fun e w' => e = .returned (.bool true) ∧ w = w' :=
  (there_any n w).mono fun e w' ⟨he, hw⟩ => ⟨by rw [he, decide_eq_true h], hw⟩
theorem there_no (n : Int) (w : World) (h : ¬ (0 ≤ n ∧ n < 1024)) : Calls Try.prog 53 #[.int .i64 n] w fun e w' => e = .returned (.bool false) ∧ w = w' :=
  (there_any n w).mono fun e w' ⟨he, hw⟩ => ⟨by rw [he, decide_eq_false h], hw⟩

set_option maxHeartbeats 400000 in
theorem act_raw (b : Nat) (armed down : Bool) (left acts : Int) (w : World)
   (h2 : w.cell? ⟨b, 131073, none⟩ = some (.bool armed)) (h3 : w.cell? ⟨b, 131074, none⟩ = some (.int .i64 left))
   (h4 : w.cell? ⟨b, 131075, none⟩ = some (.bool down)) (h5 : w.cell? ⟨b, 131076, none⟩ = some (.int .i64 acts))
   (f3 : w.frozen? ⟨b, 131074, none⟩ = false) (f4 : w.frozen? ⟨b, 131075, none⟩ = false) (f5 : w.frozen? ⟨b, 131076, none⟩ = false)
   (hl : 0 ≤ left ∧ left ≤ 9223372036854775807) (ha : 0 ≤ acts ∧ acts ≤ 4611686018427387904) :
    Calls Try.prog 50 #[.pointer (some ⟨b, 0, none⟩)] w fun e w' =>
     (down = true → e = .returned (.bool false) ∧ w' = w) ∧
     (down = false → armed = true → left = 0 → e = .returned (.bool false) ∧ w' = w.setCell ⟨b, 131075, none⟩ (.bool true)) ∧
     (down = false → armed = true → left ≠ 0 → e = .returned (.bool true) ∧ w' = (w.setCell ⟨b, 131074, none⟩ (.int .i64 (left - 1))).setCell ⟨b, 131076, none⟩ (.int .i64 (acts+1))) ∧
     (down = false → armed = false → e = .returned (.bool true) ∧ w' = w.setCell ⟨b, 131076, none⟩ (.int .i64 (acts+1))) := by
  cases down
  · cases armed
    · go_enter Try.func50, Try.ntmps50
      go_wp2
      go_ret
      simp
    · by_cases hz : left = 0
      · have hz' : (left == 0) = true := by simpa using hz
        go_enter Try.func50, Try.ntmps50
        go_wp2
        go_ret
        simp [hz]
      · have hz' : (left == 0) = false := by simpa using hz
        go_enter Try.func50, Try.ntmps50
        go_wp2
        go_ret
        simp [hz]
  · go_enter Try.func50, Try.ntmps50
    go_wp2
    go_ret
    simp

section
variable {w : World} {b c : Nat} {D : Dk}

theorem act_any (h : DiskAt w b c D) (ha : D.acts ≤ 4611686018427387904) (D' : Dk) (r : Bool) (hr : D.act = (D', r)) :
    Calls Try.prog 50 #[.pointer (some ⟨b, 0, none⟩)] w fun e w' => e = .returned (.bool r) ∧ DiskAt w' b c D' ∧ Fr (One b) w w' := by
  refine (act_raw b D.armed D.down D.left D.acts w h.armed h.left h.down h.acts (h.free _) (h.free _) (h.free _) h.ok.left ⟨h.ok.acts, ha⟩).mono fun e w' ⟨h1, h2, h3, h4⟩ => ?_
  have hL := h.ok.left
  have hA := h.ok.acts
  obtain ⟨med, cache, armed, left, down, acts⟩ := D
  simp only at h1 h2 h3 h4 hL hA
  cases down
  · cases armed
    · obtain ⟨rfl, rfl⟩ := h4 rfl rfl
      simp [Dk.act] at hr
      obtain ⟨rfl, rfl⟩ := hr
      exact ⟨rfl, h.setActs (acts + 1) (by omega), Fr.set1 _ _ _ _⟩
    · by_cases hz : left = 0
      · obtain ⟨rfl, rfl⟩ := h2 rfl rfl hz
        simp [Dk.act, hz] at hr
        obtain ⟨rfl, rfl⟩ := hr
        subst hz
        exact ⟨rfl, h.setDown true, Fr.set1 _ _ _ _⟩
      · obtain ⟨rfl, rfl⟩ := h3 rfl rfl hz
        simp [Dk.act, hz] at hr
        obtain ⟨rfl, rfl⟩ := hr
        exact ⟨rfl, (h.setLeft (left - 1) (by omega)).setActs (acts + 1) (by omega), (Fr.set1 _ _ _ _).put (.inl (One.self b)) _ _⟩
  · obtain ⟨rfl, rfl⟩ := h1 rfl
    simp [Dk.act] at hr
    obtain ⟨rfl, rfl⟩ := hr
    exact ⟨rfl, h, Fr.refl _ _⟩

theorem Down_any (h : DiskAt w b c D) : Calls Try.prog 19 #[.pointer (some ⟨b, 0, none⟩)] w fun e w' => e = .returned (.bool D.down) ∧ w = w' := by
  have h1 := h.down
  clear h
  go_enter Try.func19, Try.ntmps19
  go_wp2
  go_ret
  exact ⟨rfl, rfl⟩
theorem Acts_any (h : DiskAt w b c D) : Calls Try.prog 14 #[.pointer (some ⟨b, 0, none⟩)] w fun e w' => e = .returned (.int .i64 D.acts) ∧ w = w' := by
  have h1 := h.acts
  clear h
  go_enter Try.func14, Try.ntmps14
  go_wp2
  go_ret
  exact ⟨rfl, rfl⟩

/-- What Arm makes of a disk, and what it answers. -/
def Dk.arm (D : Dk) (n : Int) : Dk × Int :=
  if n < 0 then (D, 1) else if D.down then (D, 42) else ({ D with armed := true, left := n }, 0)

theorem Arm_any (h : DiskAt w b c D) (n : Int) (hn : n ≤ 9223372036854775807) (D' : Dk) (r : Int) (hr : D.arm n = (D', r)) :
    Calls Try.prog 13 #[.pointer (some ⟨b, 0, none⟩), .int .i64 n] w fun e w' => e = .returned (.int .i64 r) ∧ DiskAt w' b c D' ∧ Fr (One b) w w' := by
  have h1 := h.down
  have h2 := h.armed
  have h3 := h.left
  have f2 := h.free 131073
  have f3 := h.free 131074
  have H := Lib.hid h
  clear h
  by_cases hn0 : n < 0
  · simp [Dk.arm, hn0] at hr
    obtain ⟨rfl, rfl⟩ := hr
    go_enter Try.func13, Try.ntmps13
    go_wp2
    go_ret
    exact ⟨rfl, H.out, Fr.refl _ _⟩
  · obtain ⟨med, cache, armed, left, down, acts⟩ := D
    cases down
    · simp [Dk.arm, hn0] at hr
      obtain ⟨rfl, rfl⟩ := hr
      go_enter Try.func13, Try.ntmps13
      go_wp2
      go_ret
      exact ⟨rfl, (H.out.setArmed true).setLeft n (by omega), (Fr.set1 _ _ _ _).put (.inl (One.self b)) _ _⟩
    · simp [Dk.arm, hn0] at hr
      obtain ⟨rfl, rfl⟩ := hr
      go_enter Try.func13, Try.ntmps13
      go_wp2
      go_ret
      exact ⟨rfl, H.out, Fr.refl _ _⟩
end
end Go.Proofs.Ytppllhdocajfiaa
