/- downed: what a disk that is down answers. -/
import Derived.Test.YtppllhdocajfiaaL5
set_option linter.unusedSimpArgs false
set_option linter.unusedVariables false
namespace Go.Proofs.Ytppllhdocajfiaa
open Go.RowKit

theorem write_down {D : Dk} (hd : D.down = true) (s : Nat) (X : List UInt8) : D.write s X = (D, 42) := by simp [Dk.write, Dk.act, hd]
theorem flush_down {D : Dk} (hd : D.down = true) : D.flush = (D, 42) := by simp [Dk.flush, Dk.act, hd]
theorem arm_down {D : Dk} (hd : D.down = true) (n : Int) (hn : 0 ≤ n) : D.arm n = (D, 42) := by
  have : ¬ n < 0 := by omega
  simp [Dk.arm, hd, this]

set_option maxHeartbeats 4000000 in
set_option maxRecDepth 100000 in
theorem downed_any {w wr : World} {c : Nat} {D : Dk} (S : DSt w wr c D) (hd : D.down = true) (ha : D.acts ≤ 1000000000) (hc : D.cache.length ≤ 1000000000) :
    Calls Try.prog 20 #[.pointer (some ⟨w.heap.size, 0, none⟩), .int .i64 5] wr fun e w' => e = .returned (.bool true) ∧ ∃ c', DSt w w' c' D := by
  have S0 := Lib.hid S
  have HD := Lib.hid hd
  clear S hd
  go_enter Try.func20, Try.ntmps20
  go_wp2_with fail
  refine (Read_down S0.out.disk 5 (by omega) HD.out).mono ?_
  rintro e w' ⟨rfl, rfl⟩
  go_wp2_with fail
  refine (Down_any S0.out.disk).mono ?_
  rintro e w' ⟨rfl, rfl⟩
  rw [HD.out]
  go_wp2_with fail
  refine (full_any _ 1).mono ?_
  rintro e w3 ⟨g3, cap3, rfl, hown3, hf3⟩
  have HO3 := Lib.hid hown3
  have S3 := Lib.hid (S0.out.no hf3)
  have hg3 : g3 ≠ w.heap.size := by have := (own_base hown3).1; have := S0.out.size; omega
  clear hown3 hf3
  go_wp2_with fail
  refine (Write_own S3.out.disk 5 (by omega) HO3.out hg3 (by omega) (by omega) _ _ (write_down HD.out 5 _)).mono ?_
  rintro e w4 ⟨rfl, ⟨c4, hd4, hc4⟩, hf4⟩
  have S4 := Lib.hid (S3.out.op hd4 (by omega) hf4)
  clear hd4 hc4 hf4 hg3
  go_wp2_with fail
  refine (Flush_any S4.out.disk (by omega) (by omega) _ _ (flush_down HD.out)).mono ?_
  rintro e w5 ⟨rfl, ⟨c5, hd5, hc5⟩, hf5⟩
  have S5 := Lib.hid (S4.out.op1 hd5 (by omega) hf5)
  clear hd5 hc5 hf5
  go_wp2_with fail
  refine (Arm_any S5.out.disk 3 (by omega) _ _ (arm_down HD.out 3 (by omega))).mono ?_
  rintro e w6 ⟨rfl, hd6, hf6⟩
  have S6 := Lib.hid (S5.out.op1 hd6 (.inl rfl) hf6)
  clear hd6 hf6
  go_wp2_with fail
  refine (Raw_any S6.out.disk 5 (by omega)).mono ?_
  rintro e w8 ⟨g8, rfl, hg8, hr8, hf8⟩
  have S8 := Lib.hid (S6.out.no hf8)
  clear hr8 hf8
  go_wp2_with fail
  refine (Arm_any S8.out.disk (-1) (by omega) D 1 (by simp [Dk.arm])).mono ?_
  rintro e w9 ⟨rfl, hd9, hf9⟩
  have S9 := Lib.hid (S8.out.op1 hd9 (.inl rfl) hf9)
  clear hd9 hf9
  go_wp2_with fail
  refine (Write_size 5 (by omega) none 0 0 (by omega)).mono ?_
  rintro e w' ⟨rfl, rfl⟩
  go_wp2_with fail
  refine (Write_sector (-1) (by omega) _).mono ?_
  rintro e w' ⟨rfl, rfl⟩
  go_wp2_with fail
  go_ret
  exact ⟨rfl, _, S9.out⟩
end Go.Proofs.Ytppllhdocajfiaa
