/- refused: calls that a disk refuses. -/
import Derived.Test.YtppllhdocajfiaaS1
set_option linter.unusedSimpArgs false
set_option linter.unusedVariables false
namespace Go.Proofs.Ytppllhdocajfiaa
open Go.RowKit

theorem Try.info5' : (Try.prog.info? 5).map (fun i => (i.zero, i.size, i.bytes)) = some (some (.int .u8 0), 1, 1) := by kernel_rfl
theorem full_one (w : World) : Calls Try.prog 18 #[.int .u8 1] w fun e w' => ∃ g cap, e = .returned (.slice (some ⟨g, 0, none⟩) 128 cap) ∧ w'.ownsRow w.heap.size 5 1 (.slice (some ⟨g, 0, none⟩) 128 cap) 128 ((List.replicate 128 (1 : UInt8)).map bv) ∧ Fr No w w' := full_any w 1
def RefusedBy (w w0 : World) (c : Nat) (D : Dk) (n : Int) (s : Nat) : Prop :=
  Calls Try.prog 35 #[.pointer (some ⟨w.heap.size, 0, none⟩), .int .i64 n, .int .i64 s] w0 fun e w' => ∃ r : Int, e = .returned (.tuple #[.int .i64 r, .int .i64 r]) ∧ DiskAt w' w.heap.size c D ∧ Fr (One w.heap.size) w0 w'
theorem one_of_no {b : Nat} {w w' : World} (h : Fr No w w') : Fr (One b) w w' := h.mono fun _ _ h => False.elim h

section
variable {w w0 : World} {c : Nat} {D : Dk}

set_option maxRecDepth 100000 in
set_option maxHeartbeats 4000000 in
theorem refused_0 (S : DSt w w0 c D) (s : Nat) (hs : s < 1024) : RefusedBy w w0 c D 0 s := by
  unfold RefusedBy
  have HS := Lib.hid S
  clear S
  go_enter Try.func35, Try.ntmps35
  go_wp2_with fail
  refine (full_one _).mono ?_
  rintro e w1 ⟨g, cap, rfl, hown, hf⟩
  have HF := Lib.hid hf
  have HO := Lib.hid hown
  clear hown hf
  go_wp2_with fail
  refine (Write_sector 1024 (by omega) _).mono ?_
  rintro e w' ⟨rfl, rfl⟩
  go_wp2_with fail
  go_ret2
  exact ⟨_, rfl, HS.out.disk.keep HF.out id id, one_of_no HF.out⟩

set_option maxRecDepth 100000 in
set_option maxHeartbeats 4000000 in
theorem refused_1 (S : DSt w w0 c D) (s : Nat) (hs : s < 1024) : RefusedBy w w0 c D 1 s := by
  unfold RefusedBy
  have HS := Lib.hid S
  clear S
  go_enter Try.func35, Try.ntmps35
  go_wp2_with fail
  refine (Write_sector (-1) (by omega) _).mono ?_
  rintro e w' ⟨rfl, rfl⟩
  go_wp2_with fail
  go_ret2
  exact ⟨_, rfl, HS.out.disk, Fr.refl _ _⟩

set_option maxRecDepth 100000 in
set_option maxHeartbeats 4000000 in
theorem refused_2 (S : DSt w w0 c D) (s : Nat) (hs : s < 1024) : RefusedBy w w0 c D 2 s := by
  unfold RefusedBy
  have HS := Lib.hid S
  clear S
  go_enter Try.func35, Try.ntmps35
  go_wp2_with fail
  refine (full_one _).mono ?_
  rintro e w1 ⟨g, cap, rfl, hown, hf⟩
  have HF := Lib.hid hf
  have HO := Lib.hid hown
  clear hown hf
  have hcap : 128 ≤ cap := (own_base HO.out).2.2
  go_wp2_with fail
  refine (Write_size s (by omega) _ _ _ (by omega)).mono ?_
  rintro e w' ⟨rfl, rfl⟩
  go_wp2_with fail
  go_ret2
  exact ⟨_, rfl, HS.out.disk.keep HF.out id id, one_of_no HF.out⟩

set_option maxRecDepth 100000 in
set_option maxHeartbeats 4000000 in
theorem refused_3 (S : DSt w w0 c D) (s : Nat) (hs : s < 1024) : RefusedBy w w0 c D 3 s := by
  unfold RefusedBy
  obtain ⟨i0, hi, hz0, hz1, hz2⟩ := info_parts Try.info5'
  have HS := Lib.hid S
  clear S
  go_enter Try.func35, Try.ntmps35
  go_wp2_with fail
  refine (full_one _).mono ?_
  rintro e w1 ⟨g, cap, rfl, hown, hf⟩
  have HF := Lib.hid hf
  have HO := Lib.hid hown
  clear hown hf
  go_wp2_with (with_reducible show wpList _ _ _ (Oper.mk (some 35) _ _ _ _ _ :: _) _ _; refine Stop.mk ?_)
  refine Stop.go ?_
  refine wpList_append_lies _ rfl (.tmp 33) (.tmp 34) 34 rfl w0.heap.size 5 i0 (.int .u8 0) 1 1 Try.underlying34 hi hz0 hz1 hz2 rfl (by omega) _ 128 ((List.replicate 128 (1 : UInt8)).map bv) rfl (HO.out.alloc _) ⟨w1.heap.size, 0, none⟩ 1 1 [.int .u8 1] rfl rfl ?news ?one (by omega) (by unfold maxLen; omega) (by omega) (by have := HF.out.size; simp; omega) (w1.heap.size + 1) (by simp) ?_
  case news => exact World.news_of_block (cs := #[.int .u8 1]) (t := 5) (fr := (0, 0)) (heap_alloc_new w1 _)
  case one => intro v hv; simp at hv; subst hv; rfl
  intro g3 cap2 w3 hown3 hgrow hat hlt3
  have HF3 := Lib.hid (Fr.grown (HF.out.alloc _) hgrow fun k hk => .inr (HO.out.lt k hk).1)
  clear hown3 hgrow hat hlt3
  go_wp2_with fail
  refine (Write_size s (by omega) _ _ _ (by omega)).mono ?_
  rintro e w' ⟨rfl, rfl⟩
  go_wp2_with fail
  go_ret2
  exact ⟨_, rfl, HS.out.disk.keep HF3.out id id, one_of_no HF3.out⟩

set_option maxRecDepth 100000 in
set_option maxHeartbeats 4000000 in
theorem refused_4 (S : DSt w w0 c D) (s : Nat) (hs : s < 1024) : RefusedBy w w0 c D 4 s := by
  unfold RefusedBy
  have HS := Lib.hid S
  clear S
  go_enter Try.func35, Try.ntmps35
  go_wp2_with fail
  refine (Edit_arg s 127 (by omega) _ 2 _ (by omega) (by omega)).mono ?_
  rintro e w' ⟨rfl, rfl⟩
  have HF := Lib.hid ((Fr.refl No w0).alloc (.cells #[.int .u8 1, .int .u8 2] 5))
  go_wp2_with fail
  go_ret2
  exact ⟨_, rfl, HS.out.disk.keep HF.out id id, one_of_no HF.out⟩

set_option maxRecDepth 100000 in
set_option maxHeartbeats 4000000 in
theorem refused_5 (S : DSt w w0 c D) (s : Nat) (hs : s < 1024) : RefusedBy w w0 c D 5 s := by
  unfold RefusedBy
  have HS := Lib.hid S
  clear S
  go_enter Try.func35, Try.ntmps35
  go_wp2_with fail
  refine (Edit_arg s (-1) (by omega) _ 1 _ (by omega) (by omega)).mono ?_
  rintro e w' ⟨rfl, rfl⟩
  have HF := Lib.hid ((Fr.refl No w0).alloc (.cells #[.int .u8 1] 5))
  go_wp2_with fail
  go_ret2
  exact ⟨_, rfl, HS.out.disk.keep HF.out id id, one_of_no HF.out⟩

set_option maxRecDepth 100000 in
set_option maxHeartbeats 4000000 in
theorem refused_6 (S : DSt w w0 c D) (s : Nat) (hs : s < 1024) : RefusedBy w w0 c D 6 s := by
  unfold RefusedBy
  have HS := Lib.hid S
  clear S
  go_enter Try.func35, Try.ntmps35
  go_wp2_with fail
  refine (Edit_sector 1024 (-1) (by omega) _).mono ?_
  rintro e w' ⟨rfl, rfl⟩
  go_wp2_with fail
  go_ret2
  exact ⟨_, rfl, HS.out.disk, Fr.refl _ _⟩

set_option maxRecDepth 100000 in
set_option maxHeartbeats 4000000 in
theorem refused_7 (S : DSt w w0 c D) (s : Nat) (hs : s < 1024) : RefusedBy w w0 c D 7 s := by
  unfold RefusedBy
  have HS := Lib.hid S
  clear S
  go_enter Try.func35, Try.ntmps35
  go_wp2_with fail
  refine (Arm_any HS.out.disk (-1) (by omega) D 1 (by simp [Dk.arm])).mono ?_
  rintro e w1 ⟨rfl, hd, hf⟩
  have H1 := Lib.hid (And.intro hd hf)
  clear hd hf
  go_wp2_with fail
  go_ret2
  exact ⟨_, rfl, H1.out.1, H1.out.2⟩

set_option maxRecDepth 100000 in
set_option maxHeartbeats 4000000 in
theorem refused_8 (S : DSt w w0 c D) (s : Nat) (hs : s < 1024) : RefusedBy w w0 c D 8 s := by
  unfold RefusedBy
  have HS := Lib.hid S
  clear S
  go_enter Try.func35, Try.ntmps35
  go_wp2_with fail
  refine (Read_no 1024 (by omega)).mono ?_
  rintro e w' ⟨rfl, rfl⟩
  go_wp2_with fail
  go_ret2
  exact ⟨_, rfl, HS.out.disk, Fr.refl _ _⟩

set_option maxRecDepth 100000 in
set_option maxHeartbeats 4000000 in
theorem refused_9 (S : DSt w w0 c D) (s : Nat) (hs : s < 1024) : RefusedBy w w0 c D 9 s := by
  unfold RefusedBy
  have HS := Lib.hid S
  clear S
  go_enter Try.func35, Try.ntmps35
  go_wp2_with fail
  refine (Raw_no (-1) (by omega)).mono ?_
  rintro e w' ⟨rfl, rfl⟩
  go_wp2_with fail
  go_ret2
  exact ⟨_, rfl, HS.out.disk, Fr.refl _ _⟩

set_option maxRecDepth 100000 in
set_option maxHeartbeats 4000000 in
theorem refused_10 (S : DSt w w0 c D) (s : Nat) (hs : s < 1024) : RefusedBy w w0 c D 10 s := by
  unfold RefusedBy
  have HS := Lib.hid S
  clear S
  go_enter Try.func35, Try.ntmps35
  go_wp2_with fail
  refine (Edit_arg s 129 (by omega) _ 0 _ (by omega) (by omega)).mono ?_
  rintro e w' ⟨rfl, rfl⟩
  go_wp2_with fail
  go_ret2
  exact ⟨_, rfl, HS.out.disk, Fr.refl _ _⟩

theorem refused_any (S : DSt w w0 c D) (s : Nat) (hs : s < 1024) (n : Nat) (hn : n < 11) : RefusedBy w w0 c D n s := by
  match n, hn with
  | 0, _ => exact refused_0 S s hs
  | 1, _ => exact refused_1 S s hs
  | 2, _ => exact refused_2 S s hs
  | 3, _ => exact refused_3 S s hs
  | 4, _ => exact refused_4 S s hs
  | 5, _ => exact refused_5 S s hs
  | 6, _ => exact refused_6 S s hs
  | 7, _ => exact refused_7 S s hs
  | 8, _ => exact refused_8 S s hs
  | 9, _ => exact refused_9 S s hs
  | 10, _ => exact refused_10 S s hs
end
end Go.Proofs.Ytppllhdocajfiaa
