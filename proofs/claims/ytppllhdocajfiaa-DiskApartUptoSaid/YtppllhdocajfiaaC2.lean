/- join: lists of bytes behind one another, in new memory. -/
import Derived.Test.YtppllhdocajfiaaC1
set_option linter.unusedSimpArgs false
set_option linter.unusedVariables false
namespace Go.Proofs.Ytppllhdocajfiaa
open Go.RowKit
theorem Try.info5 : (Try.prog.info? 5).map (fun i => (i.zero, i.size, i.bytes)) = some (some (.int .u8 0), 1, 1) := by kernel_rfl
theorem Try.size5 : (Try.prog.info? 5).map (·.size) = some 1 := by kernel_rfl

set_option maxHeartbeats 1000000 in
set_option maxRecDepth 100000 in
theorem join_any (w : World) (pb k a o n : Nat) (X : List UInt8) (hk : 1 ≤ k ∧ k ≤ 1024) (hn : Hid (k * 128 = n)) (hX : Hid (X.length = n))
    (hp : ∀ j, j < k → w.cell? ⟨pb, j, none⟩ = some (.slice (some ⟨a, o + j * 128, none⟩) 128 128))
    (hc : ∀ i, i < n → w.cell? ⟨a, o + i, none⟩ = some (bv (X.getD i 0))) (ha : a < w.heap.size) (hpb : pb < w.heap.size) :
    Calls Try.prog 56 #[.slice (some ⟨pb, 0, none⟩) k k] w fun e w' => ∃ g, e = .returned (.slice (some ⟨g, 0, none⟩) n n) ∧ w.heap.size ≤ g ∧
      w'.heap[g]? = some (.cells (X.map bv).toArray 5 (0, 0)) ∧ Below w.heap.size w w' := by
  obtain ⟨i0, hi, hz0, hz1, hz2⟩ := info_parts Try.info5
  have hn1 : 1 ≤ n ∧ n ≤ 131072 := by have := hn.out; omega
  have HP := Lib.hid hp
  have HC := Lib.hid hc
  clear hp hc
  go_enter Try.func56, Try.ntmps56
  go_wp2
  go_loopg [3, 12] k (fun m n i wr => ∃ j t : Nat, j ≤ k ∧ m + j = k ∧ i = .int .i64 j ∧ n = .int .i64 t ∧ t ≤ 131072 ∧ Hid (t = j * 128) ∧ w = wr)
  case atStart => exact ⟨0, 0, by omega, by omega, rfl, rfl, by omega, Lib.hid rfl, rfl⟩
  case round =>
    obtain ⟨j, t, hj, hm, rfl, rfl, ht, hT, rfl⟩ := hrel
    by_cases hlt : j < k
    · have hpj := HP.out j hlt
      go_wp2
      go_roundg (k - (j+1))
      case rel => exact ⟨j + 1, t + 128, by omega, by omega, by go_num, by go_num, by have := hT.out; omega, Lib.hid (by have := hT.out; omega), rfl⟩
      case measure => omega
    · obtain rfl : k = j := by omega
      obtain rfl : n = t := by have := hT.out; have := hn.out; omega
      clear hm hj hT ht
      go_wp2_with (at_make; refine wpList_make_full _ rfl _ _ 34 rfl w.heap.size 5 i0 (.int .u8 0) 1 Try.underlying34 hi hz0 hz1 _ _ _ _ n rfl rfl rfl rfl ?bytes ?maxlen ?base ?_)
      case bytes => rw [hz2]; omega
      case maxlen => unfold maxLen; omega
      case base => exact Nat.le_refl _
      intro w1 hown hg
      have hb1 : Below w.heap.size w w1 := (Below.refl _ _).grown hg (Nat.le_refl _) (fun k h => by cases h)
      go_wp2
      obtain ⟨cur0, hcur0, hlen0⟩ : ∃ cur0 : List Value, w1.heap[w.heap.size]? = some (.cells cur0.toArray 5 (0, 0)) ∧ cur0.length = n := by
        rcases hown.2 with ⟨h, _⟩ | ⟨g, cap, cur, h, _, hh, _, _, hs, _⟩
        · cases h
        · simp only [Value.slice.injEq, Option.some.injEq, Addr.mk.injEq] at h
          obtain ⟨⟨rfl, _⟩, _, rfl⟩ := h
          exact ⟨cur.toList, by simpa using hh, by simpa using hs⟩
      clear hown hg
      have Hcur0 := Lib.hid hcur0
      clear hcur0
      go_loopg [7, 25] k (fun m n' i w2 => ∃ j t : Nat, j ≤ k ∧ m + j = k ∧ i = .int .i64 j ∧ n' = .int .i64 t ∧ t ≤ n ∧ Hid (t = j * 128) ∧ Below w.heap.size w w2 ∧
        ∃ cur : List Value, Hid (w2.heap[w.heap.size]? = some (.cells ((X.take t).map bv ++ cur).toArray 5 (0, 0)) ∧ t + cur.length = n))
      case atStart => exact ⟨0, 0, by omega, by omega, rfl, rfl, by omega, Lib.hid rfl, hb1, cur0, Lib.hid ⟨by simpa using Hcur0.out, by omega⟩⟩
      case round =>
        obtain ⟨j, t, hj, hm, rfl, rfl, ht, hT, hb2, cur, hC⟩ := hrel
        by_cases hlt : j < k
        · have hpj := HP.out j hlt
          have hq := (hb2.cell (p := ⟨pb, j, none⟩) hpb).trans hpj
          have htn : t + 128 ≤ n := by have := hT.out; have := hn.out; omega
          clear hpj
          obtain ⟨S, hS⟩ : ∃ S : List Value, Hid (S = (((X.drop t).take 128).map bv)) := ⟨_, Lib.hid rfl⟩
          have hSl : Hid (S.length = 128) := Lib.hid (by rw [hS.out]; have := hX.out; simp; omega)
          go_wp2_with (with_reducible show wpList _ _ _ (Oper.mk (some 34) _ _ _ _ _ :: _) _ _; refine Stop.mk ?_)
          refine Stop.go ?_
          refine wpList_copy_splice rfl (.tmp 32) (.tmp 33) 34 34 rfl 5 Try.underlying34 Try.size5 _ _ _ _ _ _ rfl rfl w.heap.size t _ 5 hC.out.1 S ?cn ?cpos ?cfit ?cone w.heap.size w hb2 (Nat.le_refl _) ?_
          case cn => rw [hSl.out]; simp [Nat.min]; omega
          case cpos =>
            intro _
            refine ⟨rfl, _, rfl, fun i v hv => ?_⟩
            rw [hS.out] at hv
            obtain ⟨hi, hl, rfl⟩ := seg_get hv
            have hT' := hT.out
            have hX' := hX.out
            have := HC.out (t + i) (by omega)
            rw [addr_add, hb2.cell (p := ⟨a, _, none⟩) ha, Nat.add_assoc, ← hT']
            exact this
          case cfit => rw [hSl.out]; have := hC.out.2; have := hX.out; simp; omega
          case cone => rw [hS.out]; exact bvs_one _
          intro w3 hw3 hb3
          rw [hSl.out]
          go_wp2
          go_roundg (k - (j+1))
          case rel => 
            refine ⟨j + 1, t + 128, by omega, by omega, by go_num, by go_num, by omega, Lib.hid (by have := hT.out; omega), hb3, cur.drop 128, ?_⟩
            have hX' := hX.out
            have hC2 := hC.out.2
            refine Lib.hid ⟨?_, by simp; omega⟩
            rw [← splice_seg X cur t 128 (by omega) (by omega), ← hS.out]
            exact hw3.out
          case measure => omega
        · go_wp2
          go_ret
          obtain rfl : k = j := by omega
          have hX' := hX.out
          obtain ⟨h1, h2⟩ := hC.out
          obtain rfl : t = n := by have := hT.out; have := hn.out; omega
          obtain rfl : cur = [] := List.eq_nil_of_length_eq_zero (by omega)
          rw [List.take_of_length_le (by omega), List.append_nil] at h1
          exact ⟨_, rfl, Nat.le_refl _, h1, hb2⟩
end Go.Proofs.Ytppllhdocajfiaa
