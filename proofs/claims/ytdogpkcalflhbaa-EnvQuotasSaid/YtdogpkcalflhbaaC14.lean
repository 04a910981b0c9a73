/- Create; New. -/
import Derived.Test.YtdogpkcalflhbaaC13
set_option linter.unusedSimpArgs false
set_option linter.unusedVariables false
namespace Go.Proofs.Ytdogpkcalflhbaa
open Go.RowKit
section
variable {w w' W : World} {b : Nat} {L : Lay} {T : Tb}
theorem Create_any (h : TabAt w b L T) (p s : Int) (q : Qt) (ok : ∀ n r, T.live n = some r → Rok r ∧ r.kids.length ≤ 16) :
    Calls Try.prog 17 #[.pointer (some ⟨b, 0, none⟩), .int .i64 p, .int .i64 s, qv q] w fun e w' => e = .returned (.tuple #[.int .i64 (T.create p s q).2.1, .int .i64 (T.create p s q).2.2]) ∧ Moved w b L (T.create p s q).1 w' := by
  obtain ⟨q0, q1, q2⟩ := q
  unfold Tb.create qv
  cases hr : T.at p with
  | none => exact (Create_none h p s q0 q1 q2 hr).mono fun e w' ⟨h1, h2⟩ => ⟨h1, h2.moved⟩
  | some r =>
    obtain ⟨n, rfl, hn, h16⟩ := h.some_at hr
    simp only [Int.toNat_natCast]
    obtain ⟨hok, hkl⟩ := ok n r hn
    by_cases hbad : goodB ⟨q0, q1, q2⟩ = false ∨ s ≤ T.last ∨ 4611686018427387903 < s
    · rw [if_pos hbad]
      exact (Create_arg h n r hn s q0 q1 q2 hbad).mono fun e w' ⟨h1, h2⟩ => ⟨h1, h2.moved⟩
    · rw [if_neg hbad]
      have hg : goodB ⟨q0, q1, q2⟩ = true := by
        cases e : goodB ⟨q0, q1, q2⟩ with
        | true => rfl
        | false => exact absurd (.inl e) hbad
      have hs1 : T.last < s := by
        by_cases e : s ≤ T.last
        · exact absurd (.inr (.inl e)) hbad
        · omega
      have hs2 : s ≤ 4611686018427387903 := by
        by_cases e : 4611686018427387903 < s
        · exact absurd (.inr (.inr e)) hbad
        · omega
      by_cases hfit : fitB (Qt.child ⟨q0, q1, q2⟩) r.left = false
      · rw [if_pos hfit]
        exact (Create_fit h n r hn hok s q0 q1 q2 hg hs1 hs2 hfit).mono fun e w' ⟨h1, h2⟩ => ⟨h1, h2.moved⟩
      · rw [if_neg hfit]
        have hfit' : fitB (Qt.child ⟨q0, q1, q2⟩) r.left = true := by simpa using hfit
        cases hff : T.firstFree with
        | none => exact (Create_full h n r hn hok s q0 q1 q2 hg hs1 hs2 hfit' (firstFree_none hff)).mono fun e w' ⟨h1, h2⟩ => ⟨h1, h2.moved⟩
        | some nn =>
          have hsum : (r.carved.plus (Qt.child ⟨q0, q1, q2⟩)).in64 := by
            have h1 := hok.carved
            have h2 := goodB_iff.1 hg
            unfold Qok at h1 h2
            simp only [Qt.plus, Qt.child, Qt.in64, in64] at h2 ⊢
            omega
          exact Create_ok h n r hn hok s q0 q1 q2 hg hs1 hs2 hfit' nn (firstFree_some hff) hsum hkl
end

theorem within_raw (x : Int) (w : World) (h0 : 0 ≤ x) (h1 : x ≤ 4611686018427387903) : Calls Try.prog 45 #[.int .i64 x] w fun e w' => e = .returned (.int .i64 x) ∧ w = w' := by
  go_enter Try.func45, Try.ntmps45
  go_wp2
  all_goals
    go_ret
    first
      | exact ⟨rfl, rfl⟩
      | (exfalso; omega)
      | exact ⟨congrArg (fun z => Ending.returned (.int .i64 z)) (by omega), rfl⟩
theorem Try.info100 : (Try.prog.info? 100).map (fun i => (i.zero, i.size, i.bytes)) = some (some (.agg #[.bool false, .pointer none]), 2, 16) := by kernel_rfl
/-- Empty slots. -/
structure Empty (w : World) (cb tb : Nat) (w' : World) : Prop where
  cbw : w.heap.size ≤ cb
  ne : cb < tb
  cells : ∃ C, w'.heap[cb]? = some (.cells C 100 (0, 0)) ∧ C.size = 32 ∧ ∀ n, n < 16 → C[n * 2]? = some (.bool false) ∧ C[n * 2 + 1]? = some (.pointer none)
  slots : w'.heap[tb]? = some (.cells #[.slice (some ⟨cb, 0, none⟩) 16 16, .int .i64 0, .int .i64 0] 98 (0, 0))
theorem Empty.keep {w w' w'' : World} {cb tb : Nat} {S : Nat → Prop} (h : Empty w cb tb w') (hf : Fr S w' w'') (h1 : ¬ S cb) (h2 : ¬ S tb) : Empty w cb tb w'' := by
  obtain ⟨C, h3, h4⟩ := h.cells
  exact ⟨h.cbw, h.ne, ⟨C, hf.heap h3 h1, h4⟩, hf.heap h.slots h2⟩
set_option maxRecDepth 10000 in
theorem New44 (w : World) : Calls Try.prog 44 #[.int .i64 16] w fun e w' => ∃ cb tb, e = .returned (.pointer (some ⟨tb, 0, none⟩)) ∧ Empty w cb tb w' ∧ Fr No w w' := by
  obtain ⟨i0, hi, hz0, hz1, hz2⟩ := info_parts Try.info100
  go_enter Try.func44, Try.ntmps44
  go_wp2_with (with_reducible show wpList _ _ _ (Oper.mk (some 6) _ _ _ _ _ :: _) _ _; refine Stop.mk ?_)
  refine Stop.go ?_
  refine wpList_make_full _ rfl _ _ 96 rfl w.heap.size 100 i0 (.agg #[.bool false, .pointer none]) 2 Try.underlying96 hi hz0 hz1 _ _ _ _ 16 rfl rfl rfl rfl ?bytes ?maxlen ?base ?_
  case bytes => rw [hz2]; omega
  case maxlen => unfold maxLen; omega
  case base => exact Nat.le_refl _
  intro w1 hown1 hg1
  have HF1 : Hid (Fr No w w1) := Lib.hid (Fr.grown (Fr.refl _ _) hg1 fun k h => by cases h)
  have HC1 : Hid (∃ C, w1.heap[w.heap.size]? = some (.cells C 100 (0, 0)) ∧ C.size = 32 ∧ ∀ n, n < 16 → C[n * 2]? = some (.bool false) ∧ C[n * 2 + 1]? = some (.pointer none)) := Lib.hid (by
    rcases hown1.2 with ⟨h, _⟩ | ⟨g, cap, cur, h, _, hh, _, _, hs, hx⟩
    · cases h
    · simp only [Value.slice.injEq, Option.some.injEq, Addr.mk.injEq] at h
      obtain ⟨⟨rfl, _⟩, _, rfl⟩ := h
      have hsz : cur.size = 32 := by simpa using hs
      refine ⟨cur, hh, hsz, fun n hn => ?_⟩
      rw [List.take_of_length_le (by simp [hsz])] at hx
      have e : ∀ k, cur[k]? = (madeCells (Value.agg #[.bool false, .pointer none]).cells (16 * 2))[k]? := fun k => by
        rw [← Array.getElem?_toList, ← Array.getElem?_toList, hx]
      rw [e, e]
      rcases (by omega : n = 0 ∨ n = 1 ∨ n = 2 ∨ n = 3 ∨ n = 4 ∨ n = 5 ∨ n = 6 ∨ n = 7 ∨ n = 8 ∨ n = 9 ∨ n = 10 ∨ n = 11 ∨ n = 12 ∨ n = 13 ∨ n = 14 ∨ n = 15) with rfl | rfl | rfl | rfl | rfl | rfl | rfl | rfl | rfl | rfl | rfl | rfl | rfl | rfl | rfl | rfl <;> (constructor <;> simp [madeCells, Value.cells]))
  clear hown1 hg1
  go_wp2_with fail
  go_ret
  refine ⟨w.heap.size, w1.heap.size, rfl, ⟨Nat.le_refl _, ?_, ?_, heap_alloc_new w1 _⟩, HF1.out.alloc _⟩
  · obtain ⟨C, h, _⟩ := HC1.out
    exact lt_of_block h
  · obtain ⟨C, h, h2⟩ := HC1.out
    exact ⟨C, ((Fr.refl No w1).alloc _).heap h id, h2⟩
end Go.Proofs.Ytdogpkcalflhbaa
