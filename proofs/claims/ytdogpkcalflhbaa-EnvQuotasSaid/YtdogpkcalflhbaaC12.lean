/- Create: no room; done. -/
import Derived.Test.YtdogpkcalflhbaaC11
set_option linter.unusedSimpArgs false
set_option linter.unusedVariables false
namespace Go.Proofs.Ytdogpkcalflhbaa
open Go.RowKit
section
variable {w w' W : World} {b : Nat} {L : Lay} {T : Tb} {q0 q1 q2 : Int}
theorem good_child {q0 q1 q2 : Int} (h : goodB ⟨q0, q1, q2⟩ = true) : in64 (q1 + 1) := by
  rw [goodB_iff] at h
  unfold Qok at h
  simp only at h
  unfold in64
  omega
set_option maxHeartbeats 2000000 in
theorem Create_fit (h : TabAt w b L T) (n : Nat) (r : Rec) (hn : T.live n = some r) (ok : Rok r) (s q0 q1 q2 : Int) (hg : goodB ⟨q0, q1, q2⟩ = true) (hs1 : T.last < s) (hs2 : s ≤ 4611686018427387903) (hfit : fitB (Qt.child ⟨q0, q1, q2⟩) r.left = false) :
    Calls Try.prog 17 #[.pointer (some ⟨b, 0, none⟩), .int .i64 (n : Int), .int .i64 s, .agg #[.int .i64 q0, .int .i64 q1, .int .i64 q2]] w fun e w' =>
    e = .returned (.tuple #[.int .i64 (-1), .int .i64 2]) ∧ Left w b L T w' := by
  have h1 := h.head
  have hbw : b < w.heap.size := lt_of_block h.hb
  obtain ⟨W, hW⟩ : ∃ W, Hid (W = w.alloc (.cells #[.int .i64 q0, .int .i64 q1, .int .i64 q2] 39)) := ⟨_, Lib.hid rfl⟩
  have HQ : Hid (Boxed w q0 q1 q2 W) := Lib.hid (by rw [hW.out]; exact Boxed.mk' _ _ _ _)
  have H := Lib.hid h
  have HN := Lib.hid hn
  have HB := Lib.hid (at_some (h.no HQ.out.fr) hn)
  have HG := Lib.hid (fun w => good_raw q0 q1 q2 w)
  rw [hg] at HG
  have HC := Lib.hid (good_child hg)
  have HOK := Lib.hid ok
  have HFI := Lib.hid (fun w => fits_raw q0 (q1 + 1) q2 r.left.f r.left.e r.left.x w)
  have hfit' : fitB ⟨q0, q1 + 1, q2⟩ ⟨r.left.f, r.left.e, r.left.x⟩ = false := hfit
  rw [hfit'] at HFI
  obtain ⟨last, hl⟩ : ∃ l, Hid (T.last = l) := ⟨_, Lib.hid rfl⟩
  rw [hl.out] at hs1
  obtain ⟨g, hgg⟩ : ∃ g, Hid (L.rb n = g) := ⟨_, Lib.hid rfl⟩
  rw [hgg.out] at HB
  have KH : Hid (∀ w', Fr No w w' → w'.heap[g]? = some (.cells (reccells r (L.kv n)) 80 (0, 0))) := Lib.hid fun w' hf => by rw [← hgg.out]; exact hf.heap (H.out.hrb n r HN.out) id
  clear h hn hg hfit hfit' ok
  go_enter Try.func17, Try.ntmps17
  go_wp2_with fail
  rw [← hW.out]
  refine HB.out.mono ?_
  rintro v w1 ⟨rfl, hf⟩
  have HQ1 := Lib.hid (HQ.out.no hf)
  have c0 := HQ1.out.c0
  have c1 := HQ1.out.c1
  have c2 := HQ1.out.c2
  have clt := HQ1.out.lt
  clear hf
  go_wp2_with fail
  refine (HG.out _).mono ?_
  rintro v w2 ⟨rfl, hf⟩
  have HQ2 := Lib.hid (HQ1.out.no hf)
  have k := (H.out.no HQ2.out.fr).last
  rw [hl.out] at k
  have klt : b < w2.heap.size := World.block_lt_of_cell? _ _ k
  clear hf c0 c1 c2 clt
  have hs3 : ¬ s ≤ last := by omega
  have hs4 : ¬ 4611686018427387903 < s := by omega
  have KC : Hid (∀ w', Fr No w2 w' → w'.cell? ⟨w.heap.size, 0, none⟩ = some (.int .i64 q0) ∧ w'.cell? ⟨w.heap.size, 1, none⟩ = some (.int .i64 q1) ∧ w'.cell? ⟨w.heap.size, 2, none⟩ = some (.int .i64 q2)) := Lib.hid fun w' hf => ⟨(HQ2.out.no hf).c0, (HQ2.out.no hf).c1, (HQ2.out.no hf).c2⟩
  obtain ⟨c0, c1, c2⟩ := KC.out _ (Fr.refl _ _)
  have clt := HQ2.out.lt
  have HFW := Lib.hid HQ2.out.fr
  go_wp2_with fail
  go_region_held3 (fun w' => w'.cell? ⟨w.heap.size, 0, none⟩ = some (.int .i64 q0) ∧ w'.cell? ⟨w.heap.size, 1, none⟩ = some (.int .i64 q1) ∧ w'.cell? ⟨w.heap.size, 2, none⟩ = some (.int .i64 q2))
    (first | go_keep | (with_reducible exact KC.out _ (Fr.refl _ _).drew) | (with_reducible exact KC.out _ ((Fr.refl _ _).drew.trans hf3)) | (with_reducible exact KC.out _ ((Fr.refl _ _).drew.trans hf4)) | (with_reducible exact KC.out _ (((Fr.refl _ _).drew.trans hf3).trans hf4)) | (with_reducible exact KC.out _ (((Fr.refl _ _).drew.trans hf4).trans hf3)) | (with_reducible exact KC.out _ ((((Fr.refl _ _).drew.trans hf3).trans hf4).trans hf5)) | (with_reducible exact KC.out _ ((((Fr.refl _ _).drew.trans hf4).trans hf3).trans hf5)))
    (first
      | ((with_reducible refine (forChild_raw q0 q1 q2 _ HC.out).mono ?_); rintro e w3 ⟨rfl, hf3⟩)
      | ((with_reducible refine (left_any (KH.out _ (HFW.out.trans (Fr.refl _ _).drew)) HOK.out).mono ?_); rintro e w4 ⟨rfl, hf4⟩; unfold qv)
      | ((with_reducible refine (left_any (KH.out _ ((HFW.out.trans (Fr.refl _ _).drew).trans hf3)) HOK.out).mono ?_); rintro e w4 ⟨rfl, hf4⟩; unfold qv)
      | ((with_reducible refine (HFI.out _).mono ?_); rintro e w5 ⟨rfl, hf5⟩))
  have HF5 : Hid (Fr No w w5) := Lib.hid (HFW.out.trans ((((Fr.refl _ _).drew.trans hf3).trans hf4).trans hf5))
  clear hf3 hf4 hf5
  go_wp2_with fail
  go_ret2
  exact ⟨rfl, H.out.no HF5.out, HF5.out.anyOwn⟩

set_option maxHeartbeats 2000000 in
theorem Create_full (h : TabAt w b L T) (n : Nat) (r : Rec) (hn : T.live n = some r) (ok : Rok r) (s q0 q1 q2 : Int) (hg : goodB ⟨q0, q1, q2⟩ = true) (hs1 : T.last < s) (hs2 : s ≤ 4611686018427387903) (hfit : fitB (Qt.child ⟨q0, q1, q2⟩) r.left = true) (hx : ∀ m, T.low ≤ m → m < 16 → (T.live m).isSome = true) :
    Calls Try.prog 17 #[.pointer (some ⟨b, 0, none⟩), .int .i64 (n : Int), .int .i64 s, .agg #[.int .i64 q0, .int .i64 q1, .int .i64 q2]] w fun e w' =>
    e = .returned (.tuple #[.int .i64 (-1), .int .i64 2]) ∧ Left w b L { T with low := 16 } w' := by
  have h1 := h.head
  have hbw : b < w.heap.size := lt_of_block h.hb
  obtain ⟨W, hW⟩ : ∃ W, Hid (W = w.alloc (.cells #[.int .i64 q0, .int .i64 q1, .int .i64 q2] 39)) := ⟨_, Lib.hid rfl⟩
  have HQ : Hid (Boxed w q0 q1 q2 W) := Lib.hid (by rw [hW.out]; exact Boxed.mk' _ _ _ _)
  have H := Lib.hid h
  have HN := Lib.hid hn
  have HB := Lib.hid (at_some (h.no HQ.out.fr) hn)
  have HG := Lib.hid (fun w => good_raw q0 q1 q2 w)
  rw [hg] at HG
  have HC := Lib.hid (good_child hg)
  have HOK := Lib.hid ok
  have HFI := Lib.hid (fun w => fits_raw q0 (q1 + 1) q2 r.left.f r.left.e r.left.x w)
  have hfit' : fitB ⟨q0, q1 + 1, q2⟩ ⟨r.left.f, r.left.e, r.left.x⟩ = true := hfit
  rw [hfit'] at HFI
  obtain ⟨last, hl⟩ : ∃ l, Hid (T.last = l) := ⟨_, Lib.hid rfl⟩
  rw [hl.out] at hs1
  obtain ⟨g, hgg⟩ : ∃ g, Hid (L.rb n = g) := ⟨_, Lib.hid rfl⟩
  rw [hgg.out] at HB
  have KH : Hid (∀ w', Fr No w w' → w'.heap[g]? = some (.cells (reccells r (L.kv n)) 80 (0, 0))) := Lib.hid fun w' hf => by rw [← hgg.out]; exact hf.heap (H.out.hrb n r HN.out) id
  have HX := Lib.hid hx
  have KT : Hid (∀ w', Fr No w w' → TabAt w' b L T) := Lib.hid fun w' hf => H.out.no hf
  have HLT : Hid (b ≠ L.tb ∧ b ≠ L.cb ∧ w.heap.size ≠ L.tb ∧ w.heap.size ≠ L.cb ∧ L.tb < w.heap.size ∧ L.cb < w.heap.size ∧ b < w.heap.size) := Lib.hid (by
    have e1 := H.out.flt L.tb (by unfold Own; rw [H.out.ftb]; simp)
    have e2 := H.out.flt L.cb (by unfold Own; rw [H.out.fcb]; simp)
    refine ⟨fun e => ?_, fun e => ?_, by omega, by omega, e1, e2, hbw⟩
    · have := H.out.fb; rw [e, H.out.ftb] at this; simp at this
    · have := H.out.fb; rw [e, H.out.fcb] at this; simp at this)
  clear h hn hg hfit hfit' ok hx
  go_enter Try.func17, Try.ntmps17
  go_wp2_with fail
  rw [← hW.out]
  refine HB.out.mono ?_
  rintro v w1 ⟨rfl, hf⟩
  have HQ1 := Lib.hid (HQ.out.no hf)
  have c0 := HQ1.out.c0
  have c1 := HQ1.out.c1
  have c2 := HQ1.out.c2
  have clt := HQ1.out.lt
  clear hf
  go_wp2_with fail
  refine (HG.out _).mono ?_
  rintro v w2 ⟨rfl, hf⟩
  have HQ2 := Lib.hid (HQ1.out.no hf)
  have k := (H.out.no HQ2.out.fr).last
  rw [hl.out] at k
  have klt : b < w2.heap.size := World.block_lt_of_cell? _ _ k
  clear hf c0 c1 c2 clt
  have hs3 : ¬ s ≤ last := by omega
  have hs4 : ¬ 4611686018427387903 < s := by omega
  have KC : Hid (∀ w', Fr No w2 w' → w'.cell? ⟨w.heap.size, 0, none⟩ = some (.int .i64 q0) ∧ w'.cell? ⟨w.heap.size, 1, none⟩ = some (.int .i64 q1) ∧ w'.cell? ⟨w.heap.size, 2, none⟩ = some (.int .i64 q2)) := Lib.hid fun w' hf => ⟨(HQ2.out.no hf).c0, (HQ2.out.no hf).c1, (HQ2.out.no hf).c2⟩
  obtain ⟨c0, c1, c2⟩ := KC.out _ (Fr.refl _ _)
  have clt := HQ2.out.lt
  have HFW := Lib.hid HQ2.out.fr
  go_wp2_with fail
  go_region_held3 (fun w' => w'.cell? ⟨w.heap.size, 0, none⟩ = some (.int .i64 q0) ∧ w'.cell? ⟨w.heap.size, 1, none⟩ = some (.int .i64 q1) ∧ w'.cell? ⟨w.heap.size, 2, none⟩ = some (.int .i64 q2))
    (first | go_keep | (with_reducible exact KC.out _ (Fr.refl _ _).drew) | (with_reducible exact KC.out _ ((Fr.refl _ _).drew.trans hf3)) | (with_reducible exact KC.out _ ((Fr.refl _ _).drew.trans hf4)) | (with_reducible exact KC.out _ (((Fr.refl _ _).drew.trans hf3).trans hf4)) | (with_reducible exact KC.out _ (((Fr.refl _ _).drew.trans hf4).trans hf3)) | (with_reducible exact KC.out _ ((((Fr.refl _ _).drew.trans hf3).trans hf4).trans hf5)) | (with_reducible exact KC.out _ ((((Fr.refl _ _).drew.trans hf4).trans hf3).trans hf5)))
    (first
      | ((with_reducible refine (forChild_raw q0 q1 q2 _ HC.out).mono ?_); rintro e w3 ⟨rfl, hf3⟩)
      | ((with_reducible refine (left_any (KH.out _ (HFW.out.trans (Fr.refl _ _).drew)) HOK.out).mono ?_); rintro e w4 ⟨rfl, hf4⟩; unfold qv)
      | ((with_reducible refine (left_any (KH.out _ ((HFW.out.trans (Fr.refl _ _).drew).trans hf3)) HOK.out).mono ?_); rintro e w4 ⟨rfl, hf4⟩; unfold qv)
      | ((with_reducible refine (HFI.out _).mono ?_); rintro e w5 ⟨rfl, hf5⟩))
  have HQ5 : Hid (Boxed w q0 q1 q2 w5) := Lib.hid (HQ2.out.no ((((Fr.refl _ _).drew.trans hf3).trans hf4).trans hf5))
  have HF5 : Hid (Fr No w w5) := Lib.hid (HFW.out.trans ((((Fr.refl _ _).drew.trans hf3).trans hf4).trans hf5))
  clear hf3 hf4 hf5
  have KD : Hid (∀ w' w'', Fr No w5 w' → Fr (Two L.tb L.cb) w' w'' → w''.cell? ⟨b, 0, none⟩ = some (.pointer (some ⟨L.tb, 0, none⟩)) ∧ w''.cell? ⟨w.heap.size, 0, none⟩ = some (.int .i64 q0) ∧ w''.cell? ⟨w.heap.size, 1, none⟩ = some (.int .i64 q1) ∧ w''.cell? ⟨w.heap.size, 2, none⟩ = some (.int .i64 q2)) := Lib.hid fun w' w'' hf hf2 => by
    have e := HLT.out
    have hb := hf2.heap ((HF5.out.trans hf).heap H.out.hb id) (Two.not e.1 e.2.1)
    have hq := hf2.heap ((HQ5.out.no hf).blk) (Two.not e.2.2.1 e.2.2.2.1)
    exact ⟨cell_blk hb rfl, cell_blk hq rfl, cell_blk hq rfl, cell_blk hq rfl⟩
  clear c0 c1 c2 clt k klt
  obtain ⟨cb0, c0, c1, c2⟩ := KD.out _ _ (Fr.refl _ _) (Fr.refl _ _)
  have clt : w.heap.size < w5.heap.size := World.block_lt_of_cell? _ _ c0
  have blt : b < w5.heap.size := World.block_lt_of_cell? _ _ cb0
  go_wp2_with fail
  go_region_held3 (fun w' => w'.cell? ⟨b, 0, none⟩ = some (.pointer (some ⟨L.tb, 0, none⟩)) ∧ w'.cell? ⟨w.heap.size, 0, none⟩ = some (.int .i64 q0) ∧ w'.cell? ⟨w.heap.size, 1, none⟩ = some (.int .i64 q1) ∧ w'.cell? ⟨w.heap.size, 2, none⟩ = some (.int .i64 q2))
    (first | go_keep | (with_reducible exact KD.out _ _ (Fr.refl _ _).drew (Fr.refl _ _)) | (with_reducible exact KD.out _ _ ((Fr.refl _ _).alloc _).drew (Fr.refl _ _)) | (with_reducible exact KD.out _ _ ((Fr.refl _ _).alloc _).drew hf6))
    (first
      | ((with_reducible refine (Put_full (KT.out _ ((HF5.out.alloc _).drew)) HX.out _).mono ?_); rintro e w6 ⟨rfl, hcnt, hf6'⟩; have hf6 := hf6'.mono (T := Two L.tb L.cb) fun _ _ h => .inl h))
  have HR : Hid (Left w b L { T with low := 16 } w6) := Lib.hid ⟨(KT.out _ ((HF5.out.alloc _).drew)).hint 16 (Nat.le_refl _) hcnt hf6', (((HF5.out.alloc _).drew).anyOwn).trans (hf6'.mono fun k _ hk => by have e : k = L.tb := hk; rw [e]; unfold Own; rw [H.out.ftb]; simp)⟩
  clear hcnt hf6 hf6'
  go_wp2_with fail
  go_ret2
  exact ⟨rfl, HR.out⟩

end
end Go.Proofs.Ytdogpkcalflhbaa
