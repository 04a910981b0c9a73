/- pay, refund; Pay, Refund. -/
import Derived.Test.YtdogpkcalflhbaaC11
set_option linter.unusedSimpArgs false
set_option linter.unusedVariables false
namespace Go.Proofs.Ytdogpkcalflhbaa
open Go.RowKit

def Rec.pay (r : Rec) (q : Qt) : Rec × Int := if goodB q = false then (r, 1) else if fitB q r.left = false then (r, 2) else ({ r with paid := r.paid.plus q }, 0)
def Rec.refund (r : Rec) (q : Qt) : Rec × Int := if goodB q = false ∨ fitB q r.paid = false then (r, 1) else ({ r with paid := r.paid.minus q }, 0)
/-- The record at block g behind a call on its book. -/
structure Paid (w : World) (g : Nat) (r : Rec) (kv : Value) (w' : World) : Prop where
  blk : w'.heap[g]? = some (.cells (reccells r kv) 80 (0, 0))
  fr : Fr (One g) w w'
section
variable {w : World} {g : Nat} {r : Rec} {kv : Value}
/-- The cells that pay and refund load. -/
theorem paid_cells (hh : w.heap[g]? = some (.cells (reccells r kv) 80 (0, 0))) {W : World} {q0 q1 q2 : Int} (hB : Boxed w q0 q1 q2 W) : ∀ w', Fr No W w' → w'.cell? ⟨g, 24, none⟩ = some (.int .i64 r.paid.f) ∧ w'.cell? ⟨g, 25, none⟩ = some (.int .i64 r.paid.e) ∧ w'.cell? ⟨g, 26, none⟩ = some (.int .i64 r.paid.x) ∧
      w'.cell? ⟨w.heap.size, 0, none⟩ = some (.int .i64 q0) ∧ w'.cell? ⟨w.heap.size, 1, none⟩ = some (.int .i64 q1) ∧ w'.cell? ⟨w.heap.size, 2, none⟩ = some (.int .i64 q2) ∧
      w'.frozen? ⟨g, 24, none⟩ = false ∧ w'.frozen? ⟨g, 25, none⟩ = false ∧ w'.frozen? ⟨g, 26, none⟩ = false ∧ g < w'.heap.size := fun w' hf => by
  have hb := (hB.fr.trans hf).heap hh id
  have hb2 := (hB.no hf).blk
  exact ⟨cell_blk hb rfl, cell_blk hb rfl, cell_blk hb rfl, cell_blk hb2 rfl, cell_blk hb2 rfl, cell_blk hb2 rfl, free_blk hb _, free_blk hb _, free_blk hb _, lt_of_block hb⟩

set_option maxHeartbeats 2000000 in
theorem pay_raw (hh : w.heap[g]? = some (.cells (reccells r kv) 80 (0, 0))) (ok : Rok r) (q0 q1 q2 : Int) :
    Calls Try.prog 48 #[.pointer (some ⟨g, 21, none⟩), .agg #[.int .i64 q0, .int .i64 q1, .int .i64 q2]] w fun e w' => e = .returned (.int .i64 (r.pay ⟨q0, q1, q2⟩).2) ∧ Paid w g (r.pay ⟨q0, q1, q2⟩).1 kv w' := by
  obtain ⟨W, hW⟩ : ∃ W, Hid (W = w.alloc (.cells #[.int .i64 q0, .int .i64 q1, .int .i64 q2] 39)) := ⟨_, Lib.hid rfl⟩
  have HQ : Hid (Boxed w q0 q1 q2 W) := Lib.hid (by rw [hW.out]; exact Boxed.mk' _ _ _ _)
  have KC := Lib.hid (paid_cells hh HQ.out)
  have HH := Lib.hid hh
  have HOK := Lib.hid ok
  have HG := Lib.hid (fun w => good_raw q0 q1 q2 w)
  have HFI := Lib.hid (fun w => fits_raw q0 q1 q2 r.left.f r.left.e r.left.x w)
  have hfe : fitB ⟨q0, q1, q2⟩ ⟨r.left.f, r.left.e, r.left.x⟩ = fitB ⟨q0, q1, q2⟩ r.left := rfl
  rw [hfe] at HFI
  unfold Rec.pay
  obtain ⟨_, _, _, b3, b4, b5, _, _, _, b9⟩ := KC.out _ (Fr.refl _ _)
  have lt : w.heap.size < W.heap.size := World.block_lt_of_cell? _ _ b3
  clear hh ok hfe
  cases hg : goodB ⟨q0, q1, q2⟩ with
  | false =>
    rw [if_pos rfl]
    rw [hg] at HG
    go_enter Try.func48, Try.ntmps48
    go_wp2_with fail
    rw [← hW.out]
    refine (HG.out _).mono ?_
    rintro v w1 ⟨rfl, hf1⟩
    have HF := Lib.hid (HQ.out.fr.trans hf1)
    clear hf1
    go_wp2_with fail
    go_ret
    exact ⟨rfl, HF.out.heap HH.out id, HF.out.mono fun _ _ h => h.elim⟩
  | true =>
    rw [hg] at HG
    rw [if_neg (by simp)]
    have hsum : fitB ⟨q0, q1, q2⟩ r.left = true → (Qt.plus ⟨r.paid.f, r.paid.e, r.paid.x⟩ ⟨q0, q1, q2⟩).in64 := fun _ => by
      have h1 := HOK.out.paid
      have h2 := goodB_iff.1 hg
      unfold Qok at h1 h2
      simp only [Qt.plus, Qt.in64, in64] at h2 ⊢
      omega
    have HSUM := Lib.hid hsum
    clear hg hsum
    cases hfit : fitB ⟨q0, q1, q2⟩ r.left with
    | false =>
      rw [if_pos rfl]
      rw [hfit] at HFI
      clear hfit
      go_enter Try.func48, Try.ntmps48
      go_wp2_with fail
      rw [← hW.out]
      refine (HG.out _).mono ?_
      rintro v w1 ⟨rfl, hf1⟩
      have HF1 := Lib.hid hf1
      obtain ⟨_, _, _, d3, d4, d5, _, _, _, d9⟩ := KC.out _ hf1
      have lt1 : w.heap.size < w1.heap.size := World.block_lt_of_cell? _ _ d3
      have KQ : Hid (∀ w', Fr No w1 w' → w'.cell? ⟨w.heap.size, 0, none⟩ = some (.int .i64 q0) ∧ w'.cell? ⟨w.heap.size, 1, none⟩ = some (.int .i64 q1) ∧ w'.cell? ⟨w.heap.size, 2, none⟩ = some (.int .i64 q2)) := Lib.hid fun w' hf => by
        obtain ⟨_, _, _, h3, h4, h5, _⟩ := KC.out _ (HF1.out.trans hf)
        exact ⟨h3, h4, h5⟩
      have KH : Hid (∀ w', Fr No w1 w' → w'.heap[g]? = some (.cells (reccells r kv) 80 (0, 0))) := Lib.hid fun w' hf => ((HQ.out.fr.trans HF1.out).trans hf).heap HH.out id
      clear hf1
      go_wp2_with fail
      go_region_held3 (fun w' => w'.cell? ⟨w.heap.size, 0, none⟩ = some (.int .i64 q0) ∧ w'.cell? ⟨w.heap.size, 1, none⟩ = some (.int .i64 q1) ∧ w'.cell? ⟨w.heap.size, 2, none⟩ = some (.int .i64 q2))
        (first | (with_reducible exact KQ.out _ (Fr.refl _ _).drew) | (with_reducible exact KQ.out _ ((Fr.refl _ _).drew.trans hf2)) | (with_reducible exact KQ.out _ (((Fr.refl _ _).drew.trans hf2).trans hf3)) | go_keep)
        (first
          | ((with_reducible refine (left_any (KH.out _ (Fr.refl _ _).drew) HOK.out).mono ?_); rintro e w2 ⟨rfl, hf2⟩; unfold qv)
          | ((with_reducible refine (HFI.out _).mono ?_); rintro e w3 ⟨rfl, hf3⟩))
      have HF := Lib.hid ((HQ.out.fr.trans HF1.out).trans (((Fr.refl _ _).drew.trans hf2).trans hf3))
      clear hf2 hf3
      go_wp2_with fail
      go_ret
      exact ⟨rfl, HF.out.heap HH.out id, HF.out.mono fun _ _ h => h.elim⟩
    | true =>
      rw [if_neg (by simp)]
      rw [hfit] at HFI
      have HS := Lib.hid (HSUM.out hfit)
      clear hfit
      go_enter Try.func48, Try.ntmps48
      go_wp2_with fail
      rw [← hW.out]
      refine (HG.out _).mono ?_
      rintro v w1 ⟨rfl, hf1⟩
      have HF1 := Lib.hid hf1
      obtain ⟨_, _, _, d3, d4, d5, _, _, _, d9⟩ := KC.out _ hf1
      have lt1 : w.heap.size < w1.heap.size := World.block_lt_of_cell? _ _ d3
      have KQ : Hid (∀ w', Fr No w1 w' → w'.cell? ⟨w.heap.size, 0, none⟩ = some (.int .i64 q0) ∧ w'.cell? ⟨w.heap.size, 1, none⟩ = some (.int .i64 q1) ∧ w'.cell? ⟨w.heap.size, 2, none⟩ = some (.int .i64 q2)) := Lib.hid fun w' hf => by
        obtain ⟨_, _, _, h3, h4, h5, _⟩ := KC.out _ (HF1.out.trans hf)
        exact ⟨h3, h4, h5⟩
      have KH : Hid (∀ w', Fr No w1 w' → w'.heap[g]? = some (.cells (reccells r kv) 80 (0, 0))) := Lib.hid fun w' hf => ((HQ.out.fr.trans HF1.out).trans hf).heap HH.out id
      clear hf1
      go_wp2_with fail
      go_region_held3 (fun w' => w'.cell? ⟨w.heap.size, 0, none⟩ = some (.int .i64 q0) ∧ w'.cell? ⟨w.heap.size, 1, none⟩ = some (.int .i64 q1) ∧ w'.cell? ⟨w.heap.size, 2, none⟩ = some (.int .i64 q2))
        (first | (with_reducible exact KQ.out _ (Fr.refl _ _).drew) | (with_reducible exact KQ.out _ ((Fr.refl _ _).drew.trans hf2)) | (with_reducible exact KQ.out _ (((Fr.refl _ _).drew.trans hf2).trans hf3)) | go_keep)
        (first
          | ((with_reducible refine (left_any (KH.out _ (Fr.refl _ _).drew) HOK.out).mono ?_); rintro e w2 ⟨rfl, hf2⟩; unfold qv)
          | ((with_reducible refine (HFI.out _).mono ?_); rintro e w3 ⟨rfl, hf3⟩))
      have HF3 := Lib.hid (HF1.out.trans (((Fr.refl _ _).drew.trans hf2).trans hf3))
      clear hf2 hf3 d3 d4 d5 d9 lt1 b3 b4 b5 b9 lt
      obtain ⟨b0, b1, b2, b3, b4, b5, b6, b7, b8, b9⟩ := KC.out _ HF3.out
      have lt : w.heap.size < w3.heap.size := World.block_lt_of_cell? _ _ b3
      go_wp2_with fail
      go_region_law (first
        | (go_simp; go_at_call 51; (with_reducible refine (plus_raw r.paid.f r.paid.e r.paid.x q0 q1 q2 _ HS.out).mono ?_); rintro e w4 ⟨rfl, hf4⟩; obtain ⟨e0, e1, e2, e3, e4, e5, e6, e7, e8, e9⟩ := KC.out _ (HF3.out.trans ((Fr.refl _ w3).drew.trans hf4))))
      all_goals
        have HP : Hid (Paid w g { r with paid := r.paid.plus ⟨q0, q1, q2⟩ } kv (((w4.setCell ⟨g, 24, none⟩ (.int .i64 (r.paid.f + q0))).setCell ⟨g, 25, none⟩ (.int .i64 (r.paid.e + q1))).setCell ⟨g, 26, none⟩ (.int .i64 (r.paid.x + q2)))) := Lib.hid (by
          have hf := HQ.out.fr.trans (HF3.out.trans ((Fr.refl _ w3).drew.trans hf4))
          exact ⟨heap_paid (r.paid.plus ⟨q0, q1, q2⟩) (hf.heap HH.out id), (((hf.mono fun _ _ h => h.elim).put (.inl (One.self g)) _ _).put (.inl (One.self g)) _ _).put (.inl (One.self g)) _ _⟩)
        go_wp2_with fail
        go_ret
        exact ⟨rfl, HP.out⟩

theorem paid_six (hh : w.heap[g]? = some (.cells (reccells r kv) 80 (0, 0))) {W : World} {q0 q1 q2 : Int} (hB : Boxed w q0 q1 q2 W) : ∀ w', Fr No W w' → w'.cell? ⟨g, 24, none⟩ = some (.int .i64 r.paid.f) ∧ w'.cell? ⟨g, 25, none⟩ = some (.int .i64 r.paid.e) ∧ w'.cell? ⟨g, 26, none⟩ = some (.int .i64 r.paid.x) ∧ w'.cell? ⟨w.heap.size, 0, none⟩ = some (.int .i64 q0) ∧ w'.cell? ⟨w.heap.size, 1, none⟩ = some (.int .i64 q1) ∧ w'.cell? ⟨w.heap.size, 2, none⟩ = some (.int .i64 q2) := fun w' hf => by
  obtain ⟨h0, h1, h2, h3, h4, h5, _⟩ := paid_cells hh hB w' hf
  exact ⟨h0, h1, h2, h3, h4, h5⟩
set_option maxHeartbeats 2000000 in
theorem refund_raw (hh : w.heap[g]? = some (.cells (reccells r kv) 80 (0, 0))) (ok : Rok r) (q0 q1 q2 : Int) :
    Calls Try.prog 49 #[.pointer (some ⟨g, 21, none⟩), .agg #[.int .i64 q0, .int .i64 q1, .int .i64 q2]] w fun e w' => e = .returned (.int .i64 (r.refund ⟨q0, q1, q2⟩).2) ∧ Paid w g (r.refund ⟨q0, q1, q2⟩).1 kv w' := by
  obtain ⟨W, hW⟩ : ∃ W, Hid (W = w.alloc (.cells #[.int .i64 q0, .int .i64 q1, .int .i64 q2] 39)) := ⟨_, Lib.hid rfl⟩
  have HQ : Hid (Boxed w q0 q1 q2 W) := Lib.hid (by rw [hW.out]; exact Boxed.mk' _ _ _ _)
  have KC := Lib.hid (paid_cells hh HQ.out)
  have KS := Lib.hid (paid_six hh HQ.out)
  have HH := Lib.hid hh
  have HG := Lib.hid (fun w => good_raw q0 q1 q2 w)
  have HFI := Lib.hid (fun w => fits_raw q0 q1 q2 r.paid.f r.paid.e r.paid.x w)
  have hfe : fitB ⟨q0, q1, q2⟩ ⟨r.paid.f, r.paid.e, r.paid.x⟩ = fitB ⟨q0, q1, q2⟩ r.paid := rfl
  rw [hfe] at HFI
  unfold Rec.refund
  obtain ⟨b0, b1, b2, b3, b4, b5⟩ := KS.out _ (Fr.refl _ _)
  have lt : w.heap.size < W.heap.size := World.block_lt_of_cell? _ _ b3
  have ltg : g < W.heap.size := World.block_lt_of_cell? _ _ b0
  have HOK := Lib.hid ok
  clear hh ok hfe
  cases hg : goodB ⟨q0, q1, q2⟩ with
  | false =>
    rw [if_pos (.inl rfl)]
    rw [hg] at HG
    clear hg
    go_enter Try.func49, Try.ntmps49
    go_wp2_with fail
    rw [← hW.out]
    first
      | (go_region_law (first
          | (go_simp; go_at_call 35; (with_reducible refine (HG.out _).mono ?_); rintro e w2 ⟨rfl, hf2⟩)))
      | fail
    all_goals
      have HF := Lib.hid (HQ.out.fr.trans ((Fr.refl _ _).drew.trans hf2))
      clear hf2
      go_wp2_with fail
      go_ret
      exact ⟨rfl, HF.out.heap HH.out id, HF.out.mono fun _ _ h => h.elim⟩
  | true =>
    rw [hg] at HG
    have hsum : fitB ⟨q0, q1, q2⟩ r.paid = true → (Qt.minus ⟨r.paid.f, r.paid.e, r.paid.x⟩ ⟨q0, q1, q2⟩).in64 := fun _ => by
      have h1 := HOK.out.paid
      have h2 := goodB_iff.1 hg
      unfold Qok at h1 h2
      simp only [Qt.minus, Qt.in64, in64] at h2 ⊢
      omega
    have HSUM := Lib.hid hsum
    clear hg hsum
    cases hfit : fitB ⟨q0, q1, q2⟩ r.paid with
    | false =>
      rw [if_pos (.inr rfl)]
      rw [hfit] at HFI
      clear hfit
      go_enter Try.func49, Try.ntmps49
      go_wp2_with fail
      rw [← hW.out]
      go_region_held3 (fun w' => w'.cell? ⟨g, 24, none⟩ = some (.int .i64 r.paid.f) ∧ w'.cell? ⟨g, 25, none⟩ = some (.int .i64 r.paid.e) ∧ w'.cell? ⟨g, 26, none⟩ = some (.int .i64 r.paid.x) ∧ w'.cell? ⟨w.heap.size, 0, none⟩ = some (.int .i64 q0) ∧ w'.cell? ⟨w.heap.size, 1, none⟩ = some (.int .i64 q1) ∧ w'.cell? ⟨w.heap.size, 2, none⟩ = some (.int .i64 q2))
        (first | (with_reducible exact KS.out _ (Fr.refl _ _).drew) | (with_reducible exact KS.out _ ((Fr.refl _ _).drew.trans hf2)) | (with_reducible exact KS.out _ (((Fr.refl _ _).drew.trans hf2).trans hf3)) | go_keep)
        (first
          | ((with_reducible refine (HG.out _).mono ?_); rintro e w2 ⟨rfl, hf2⟩)
          | ((with_reducible refine (HFI.out _).mono ?_); rintro e w3 ⟨rfl, hf3⟩))
      have HF := Lib.hid (HQ.out.fr.trans (((Fr.refl _ _).drew.trans hf2).trans hf3))
      clear hf2 hf3
      go_wp2_with fail
      go_ret
      exact ⟨rfl, HF.out.heap HH.out id, HF.out.mono fun _ _ h => h.elim⟩
    | true =>
      rw [if_neg (by simp)]
      rw [hfit] at HFI
      have HS := Lib.hid (HSUM.out hfit)
      clear hfit
      go_enter Try.func49, Try.ntmps49
      go_wp2_with fail
      rw [← hW.out]
      go_region_held3 (fun w' => w'.cell? ⟨g, 24, none⟩ = some (.int .i64 r.paid.f) ∧ w'.cell? ⟨g, 25, none⟩ = some (.int .i64 r.paid.e) ∧ w'.cell? ⟨g, 26, none⟩ = some (.int .i64 r.paid.x) ∧ w'.cell? ⟨w.heap.size, 0, none⟩ = some (.int .i64 q0) ∧ w'.cell? ⟨w.heap.size, 1, none⟩ = some (.int .i64 q1) ∧ w'.cell? ⟨w.heap.size, 2, none⟩ = some (.int .i64 q2))
        (first | (with_reducible exact KS.out _ (Fr.refl _ _).drew) | (with_reducible exact KS.out _ ((Fr.refl _ _).drew.trans hf2)) | (with_reducible exact KS.out _ (((Fr.refl _ _).drew.trans hf2).trans hf3)) | go_keep)
        (first
          | ((with_reducible refine (HG.out _).mono ?_); rintro e w2 ⟨rfl, hf2⟩)
          | ((with_reducible refine (HFI.out _).mono ?_); rintro e w3 ⟨rfl, hf3⟩))
      have HF3 := Lib.hid (((Fr.refl _ W).drew.trans hf2).trans hf3)
      clear hf2 hf3 b0 b1 b2 b3 b4 b5 lt ltg
      obtain ⟨b0, b1, b2, b3, b4, b5, b6, b7, b8, b9⟩ := KC.out _ HF3.out
      have lt : w.heap.size < w3.heap.size := World.block_lt_of_cell? _ _ b3
      go_wp2_with fail
      go_region_law (first
        | (go_simp; go_at_call 47; (with_reducible refine (minus_raw r.paid.f r.paid.e r.paid.x q0 q1 q2 _ HS.out).mono ?_); rintro e w4 ⟨rfl, hf4⟩; obtain ⟨e0, e1, e2, e3, e4, e5, e6, e7, e8, e9⟩ := KC.out _ (HF3.out.trans ((Fr.refl _ w3).drew.trans hf4))))
      all_goals
        have HP : Hid (Paid w g { r with paid := r.paid.minus ⟨q0, q1, q2⟩ } kv (((w4.setCell ⟨g, 24, none⟩ (.int .i64 (r.paid.f - q0))).setCell ⟨g, 25, none⟩ (.int .i64 (r.paid.e - q1))).setCell ⟨g, 26, none⟩ (.int .i64 (r.paid.x - q2)))) := Lib.hid (by
          have hf := HQ.out.fr.trans (HF3.out.trans ((Fr.refl _ w3).drew.trans hf4))
          exact ⟨heap_paid (r.paid.minus ⟨q0, q1, q2⟩) (hf.heap HH.out id), (((hf.mono fun _ _ h => h.elim).put (.inl (One.self g)) _ _).put (.inl (One.self g)) _ _).put (.inl (One.self g)) _ _⟩)
        go_wp2_with fail
        go_ret
        exact ⟨rfl, HP.out⟩
end

section
variable {w : World} {b : Nat} {L : Lay} {T : Tb}
theorem TabAt.paid {w' : World} (h : TabAt w b L T) {n : Nat} {r r' : Rec} (hn : T.live n = some r) (hk : r'.kids = r.kids) (hp : Paid w (L.rb n) r' (L.kv n) w') : Left w b L (T.set n r') w' :=
  ⟨h.putRec hn hk hp.blk hp.fr, hp.fr.mono fun k _ hk => by have e : k = L.rb n := hk; rw [e]; exact h.ownRec hn⟩
theorem pay_kids (r : Rec) (q : Qt) : (r.pay q).1.kids = r.kids := by unfold Rec.pay; split; rfl; split <;> rfl
theorem refund_kids (r : Rec) (q : Qt) : (r.refund q).1.kids = r.kids := by unfold Rec.refund; split <;> rfl
def Tb.pay (T : Tb) (e : Int) (q : Qt) : Tb × Int := match T.at e with
  | none => (T, 90)
  | some r => (T.set e.toNat (r.pay q).1, (r.pay q).2)
set_option maxHeartbeats 1000000 in
theorem Pay_any (h : TabAt w b L T) (e : Int) (q : Qt) (ok : ∀ n r, T.live n = some r → Rok r) : Calls Try.prog 31 #[.pointer (some ⟨b, 0, none⟩), .int .i64 e, qv q] w fun v w' => v = .returned (.int .i64 (T.pay e q).2) ∧ Left w b L (T.pay e q).1 w' := by
  obtain ⟨q0, q1, q2⟩ := q
  obtain ⟨W, hW⟩ : ∃ W, Hid (W = w.alloc (.cells #[.int .i64 q0, .int .i64 q1, .int .i64 q2] 39)) := ⟨_, Lib.hid rfl⟩
  have HQ : Hid (Boxed w q0 q1 q2 W) := Lib.hid (by rw [hW.out]; exact Boxed.mk' _ _ _ _)
  have h1 := h.head
  have hbw : b < w.heap.size := lt_of_block h.hb
  have H := Lib.hid h
  unfold Tb.pay qv
  cases hr : T.at e with
  | none =>
    have HB := Lib.hid (at_none (h.no HQ.out.fr) hr)
    clear h hr
    go_enter Try.func31, Try.ntmps31
    go_wp2_with fail
    rw [← hW.out]
    refine HB.out.mono ?_
    rintro r w1 ⟨rfl, hf⟩
    have HF := Lib.hid (HQ.out.fr.trans hf)
    clear hf
    go_wp2_with fail
    go_ret
    exact ⟨rfl, H.out.no HF.out, HF.out.anyOwn⟩
  | some r =>
    obtain ⟨n, rfl, hn, h16⟩ := h.some_at hr
    simp only [Int.toNat_natCast]
    have HB := Lib.hid (at_some (h.no HQ.out.fr) hn)
    have HN := Lib.hid hn
    have HOK := Lib.hid (ok n r hn)
    clear h hr hn ok
    go_enter Try.func31, Try.ntmps31
    go_wp2_with fail
    rw [← hW.out]
    refine HB.out.mono ?_
    rintro v w1 ⟨rfl, hf⟩
    have HT := Lib.hid (H.out.no (HQ.out.fr.trans hf))
    have HQ1 := Lib.hid (HQ.out.no hf)
    have HR1 := Lib.hid (HT.out.hrb n r HN.out)
    have KC : Hid (∀ w', Fr (One (L.rb n)) w1 w' → w'.cell? ⟨w.heap.size, 0, none⟩ = some (.int .i64 q0) ∧ w'.cell? ⟨w.heap.size, 1, none⟩ = some (.int .i64 q1) ∧ w'.cell? ⟨w.heap.size, 2, none⟩ = some (.int .i64 q2)) := Lib.hid fun w' hf => by
      have hq := hf.heap HQ1.out.blk (One.not (by have := H.out.ltRec HN.out; omega))
      exact ⟨cell_blk hq rfl, cell_blk hq rfl, cell_blk hq rfl⟩
    obtain ⟨c0, c1, c2⟩ := KC.out _ (Fr.refl _ _)
    have lt : w.heap.size < w1.heap.size := World.block_lt_of_cell? _ _ c0
    have ltr := HT.out.ltRec HN.out
    clear hf
    go_wp2_with fail
    go_region_held3 (fun w' => w'.cell? ⟨w.heap.size, 0, none⟩ = some (.int .i64 q0) ∧ w'.cell? ⟨w.heap.size, 1, none⟩ = some (.int .i64 q1) ∧ w'.cell? ⟨w.heap.size, 2, none⟩ = some (.int .i64 q2))
      (first | (with_reducible exact KC.out _ (Fr.refl _ _).drew) | (with_reducible exact KC.out _ ((Fr.refl _ _).drew.trans hp.fr)) | go_keep)
      (first
        | ((with_reducible refine (pay_raw (Fr.heap (Fr.refl No w1).drew HR1.out id) HOK.out q0 q1 q2).mono ?_); rintro v w2 ⟨rfl, hp⟩))
    have HL := Lib.hid ((HT.out.no (Fr.refl _ _).drew).paid HN.out (pay_kids r ⟨q0, q1, q2⟩) hp)
    clear hp
    go_wp2_with fail
    go_ret
    exact ⟨rfl, HL.out.tab, HQ1.out.fr.anyOwn.trans (Fr.trans (Fr.refl _ w1).drew HL.out.fr)⟩
def Tb.refund (T : Tb) (e : Int) (q : Qt) : Tb × Int := match T.at e with
  | none => (T, 90)
  | some r => (T.set e.toNat (r.refund q).1, (r.refund q).2)
set_option maxHeartbeats 1000000 in
theorem Refund_any (h : TabAt w b L T) (e : Int) (q : Qt) (ok : ∀ n r, T.live n = some r → Rok r) : Calls Try.prog 32 #[.pointer (some ⟨b, 0, none⟩), .int .i64 e, qv q] w fun v w' => v = .returned (.int .i64 (T.refund e q).2) ∧ Left w b L (T.refund e q).1 w' := by
  obtain ⟨q0, q1, q2⟩ := q
  obtain ⟨W, hW⟩ : ∃ W, Hid (W = w.alloc (.cells #[.int .i64 q0, .int .i64 q1, .int .i64 q2] 39)) := ⟨_, Lib.hid rfl⟩
  have HQ : Hid (Boxed w q0 q1 q2 W) := Lib.hid (by rw [hW.out]; exact Boxed.mk' _ _ _ _)
  have h1 := h.head
  have hbw : b < w.heap.size := lt_of_block h.hb
  have H := Lib.hid h
  unfold Tb.refund qv
  cases hr : T.at e with
  | none =>
    have HB := Lib.hid (at_none (h.no HQ.out.fr) hr)
    clear h hr
    go_enter Try.func32, Try.ntmps32
    go_wp2_with fail
    rw [← hW.out]
    refine HB.out.mono ?_
    rintro r w1 ⟨rfl, hf⟩
    have HF := Lib.hid (HQ.out.fr.trans hf)
    clear hf
    go_wp2_with fail
    go_ret
    exact ⟨rfl, H.out.no HF.out, HF.out.anyOwn⟩
  | some r =>
    obtain ⟨n, rfl, hn, h16⟩ := h.some_at hr
    simp only [Int.toNat_natCast]
    have HB := Lib.hid (at_some (h.no HQ.out.fr) hn)
    have HN := Lib.hid hn
    have HOK := Lib.hid (ok n r hn)
    clear h hr hn ok
    go_enter Try.func32, Try.ntmps32
    go_wp2_with fail
    rw [← hW.out]
    refine HB.out.mono ?_
    rintro v w1 ⟨rfl, hf⟩
    have HT := Lib.hid (H.out.no (HQ.out.fr.trans hf))
    have HQ1 := Lib.hid (HQ.out.no hf)
    have HR1 := Lib.hid (HT.out.hrb n r HN.out)
    have KC : Hid (∀ w', Fr (One (L.rb n)) w1 w' → w'.cell? ⟨w.heap.size, 0, none⟩ = some (.int .i64 q0) ∧ w'.cell? ⟨w.heap.size, 1, none⟩ = some (.int .i64 q1) ∧ w'.cell? ⟨w.heap.size, 2, none⟩ = some (.int .i64 q2)) := Lib.hid fun w' hf => by
      have hq := hf.heap HQ1.out.blk (One.not (by have := H.out.ltRec HN.out; omega))
      exact ⟨cell_blk hq rfl, cell_blk hq rfl, cell_blk hq rfl⟩
    obtain ⟨c0, c1, c2⟩ := KC.out _ (Fr.refl _ _)
    have lt : w.heap.size < w1.heap.size := World.block_lt_of_cell? _ _ c0
    have ltr := HT.out.ltRec HN.out
    clear hf
    go_wp2_with fail
    go_region_held3 (fun w' => w'.cell? ⟨w.heap.size, 0, none⟩ = some (.int .i64 q0) ∧ w'.cell? ⟨w.heap.size, 1, none⟩ = some (.int .i64 q1) ∧ w'.cell? ⟨w.heap.size, 2, none⟩ = some (.int .i64 q2))
      (first | (with_reducible exact KC.out _ (Fr.refl _ _).drew) | (with_reducible exact KC.out _ ((Fr.refl _ _).drew.trans hp.fr)) | go_keep)
      (first
        | ((with_reducible refine (refund_raw (Fr.heap (Fr.refl No w1).drew HR1.out id) HOK.out q0 q1 q2).mono ?_); rintro v w2 ⟨rfl, hp⟩))
    have HL := Lib.hid ((HT.out.no (Fr.refl _ _).drew).paid HN.out (refund_kids r ⟨q0, q1, q2⟩) hp)
    clear hp
    go_wp2_with fail
    go_ret
    exact ⟨rfl, HL.out.tab, HQ1.out.fr.anyOwn.trans (Fr.trans (Fr.refl _ w1).drew HL.out.fr)⟩
end
end Go.Proofs.Ytdogpkcalflhbaa
