/- noted: create, pay, refund. -/
import Derived.Test.YtdogpkcalflhbaaC24
set_option linter.unusedSimpArgs false
set_option linter.unusedVariables false
namespace Go.Proofs.Ytdogpkcalflhbaa
open Go.RowKit
section
variable {w w' : World} {bb : Nat} {lives : Nat → Bool} {paid : Nat → Qt} {last : Int}
theorem BookAt.pf (h : BookAt w bb lives paid last) {n : Nat} (hn : n < 16) : w.cell? ⟨bb, 16 + n * 3, none⟩ = some (.int .i64 (paid n).f) := by obtain ⟨C, h1, h2⟩ := h; exact cell_blk h1 (h2.f n hn)
theorem BookAt.pe (h : BookAt w bb lives paid last) {n : Nat} (hn : n < 16) : w.cell? ⟨bb, 16 + n * 3 + 1, none⟩ = some (.int .i64 (paid n).e) := by obtain ⟨C, h1, h2⟩ := h; exact cell_blk h1 (h2.e n hn)
theorem BookAt.px (h : BookAt w bb lives paid last) {n : Nat} (hn : n < 16) : w.cell? ⟨bb, 16 + n * 3 + 2, none⟩ = some (.int .i64 (paid n).x) := by obtain ⟨C, h1, h2⟩ := h; exact cell_blk h1 (h2.x n hn)
theorem BookAt.setPaid (h : BookAt w bb lives paid last) {n : Nat} (hn : n < 16) (q : Qt) :
    BookAt (((w.setCell ⟨bb, 16 + n * 3, none⟩ (.int .i64 q.f)).setCell ⟨bb, 16 + n * 3 + 1, none⟩ (.int .i64 q.e)).setCell ⟨bb, 16 + n * 3 + 2, none⟩ (.int .i64 q.x)) bb lives (fun k => if k = n then q else paid k) last := by
  obtain ⟨C, h1, h2⟩ := h
  have hsz := h2.size
  refine ⟨_, heap_setCell_same _ _ _ _ _ _ (heap_setCell_same _ _ _ _ _ _ (heap_setCell_same _ _ _ _ _ _ h1)), by simpa using hsz, fun k hk => ?_, fun k hk => ?_, fun k hk => ?_, fun k hk => ?_, ?_⟩
  · rw [Array.getElem?_setIfInBounds_ne (by omega), Array.getElem?_setIfInBounds_ne (by omega), Array.getElem?_setIfInBounds_ne (by omega)]; exact h2.lives k hk
  · rw [Array.getElem?_setIfInBounds_ne (by omega), Array.getElem?_setIfInBounds_ne (by omega)]
    by_cases e : k = n
    · subst e; rw [Array.getElem?_setIfInBounds_self_of_lt (by omega), if_pos rfl]
    · rw [Array.getElem?_setIfInBounds_ne (by omega), if_neg e]; exact h2.f k hk
  · rw [Array.getElem?_setIfInBounds_ne (by omega)]
    by_cases e : k = n
    · subst e; rw [Array.getElem?_setIfInBounds_self_of_lt (by simp; omega), if_pos rfl]
    · rw [Array.getElem?_setIfInBounds_ne (by omega), Array.getElem?_setIfInBounds_ne (by omega), if_neg e]; exact h2.e k hk
  · by_cases e : k = n
    · subst e; rw [Array.getElem?_setIfInBounds_self_of_lt (by simp; omega), if_pos rfl]
    · rw [Array.getElem?_setIfInBounds_ne (by omega), Array.getElem?_setIfInBounds_ne (by omega), Array.getElem?_setIfInBounds_ne (by omega), if_neg e]; exact h2.x k hk
  · rw [Array.getElem?_setIfInBounds_ne (by omega), Array.getElem?_setIfInBounds_ne (by omega), Array.getElem?_setIfInBounds_ne (by omega)]; exact h2.last
theorem BookAt.setLast (h : BookAt w bb lives paid last) (x : Int) : BookAt (w.setCell ⟨bb, 64, none⟩ (.int .i64 x)) bb lives paid x := by
  obtain ⟨C, h1, h2⟩ := h
  have hsz := h2.size
  refine ⟨_, heap_setCell_same _ _ _ _ _ _ h1, by simpa using hsz, fun k hk => ?_, fun k hk => ?_, fun k hk => ?_, fun k hk => ?_, ?_⟩
  · rw [Array.getElem?_setIfInBounds_ne (by omega)]; exact h2.lives k hk
  · rw [Array.getElem?_setIfInBounds_ne (by omega)]; exact h2.f k hk
  · rw [Array.getElem?_setIfInBounds_ne (by omega)]; exact h2.e k hk
  · rw [Array.getElem?_setIfInBounds_ne (by omega)]; exact h2.x k hk
  · rw [Array.getElem?_setIfInBounds_self_of_lt (by omega)]
end
/-- The table has moved, the book is as it was, for the old table. -/
structure Half (w : World) (b : Nat) (L : Lay) (T' : Tb) (bb : Nat) (T : Tb) (wr : World) : Prop where
  tab : TabAt wr b L T'
  book : BookOf wr bb T
  fr : Fr No w wr
  own : ∀ k, Own L k → w.heap.size ≤ k
  hbb : w.heap.size ≤ bb
  ne : ¬ Own L bb
section
variable {w0 w wr w' : World} {b bb : Nat} {L : Lay} {T T' : Tb}
theorem NS.half (h : NS w0 b L T bb wr) (hm : Moved wr b L T' w') : ∃ L', Half w0 b L' T' bb T w' := by
  obtain ⟨L', h1, h2, h3⟩ := hm
  have hs := h.fr.size
  refine ⟨L', h1, h.book.keep h2 h.ne, h.fr.then h2 fun i hi hk => by have := h.own i hk; omega, fun k hk => ?_, h.hbb, fun hk => ?_⟩
  · rcases h3 k hk with h4 | h4
    · exact h.own k h4
    · omega
  · rcases h3 _ hk with h4 | h4
    · exact h.ne h4
    · have := h.book.lt; omega
/-- The book is written. -/
theorem Half.full (h : Half w0 b L T' bb T wr) (hI : Inv T') (hb : BookOf w' bb T') (hf : Fr (One bb) wr w') : NS w0 b L T' bb w' :=
  ⟨h.tab.keep hf fun k hk (hx : k = bb) => h.ne (hx ▸ hk), hb, h.fr.then hf fun i hi (hx : i = bb) => by have := h.hbb; omega, h.own, h.hbb, h.ne, hI⟩
theorem Half.no (h : Half w0 b L T' bb T wr) (hf : Fr No wr w') : Half w0 b L T' bb T w' := ⟨h.tab.no hf, h.book.keep hf id, h.fr.trans hf, h.own, h.hbb, h.ne⟩

set_option maxRecDepth 100000 in
set_option maxHeartbeats 8000000 in
theorem noted_create (N : NS w0 b L T bb w) (o : OpE) (hk : o.kind = 2) : Calls Try.prog 15 #[.pointer (some ⟨bb, 0, none⟩), .pointer (some ⟨b, 0, none⟩), .agg (opcells o)] w (Noted w0 b T o bb) := by
  obtain ⟨k, ot, oe, onn, om, ⟨q0, q1, q2⟩, ⟨r0, r1, r2, r3, r4, r5, r6, r7, pc⟩, oon⟩ := o
  simp only at hk
  subst hk
  obtain ⟨W, hW⟩ : ∃ W, Hid (W = w.alloc (.cells (opcells ⟨2, ot, oe, onn, om, ⟨q0, q1, q2⟩, ⟨r0, r1, r2, r3, r4, r5, r6, r7, pc⟩, oon⟩) 47)) := ⟨_, Lib.hid rfl⟩
  have HN : Hid (NS w0 b L T bb W) := Lib.hid (by rw [hW.out]; exact N.no ((Fr.refl _ _).alloc _))
  have HOB : Hid (W.heap[w.heap.size]? = some (.cells (opcells ⟨2, ot, oe, onn, om, ⟨q0, q1, q2⟩, ⟨r0, r1, r2, r3, r4, r5, r6, r7, pc⟩, oon⟩) 47 (0, 0))) := Lib.hid (by rw [hW.out]; exact heap_alloc_new w _)
  have HLT : Hid (bb < w.heap.size ∧ b < w.heap.size ∧ ∀ k, Own L k → k < w.heap.size) := Lib.hid ⟨N.bblt, lt_of_block N.tab.hb, N.tab.flt⟩
  unfold opcells at hW HOB ⊢
  clear N
  rcases create_cases HN.out.inv oe onn ⟨q0, q1, q2⟩ with ⟨h1, h2, h3, _⟩ | ⟨n, nn, r, rfl, hn, hff, hs, hg, hc, hI⟩
  · have HK := Lib.hid h3
    have hc0 : ((T.create oe onn ⟨q0, q1, q2⟩).2.2 != 0) = true := by simpa using h1
    have HC2 := Lib.hid h2
    clear h1 h2 h3
    obtain ⟨code, hcode⟩ : ∃ c, (T.create oe onn ⟨q0, q1, q2⟩).2.2 = c := ⟨_, rfl⟩
    have HCode := Lib.hid hcode
    rw [hcode] at hc0
    clear hcode
    go_enter Try.func15, Try.ntmps15
    go_wp2_with fail
    rw [← hW.out]
    refine (Create_any HN.out.tab oe onn ⟨q0, q1, q2⟩ fun n r hr => ⟨HN.out.inv.ok n r hr, HN.out.inv.kids16 hr⟩).mono ?_
    rintro e w1 ⟨rfl, hm⟩
    rw [HC2.out, HCode.out]
    have HN1 := Lib.hid (HN.out.moved hm HK.out.inv (fun w2 => HK.out.book w2 bb))
    clear hm
    go_wp2_with fail
    go_ret
    obtain ⟨L', h⟩ := HN1.out
    exact ⟨rfl, L', _, h, .inl ⟨rfl, rfl⟩⟩
  · obtain ⟨hlo, h16, hfree, _⟩ := firstFree_some hff
    have HC := Lib.hid hc
    have HI := Lib.hid hI
    have HNN := Lib.hid hn
    have HFR := Lib.hid hfree
    have hs' : ¬ onn ≤ T.last := by omega
    obtain ⟨last, hl⟩ : ∃ l, T.last = l := ⟨_, rfl⟩
    have HL := Lib.hid hl
    rw [hl] at hs'
    clear hc hI hn hfree hff hlo hg hs hl
    go_enter Try.func15, Try.ntmps15
    go_wp2_with fail
    rw [← hW.out]
    refine (Create_any HN.out.tab (n : Int) onn ⟨q0, q1, q2⟩ fun n r hr => ⟨HN.out.inv.ok n r hr, HN.out.inv.kids16 hr⟩).mono ?_
    rintro e w1 ⟨rfl, hm⟩
    rw [HC.out] at hm ⊢
    obtain ⟨L', hh⟩ := HN.out.half hm
    have HH := Lib.hid hh
    have hob : w1.heap[w.heap.size]? = some (.cells (opcells ⟨2, ot, n, onn, om, ⟨q0, q1, q2⟩, ⟨r0, r1, r2, r3, r4, r5, r6, r7, pc⟩, oon⟩) 47 (0, 0)) := by
      obtain ⟨_, _, hf, _⟩ := hm
      exact hf.heap HOB.out fun hk => by have := HLT.out.2.2 _ hk; omega
    have c3 : w1.cell? ⟨w.heap.size, 3, none⟩ = some (.int .i64 onn) := cell_blk hob rfl
    have clt := lt_of_block hob
    obtain ⟨paid, hb1, hb2⟩ := hh.book
    have HB1 := Lib.hid hb1
    have HB2 := Lib.hid hb2
    have k0 : w1.cell? ⟨bb, nn, none⟩ = some (.bool false) := by
      have := hb1.live h16
      rw [HFR.out] at this
      exact this
    have k1 : w1.cell? ⟨bb, 64, none⟩ = some (.int .i64 last) := by rw [← HL.out]; exact hb1.lastc
    have klt := hb1.lt
    have kf := hb1.free nn
    have p0 := hb1.pf h16
    have p1 := hb1.pe h16
    have p2 := hb1.px h16
    have pf0 := hb1.free (16 + nn * 3)
    have pf1 := hb1.free (16 + nn * 3 + 1)
    have pf2 := hb1.free (16 + nn * 3 + 2)
    have kf64 := hb1.free 64
    have HOB1 := Lib.hid hob
    have hn0 : (0 : Int) ≤ (nn : Int) := by omega
    have hn1 : ¬ ((nn : Int) < 0) := by omega
    have hn2 : (nn : Int) < 16 := by omega
    have hd1 : decide ((nn : Int) < 0) = false := by simp
    have hd2 : decide ((16 : Int) ≤ (nn : Int)) = false := by simp; omega
    have hd3 : decide (onn ≤ last) = false := by simpa using hs'
    have hne1 : w.heap.size ≠ bb := by have := HLT.out.1; omega
    clear hm hh hob hb1 hb2
    go_wp2_with fail
    go_quiet (fail)
    go_wp2_with fail
    go_ret
    refine ⟨rfl, L', _, (HH.out.no ((Fr.refl _ w1).drewN nq)).full HI.out ?_ ?_, .inl ⟨rfl, by show _ = (T.create (n : Int) onn ⟨q0, q1, q2⟩).1; rw [HC.out]⟩⟩
    · refine ⟨fun k => if k = nn then Qt.zero else paid k, ?_, fun m s hm => ?_⟩
      · have h5 := ((((HB1.out.keep (S := No) ((Fr.refl _ w1).drewN nq) id).setLive (n := nn) (by have := HH.out.tab.lt16 nn _ (by rw [born_at, if_neg (fun e => by have h1 := HNN.out; rw [← e, HFR.out] at h1; cases h1), if_pos rfl]); exact this) true).setPaid (n := nn) (by have := HH.out.tab.lt16 nn _ (by rw [born_at, if_neg (fun e => by have h1 := HNN.out; rw [← e, HFR.out] at h1; cases h1), if_pos rfl]); exact this) Qt.zero).setLast onn)
        refine h5.congr (fun m _ => ?_) (fun _ _ => rfl)
        show ((T.born n nn onn _ r).live m).isSome = _
        rw [born_at]
        by_cases e2 : m = n
        · have e1 : m ≠ nn := fun e1 => by have h1 := HNN.out; rw [← e2, e1, HFR.out] at h1; cases h1
          simp only [if_pos e2, if_neg e1]
          rw [e2, HNN.out]
          rfl
        · by_cases e1 : m = nn
          · simp only [if_neg e2, if_pos e1]
            rfl
          · simp only [if_neg e2, if_neg e1]
      · rw [born_at] at hm
        by_cases e2 : m = n
        · rw [if_pos e2] at hm
          have e1 : m ≠ nn := fun e1 => by have h1 := HNN.out; rw [← e2, e1, HFR.out] at h1; cases h1
          obtain rfl : _ = s := by simpa using hm
          simp only
          rw [if_neg e1]
          exact HB2.out m r (e2 ▸ HNN.out)
        · rw [if_neg e2] at hm
          by_cases e1 : m = nn
          · rw [if_pos e1] at hm
            obtain rfl : _ = s := by simpa using hm
            simp only
            rw [if_pos e1]
            rfl
          · rw [if_neg e1] at hm
            simp only
            rw [if_neg e1]
            exact HB2.out m s hm
    · exact (((((Fr.refl (One bb) _).put (.inl (One.self bb)) _ _).put (.inl (One.self bb)) _ _).put (.inl (One.self bb)) _ _).put (.inl (One.self bb)) _ _).put (.inl (One.self bb)) _ _
set_option maxRecDepth 100000 in
set_option maxHeartbeats 8000000 in
theorem noted_pay (N : NS w0 b L T bb w) (o : OpE) (hk : o.kind = 11) : Calls Try.prog 15 #[.pointer (some ⟨bb, 0, none⟩), .pointer (some ⟨b, 0, none⟩), .agg (opcells o)] w (Noted w0 b T o bb) := by
  obtain ⟨k, ot, oe, onn, om, ⟨q0, q1, q2⟩, ⟨r0, r1, r2, r3, r4, r5, r6, r7, pc⟩, oon⟩ := o
  simp only at hk
  subst hk
  obtain ⟨W, hW⟩ : ∃ W, Hid (W = w.alloc (.cells (opcells ⟨11, ot, oe, onn, om, ⟨q0, q1, q2⟩, ⟨r0, r1, r2, r3, r4, r5, r6, r7, pc⟩, oon⟩) 47)) := ⟨_, Lib.hid rfl⟩
  have HN : Hid (NS w0 b L T bb W) := Lib.hid (by rw [hW.out]; exact N.no ((Fr.refl _ _).alloc _))
  have HOB : Hid (W.heap[w.heap.size]? = some (.cells (opcells ⟨11, ot, oe, onn, om, ⟨q0, q1, q2⟩, ⟨r0, r1, r2, r3, r4, r5, r6, r7, pc⟩, oon⟩) 47 (0, 0))) := Lib.hid (by rw [hW.out]; exact heap_alloc_new w _)
  have HLT : Hid (bb < w.heap.size ∧ b < w.heap.size ∧ ∀ k, Own L k → k < w.heap.size) := Lib.hid ⟨N.bblt, lt_of_block N.tab.hb, N.tab.flt⟩
  unfold opcells at hW HOB ⊢
  clear N
  obtain ⟨code, hcode⟩ : ∃ c, (T.pay oe ⟨q0, q1, q2⟩).2 = c := ⟨_, rfl⟩
  have HCode := Lib.hid hcode
  by_cases hc : code = 0
  · subst hc
    obtain ⟨n, r, rfl, hn, hT, hI, hq, hp⟩ := pay_good HN.out.inv oe ⟨q0, q1, q2⟩ hcode
    have h16 := HN.out.inv.lt n r hn
    have HNN := Lib.hid hn
    have HTT := Lib.hid hT
    have HI := Lib.hid hI
    have hrp := (HN.out.inv.ok n r hn).paid
    have HADD := Lib.hid (fun w => add_one r.paid.f r.paid.e r.paid.x q0 q1 q2 w (by unfold Qok at hrp; unfold Qsmall; simp only; omega) hq)
    clear hn hT hI hcode hq hp hrp
    go_enter Try.func15, Try.ntmps15
    go_wp2_with fail
    rw [← hW.out]
    refine (Pay_any HN.out.tab (n : Int) ⟨q0, q1, q2⟩ fun n r hr => HN.out.inv.ok n r hr).mono ?_
    rintro e w1 ⟨rfl, hl⟩
    rw [HCode.out]
    rw [HTT.out] at hl
    have hob : w1.heap[w.heap.size]? = some (.cells (opcells ⟨11, ot, n, onn, om, ⟨q0, q1, q2⟩, ⟨r0, r1, r2, r3, r4, r5, r6, r7, pc⟩, oon⟩) 47 (0, 0)) := hl.fr.heap HOB.out fun hk => by have := HLT.out.2.2 _ hk; omega
    obtain ⟨L', hh⟩ := HN.out.half hl.moved
    have HH := Lib.hid hh
    obtain ⟨paid, hb1, hb2⟩ := hh.book
    have HB1 := Lib.hid hb1
    have HB2 := Lib.hid hb2
    have HOB1 := Lib.hid hob
    have HPP : Hid (paid n = r.paid) := Lib.hid (hb2 n r HNN.out)
    have HLV := Lib.hid (lives_any hb1 (n : Int))
    have hlv : livesB (fun n => (T.live n).isSome) (n : Int) = true := by
      unfold livesB
      rw [decide_eq_true (by omega)]
      simp [HNN.out]
    rw [hlv] at HLV
    have c2 : w1.cell? ⟨w.heap.size, 2, none⟩ = some (.int .i64 (n : Int)) := cell_blk hob rfl
    have clt := lt_of_block hob
    clear hl hob hh hb1 hb2 hlv
    go_wp2_with fail
    refine HLV.out.mono ?_
    rintro e w' ⟨rfl, rfl⟩
    clear c2 clt
    have KC : Hid (∀ w', Fr No w1 w' → w'.cell? ⟨w.heap.size, 2, none⟩ = some (.int .i64 (n : Int)) ∧ w'.cell? ⟨w.heap.size, 5, none⟩ = some (.int .i64 q0) ∧ w'.cell? ⟨w.heap.size, 6, none⟩ = some (.int .i64 q1) ∧ w'.cell? ⟨w.heap.size, 7, none⟩ = some (.int .i64 q2) ∧
        w'.cell? ⟨bb, 16 + n * 3, none⟩ = some (.int .i64 r.paid.f) ∧ w'.cell? ⟨bb, 16 + n * 3 + 1, none⟩ = some (.int .i64 r.paid.e) ∧ w'.cell? ⟨bb, 16 + n * 3 + 2, none⟩ = some (.int .i64 r.paid.x) ∧
        w'.frozen? ⟨bb, 16 + n * 3, none⟩ = false ∧ w'.frozen? ⟨bb, 16 + n * 3 + 1, none⟩ = false ∧ w'.frozen? ⟨bb, 16 + n * 3 + 2, none⟩ = false ∧ bb < w'.heap.size ∧ w.heap.size < w'.heap.size) := Lib.hid fun w' hf => by
      have ho := hf.heap HOB1.out id
      have hb := HB1.out.keep hf id
      rw [← HPP.out]
      exact ⟨cell_blk ho rfl, cell_blk ho rfl, cell_blk ho rfl, cell_blk ho rfl, hb.pf h16, hb.pe h16, hb.px h16, hb.free _, hb.free _, hb.free _, hb.lt, lt_of_block ho⟩
    obtain ⟨d0, d1, d2, d3, d4, d5, d6, d7, d8, d9, d10, d11⟩ := KC.out _ (Fr.refl _ _)
    have hn0 : (0 : Int) ≤ (n : Int) := by omega
    have hn2 : (n : Int) < 16 := by omega
    go_wp2_with fail
    first
      | (go_region_law (first
          | (go_simp; go_at_call 24; (with_reducible refine (HADD.out _).mono ?_); rintro e w2 ⟨rfl, hf2⟩; obtain ⟨e0, e1, e2, e3, e4, e5, e6, e7, e8, e9, e10, e11⟩ := KC.out _ ((Fr.refl _ w1).drew.trans hf2))))
      | fail
    all_goals
      have HF2 := Lib.hid ((Fr.refl No w1).drew.trans hf2)
      have HB5 := Lib.hid ((HB1.out.keep HF2.out id).setPaid (n := n) h16 (r.paid.plus ⟨q0, q1, q2⟩))
      go_wp2_with fail
      go_ret
      refine ⟨rfl, L', _, (HH.out.no HF2.out).full HI.out ?_ ?_, (.inr (.inr (.inl ⟨rfl, HTT.out.symm⟩)))⟩
      · refine ⟨_, HB5.out.congr (fun m _ => Tb.set_some HNN.out) (fun _ _ => rfl), fun m s hm => ?_⟩
        rcases Tb.set_get hm with ⟨rfl, rfl⟩ | ⟨e, hm⟩
        · simp only [if_true]
        · rw [if_neg e]
          exact HB2.out m s hm
      · exact (((Fr.refl (One bb) _).put (.inl (One.self bb)) _ _).put (.inl (One.self bb)) _ _).put (.inl (One.self bb)) _ _
  · have hc' : (code == 0) = false := by simpa using hc
    have HK := Lib.hid (pay_bad HN.out.inv oe ⟨q0, q1, q2⟩ (by rw [hcode]; exact hc))
    clear hc hcode
    go_enter Try.func15, Try.ntmps15
    go_wp2_with fail
    rw [← hW.out]
    refine (Pay_any HN.out.tab oe ⟨q0, q1, q2⟩ fun n r hr => HN.out.inv.ok n r hr).mono ?_
    rintro e w1 ⟨rfl, hl⟩
    rw [HCode.out]
    have HN1 := Lib.hid (HN.out.left hl HK.out.inv (fun w2 => HK.out.book w2 bb))
    clear hl
    go_wp2_with fail
    go_ret
    exact ⟨rfl, L, _, HN1.out, (.inr (.inr (.inl ⟨rfl, rfl⟩)))⟩
set_option maxRecDepth 100000 in
set_option maxHeartbeats 8000000 in
theorem noted_refund (N : NS w0 b L T bb w) (o : OpE) (hk : o.kind = 12) : Calls Try.prog 15 #[.pointer (some ⟨bb, 0, none⟩), .pointer (some ⟨b, 0, none⟩), .agg (opcells o)] w (Noted w0 b T o bb) := by
  obtain ⟨k, ot, oe, onn, om, ⟨q0, q1, q2⟩, ⟨r0, r1, r2, r3, r4, r5, r6, r7, pc⟩, oon⟩ := o
  simp only at hk
  subst hk
  obtain ⟨W, hW⟩ : ∃ W, Hid (W = w.alloc (.cells (opcells ⟨12, ot, oe, onn, om, ⟨q0, q1, q2⟩, ⟨r0, r1, r2, r3, r4, r5, r6, r7, pc⟩, oon⟩) 47)) := ⟨_, Lib.hid rfl⟩
  have HN : Hid (NS w0 b L T bb W) := Lib.hid (by rw [hW.out]; exact N.no ((Fr.refl _ _).alloc _))
  have HOB : Hid (W.heap[w.heap.size]? = some (.cells (opcells ⟨12, ot, oe, onn, om, ⟨q0, q1, q2⟩, ⟨r0, r1, r2, r3, r4, r5, r6, r7, pc⟩, oon⟩) 47 (0, 0))) := Lib.hid (by rw [hW.out]; exact heap_alloc_new w _)
  have HLT : Hid (bb < w.heap.size ∧ b < w.heap.size ∧ ∀ k, Own L k → k < w.heap.size) := Lib.hid ⟨N.bblt, lt_of_block N.tab.hb, N.tab.flt⟩
  unfold opcells at hW HOB ⊢
  clear N
  obtain ⟨code, hcode⟩ : ∃ c, (T.refund oe ⟨q0, q1, q2⟩).2 = c := ⟨_, rfl⟩
  have HCode := Lib.hid hcode
  by_cases hc : code = 0
  · subst hc
    obtain ⟨n, r, rfl, hn, hT, hI, hq, hp⟩ := refund_good HN.out.inv oe ⟨q0, q1, q2⟩ hcode
    have h16 := HN.out.inv.lt n r hn
    have HNN := Lib.hid hn
    have HTT := Lib.hid hT
    have HI := Lib.hid hI
    have hrp := (HN.out.inv.ok n r hn).paid
    have HADD := Lib.hid (fun w => add_neg r.paid.f r.paid.e r.paid.x q0 q1 q2 w (by unfold Qok at hrp; unfold Qsmall; simp only; omega) hq)
    clear hn hT hI hcode hq hp hrp
    go_enter Try.func15, Try.ntmps15
    go_wp2_with fail
    rw [← hW.out]
    refine (Refund_any HN.out.tab (n : Int) ⟨q0, q1, q2⟩ fun n r hr => HN.out.inv.ok n r hr).mono ?_
    rintro e w1 ⟨rfl, hl⟩
    rw [HCode.out]
    rw [HTT.out] at hl
    have hob : w1.heap[w.heap.size]? = some (.cells (opcells ⟨12, ot, n, onn, om, ⟨q0, q1, q2⟩, ⟨r0, r1, r2, r3, r4, r5, r6, r7, pc⟩, oon⟩) 47 (0, 0)) := hl.fr.heap HOB.out fun hk => by have := HLT.out.2.2 _ hk; omega
    obtain ⟨L', hh⟩ := HN.out.half hl.moved
    have HH := Lib.hid hh
    obtain ⟨paid, hb1, hb2⟩ := hh.book
    have HB1 := Lib.hid hb1
    have HB2 := Lib.hid hb2
    have HOB1 := Lib.hid hob
    have HPP : Hid (paid n = r.paid) := Lib.hid (hb2 n r HNN.out)
    have HLV := Lib.hid (lives_any hb1 (n : Int))
    have hlv : livesB (fun n => (T.live n).isSome) (n : Int) = true := by
      unfold livesB
      rw [decide_eq_true (by omega)]
      simp [HNN.out]
    rw [hlv] at HLV
    have c2 : w1.cell? ⟨w.heap.size, 2, none⟩ = some (.int .i64 (n : Int)) := cell_blk hob rfl
    have clt := lt_of_block hob
    clear hl hob hh hb1 hb2 hlv
    go_wp2_with fail
    refine HLV.out.mono ?_
    rintro e w' ⟨rfl, rfl⟩
    clear c2 clt
    have KC : Hid (∀ w', Fr No w1 w' → w'.cell? ⟨w.heap.size, 2, none⟩ = some (.int .i64 (n : Int)) ∧ w'.cell? ⟨w.heap.size, 5, none⟩ = some (.int .i64 q0) ∧ w'.cell? ⟨w.heap.size, 6, none⟩ = some (.int .i64 q1) ∧ w'.cell? ⟨w.heap.size, 7, none⟩ = some (.int .i64 q2) ∧
        w'.cell? ⟨bb, 16 + n * 3, none⟩ = some (.int .i64 r.paid.f) ∧ w'.cell? ⟨bb, 16 + n * 3 + 1, none⟩ = some (.int .i64 r.paid.e) ∧ w'.cell? ⟨bb, 16 + n * 3 + 2, none⟩ = some (.int .i64 r.paid.x) ∧
        w'.frozen? ⟨bb, 16 + n * 3, none⟩ = false ∧ w'.frozen? ⟨bb, 16 + n * 3 + 1, none⟩ = false ∧ w'.frozen? ⟨bb, 16 + n * 3 + 2, none⟩ = false ∧ bb < w'.heap.size ∧ w.heap.size < w'.heap.size) := Lib.hid fun w' hf => by
      have ho := hf.heap HOB1.out id
      have hb := HB1.out.keep hf id
      rw [← HPP.out]
      exact ⟨cell_blk ho rfl, cell_blk ho rfl, cell_blk ho rfl, cell_blk ho rfl, hb.pf h16, hb.pe h16, hb.px h16, hb.free _, hb.free _, hb.free _, hb.lt, lt_of_block ho⟩
    obtain ⟨d0, d1, d2, d3, d4, d5, d6, d7, d8, d9, d10, d11⟩ := KC.out _ (Fr.refl _ _)
    have hn0 : (0 : Int) ≤ (n : Int) := by omega
    have hn2 : (n : Int) < 16 := by omega
    go_wp2_with fail
    first
      | (go_region_law (first
          | (go_simp; go_at_call 24; (with_reducible refine (HADD.out _).mono ?_); rintro e w2 ⟨rfl, hf2⟩; obtain ⟨e0, e1, e2, e3, e4, e5, e6, e7, e8, e9, e10, e11⟩ := KC.out _ ((Fr.refl _ w1).drew.trans hf2))))
      | fail
    all_goals
      have HF2 := Lib.hid ((Fr.refl No w1).drew.trans hf2)
      have HB5 := Lib.hid ((HB1.out.keep HF2.out id).setPaid (n := n) h16 (r.paid.minus ⟨q0, q1, q2⟩))
      go_wp2_with fail
      go_ret
      refine ⟨rfl, L', _, (HH.out.no HF2.out).full HI.out ?_ ?_, (.inr (.inr (.inr (.inl ⟨rfl, HTT.out.symm⟩))))⟩
      · refine ⟨_, HB5.out.congr (fun m _ => Tb.set_some HNN.out) (fun _ _ => rfl), fun m s hm => ?_⟩
        rcases Tb.set_get hm with ⟨rfl, rfl⟩ | ⟨e, hm⟩
        · simp only [if_true]
        · rw [if_neg e]
          exact HB2.out m s hm
      · exact (((Fr.refl (One bb) _).put (.inl (One.self bb)) _ _).put (.inl (One.self bb)) _ _).put (.inl (One.self bb)) _ _
  · have hc' : (code == 0) = false := by simpa using hc
    have HK := Lib.hid (refund_bad HN.out.inv oe ⟨q0, q1, q2⟩ (by rw [hcode]; exact hc))
    clear hc hcode
    go_enter Try.func15, Try.ntmps15
    go_wp2_with fail
    rw [← hW.out]
    refine (Refund_any HN.out.tab oe ⟨q0, q1, q2⟩ fun n r hr => HN.out.inv.ok n r hr).mono ?_
    rintro e w1 ⟨rfl, hl⟩
    rw [HCode.out]
    have HN1 := Lib.hid (HN.out.left hl HK.out.inv (fun w2 => HK.out.book w2 bb))
    clear hl
    go_wp2_with fail
    go_ret
    exact ⟨rfl, L, _, HN1.out, (.inr (.inr (.inr (.inl ⟨rfl, rfl⟩))))⟩
end
end Go.Proofs.Ytdogpkcalflhbaa
