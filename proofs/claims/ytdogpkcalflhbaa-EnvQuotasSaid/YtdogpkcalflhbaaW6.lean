/- EnvWhole: the walk. -/
import Derived.Test.YtdogpkcalflhbaaC28
import Derived.RegionTactic
set_option linter.unusedSimpArgs false
set_option linter.unusedVariables false
namespace Go.Proofs.Ytdogpkcalflhbaa
open Go.RowKit
theorem RAt.seg {w : World} {v : Value} {l : List OpE} (h : RAt w v l.length (l.flatMap fun o => (opcells o).toList)) : ∀ j x, l[j]? = some x → ∃ g o cap, v = .slice (some ⟨g, o, none⟩) l.length cap ∧ SegAt w g (o + j * 18) (opcells x).toList := by
  intro j x hx
  have hj := (List.getElem?_eq_some_iff.1 hx).1
  obtain ⟨a, cap, rfl, _, hs⟩ := h.len
  obtain ⟨g, o, rfl, hseg⟩ := hs (by omega)
  refine ⟨g, o, cap, rfl, fun i u hu => ?_⟩
  have hi : i < 18 := (List.getElem?_eq_some_iff.1 hu).1
  have := hseg (j * 18 + i) u (by rw [flat_get (fun o => (opcells o).toList) 18 l (fun _ _ => rfl) j i x hx hi]; exact hu)
  rw [Nat.add_assoc]; exact this
theorem SegAt.fr {w w' : World} {g o : Nat} {X : List Value} (h : SegAt w g o X) (hf : Fr No w w') : SegAt w' g o X := fun j u hu => (hf.cell (p := ⟨g, o + j, none⟩) (World.block_lt_of_cell? _ _ (h j u hu)) id).trans (h j u hu)
theorem put3 {w : World} {g : Nat} {x0 x1 x2 : Value} (h : w.heap[g]? = some (.cells #[x0, x1, x2] 39 (0, 0))) (y0 y1 y2 : Value) : (((w.setCell ⟨g, 0, none⟩ y0).setCell ⟨g, 1, none⟩ y1).setCell ⟨g, 2, none⟩ y2).heap[g]? = some (.cells #[y0, y1, y2] 39 (0, 0)) :=
  heap_setCell_same _ _ _ _ _ _ (heap_setCell_same _ _ _ _ _ _ (heap_setCell_same _ _ _ _ _ _ h))
set_option maxRecDepth 100000 in
set_option maxHeartbeats 16000000 in
theorem whole_walk (w : World) (a : Option Addr) (cap : Nat) (l : List OpE) (hl : RAt w (.slice a l.length cap) l.length (l.flatMap fun o => (opcells o).toList)) (hlen : l.length ≤ 9223372036854775807) :
    Calls Try.prog 6 #[.slice a l.length cap] w fun e w' => e = .returned (.bool true) ∧ Fr No w w' := by
  obtain ⟨N, hN⟩ : ∃ N, Hid (l.length = N) := ⟨_, Lib.hid rfl⟩
  have HL : Hid (∀ j x, l[j]? = some x → ∃ g o, a = some ⟨g, o, none⟩ ∧ SegAt w g (o + j * 18) (opcells x).toList) := Lib.hid fun j x hx => by
    obtain ⟨g, o, cap', e, h⟩ := hl.seg j x hx
    simp only [Value.slice.injEq] at e
    exact ⟨g, o, e.1, h⟩
  rw [hN.out] at hlen ⊢
  clear hl
  go_enter Try.func6, Try.ntmps6
  go_wp2_with fail
  refine (first_ns w).mono ?_
  rintro e w1 ⟨b, L, bb, rfl, hb⟩
  have S1 := Lib.hid hb
  clear hb
  go_wp2_with fail
  go_loopg [5] N (fun m i wr => ∃ j : Nat, j ≤ N ∧ m + j = N ∧ i = .int .i64 j ∧ Hid (∃ L T, NS w b L T bb wr))
  case atStart => exact ⟨0, by omega, by omega, rfl, Lib.hid ⟨_, _, S1.out⟩⟩
  case round =>
    obtain ⟨j, hj, hm, rfl, HR⟩ := hrel
    by_cases hlt : j < N
    · obtain ⟨L, T, hst⟩ := HR.out
      obtain ⟨x, hx⟩ : ∃ x, l[j]? = some x := ⟨_, List.getElem?_eq_getElem (by rw [hN.out]; exact hlt)⟩
      obtain ⟨g, o, rfl, hcw⟩ := HL.out j x hx
      have HC := Lib.hid (hcw.fr hst.fr)
      have hgr : g < wr.heap.size := HC.out.lt (by simp [opcells])
      have HN := Lib.hid hst
      clear hst hx hcw HR
      go_wp2_with (with_reducible show wpList _ _ _ (Oper.mk (some 31) _ _ _ _ _ :: _) _ _; refine Stop.mk ?_)
      refine Stop.go ?_
      refine wpList_load_seg rfl (.tmp 30) 47 rfl 18 Try.isAgg47 Try.sizeOf47 g (o + j * 18) (opcells x).toList rfl rfl HC.out ?_
      rw [show (opcells x).toList.toArray = opcells x from rfl]
      go_wp2_with fail
      refine (noted_any HN.out x).mono ?_
      rintro e w' ⟨rfl, L', T', hn, _⟩
      have HN2 := Lib.hid hn
      clear hn
      go_wp2_with fail
      go_roundg (N - (j + 1))
      case rel => exact ⟨j + 1, by omega, by omega, by go_num, Lib.hid ⟨_, _, HN2.out⟩⟩
      case measure => omega
    · obtain ⟨L, T, hst⟩ := HR.out
      have HN := Lib.hid hst
      obtain rfl : j = N := by omega
      clear hst HR HL S1
      go_wp2_with fail
      go_loopg [7] 16 (fun m i wr' => ∃ n : Nat, n ≤ 16 ∧ m + n = 16 ∧ i = .int .i64 n ∧ Hid (NS w b L T bb wr'))
      case atStart => exact ⟨0, by omega, by omega, rfl, HN⟩
      case round =>
        obtain ⟨n, hn, hm2, rfl, HR⟩ := hrel
        by_cases hlt2 : n < 16
        · obtain ⟨paid, hb1, hb2⟩ := HR.out.book
          have HB1 := Lib.hid hb1
          have HB2 := Lib.hid hb2
          have k0 := hb1.live hlt2
          have klt := hb1.lt
          clear hb1 hb2
          cases hr : T.live n with
          | none =>
            rw [hr] at k0
            have k1 : wr.cell? ⟨bb, n, none⟩ = some (.bool false) := k0
            clear k0 hr
            go_wp2_with fail
            go_roundg (16 - (n + 1))
            case rel => exact ⟨n + 1, by omega, by omega, by go_num, HR⟩
            case measure => omega
          | some r =>
            rw [hr] at k0
            have k1 : wr.cell? ⟨bb, n, none⟩ = some (.bool true) := k0
            have hI := HR.out.inv
            obtain ⟨t, ht⟩ := hI.tree hr
            obtain ⟨hq1, hq2, hq3⟩ := sum_tree hI hr ht
            have HQ1 := Lib.hid hq1
            have h16 := hI.tree16 ht
            have HT := Lib.hid ht
            have HRR := Lib.hid hr
            have HI := Lib.hid hI
            clear k0 hr hI ht hq1
            go_wp2_with fail
            refine (Info_some HR.out.tab n r HRR.out (HI.out.ok n r HRR.out)).mono ?_
            rintro e w3 ⟨rfl, hf⟩
            have HF3 := Lib.hid hf
            clear hf
            go_wp2_with (with_reducible show wpList _ _ _ (Oper.mk none (.store 41 _ _) _ _ _ _ :: _) _ _; refine Stop.mk ?_)
            obtain ⟨W3, hW3⟩ : ∃ W3, W3 = w3.alloc (.cells #[.int .i64 0, .int .i64 0, .int .i64 0, .int .i64 0, .int .i64 0, .bool false, .int .u32 0, .int .u32 0, .int .u32 0, .int .u32 0, .int .u32 0, .int .u32 0, .int .u32 0, .int .u32 0, .int .u32 0, .int .i64 0, .int .i64 0, .int .i64 0, .int .i64 0, .int .i64 0, .int .i64 0] 41) := ⟨_, rfl⟩
            rw [← hW3]
            have HW3 : Hid (W3.heap[w3.heap.size]? = some (.cells zero41 41 (0, 0)) ∧ Fr No w3 W3) := Lib.hid (by rw [hW3]; exact ⟨heap_alloc_new w3 _, (Fr.refl _ _).alloc _⟩)
            clear hW3
            refine Stop.go ?_
            refine wpList_store_seg rfl rfl (.tmp 8) (.tmp 50) 41 rfl 21 Try.sizeOf41 w3.heap.size 0 (infocells r).toList rfl rfl rfl (infocells_one _) ⟨zero41, 41, HW3.out.1, by simp [zero41]⟩ ?_
            obtain ⟨w4, hw4⟩ : ∃ w4, w4 = World.setSeg W3 w3.heap.size 0 (infocells r).toList := ⟨_, rfl⟩
            rw [← hw4]
            have HB4 : Hid (w4.heap[w3.heap.size]? = some (.cells (infocells r) 41 (0, 0)) ∧ Fr No w3 w4) := Lib.hid (by rw [hw4]; exact ⟨heap_seg_all HW3.out.1 rfl, HW3.out.2.seg (.inr (Nat.le_refl _)) _ _⟩)
            clear hw4
            have HN4 := Lib.hid (HR.out.no (HF3.out.trans HB4.out.2))
            obtain ⟨g8, hg8⟩ : ∃ g, w3.heap.size = g := ⟨_, rfl⟩
            rw [hg8] at HB4 ⊢
            go_wp2_with fail
            refine (Tree_some HN4.out.tab HRR.out HT.out h16).mono ?_
            rintro e w5 ⟨v, rfl, hown, hf5⟩
            have HF5 := Lib.hid hf5
            obtain ⟨al, capl, rfl, hl0⟩ := own_slice hown
            have HOW := Lib.hid hown
            have HL0 := Lib.hid hl0
            have HN5 := Lib.hid (HN4.out.no hf5)
            have HB5 : Hid (w5.heap[g8]? = some (.cells (infocells r) 41 (0, 0))) := Lib.hid (hf5.heap HB4.out.1 id)
            have c16 : w5.cell? ⟨g8, 16, none⟩ = some (.int .i64 r.whole.e) := cell_blk HB5.out rfl
            have c15 : w5.cell? ⟨g8, 15, none⟩ = some (.int .i64 r.whole.f) := cell_blk HB5.out rfl
            have c17 : w5.cell? ⟨g8, 17, none⟩ = some (.int .i64 r.whole.x) := cell_blk HB5.out rfl
            have lt8 := lt_of_block HB5.out
            obtain ⟨nt, hnt⟩ : ∃ nt, t.length = nt := ⟨_, rfl⟩
            rw [hnt] at HL0 HOW hq2 hq3 h16 ⊢
            have HNT := Lib.hid hnt
            clear hown hl0 hf5 hnt
            have hd0 : ((nt : Int) == 0) = false := by simp; omega
            have hd1 : decide (r.whole.e < (nt : Int) - 1) = false := by simp; omega
            have hd2 : decide (16 < (nt : Int)) = false := by simp; omega
            go_wp2_with fail
            obtain ⟨w6, hw6⟩ : ∃ w6, w6 = w5.alloc (.cells #[.int .i64 r.whole.f, .int .i64 r.whole.e, .int .i64 r.whole.x] 39) := ⟨_, rfl⟩
            rw [← hw6]
            have HB6 : Hid (w6.heap[w5.heap.size]? = some (.cells #[.int .i64 r.whole.f, .int .i64 r.whole.e, .int .i64 r.whole.x] 39 (0, 0)) ∧ Fr No w5 w6) := Lib.hid (by rw [hw6]; exact ⟨heap_alloc_new _ _, (Fr.refl _ _).alloc _⟩)
            clear hw6
            have HBK := Lib.hid (HB1.out.keep (HF3.out.trans (HB4.out.2.trans HF5.out)) id)
            obtain ⟨g12, hg12⟩ : ∃ g, w5.heap.size = g := ⟨_, rfl⟩
            rw [hg12] at HB6 ⊢
            have HG12 := Lib.hid hg12
            clear c15 c16 c17 lt8 hg12 hd0 hd1 hd2 k1 klt
            go_loopg [13] nt (fun m i wr => ∃ jj : Nat, jj ≤ nt ∧ m + jj = nt ∧ i = .int .i64 jj ∧ Hid (wr.heap[g12]? = some (.cells #[.int .i64 (r.whole.f - (sumPaid T (t.take jj)).f), .int .i64 (r.whole.e - (sumPaid T (t.take jj)).e), .int .i64 (r.whole.x - (sumPaid T (t.take jj)).x)] 39 (0, 0)) ∧ Fr (One g12) w6 wr))
            case atStart => exact ⟨0, by omega, by omega, rfl, Lib.hid ⟨by simpa [sumPaid, Qt.zero] using HB6.out.1, Fr.refl _ _⟩⟩
            case round =>
              obtain ⟨jj, hjj, hm3, rfl, HR3⟩ := hrel
              have HF53 : Hid (Fr No w5 wr) := Lib.hid (HB6.out.2.then HR3.out.2 fun i hi (e : i = g12) => by have := HG12.out; omega)
              by_cases hlt3 : jj < nt
              · obtain ⟨c, hc⟩ : ∃ c, t[jj]? = some c := ⟨_, List.getElem?_eq_getElem (by rw [HNT.out]; exact hlt3)⟩
                obtain ⟨gq, rfl, _⟩ := HL0.out (by omega)
                obtain ⟨rc, hrc⟩ := HT.out.live c (List.mem_of_getElem? hc)
                have hc16 := HI.out.lt c rc hrc
                have HRC := Lib.hid hrc
                have hcI0 : (0 : Int) ≤ (c : Int) := by omega
                have hcI1 : (c : Int) < 16 := by omega
                have HBW := Lib.hid (HBK.out.keep HF53.out id)
                have HLS := Lib.hid (lives_any HBW.out (c : Int))
                have hls : livesB (fun n => (T.live n).isSome) (c : Int) = true := by
                  unfold livesB
                  rw [decide_eq_true (by omega)]
                  simp [hrc]
                rw [hls] at HLS
                obtain ⟨S, hS⟩ : ∃ S, sumPaid T (t.take jj) = S := ⟨_, rfl⟩
                have HSS : Hid (sumPaid T (t.take (jj + 1)) = S.plus rc.paid) := Lib.hid (by
                  rw [sumPaid_succ T hc, hS]
                  unfold paidOf
                  rw [hrc])
                have hbd1 := sumPaid_take HI.out t jj
                have hbd2 := sumPaid_nn HI.out (t.take jj)
                have hbd3 := HQ1.out
                have hbd4 := (HI.out.ok n r HRR.out).whole
                have hbd5 := (HI.out.ok c rc hrc).paid
                rw [hS] at hbd1 hbd2
                have HADD := Lib.hid (fun w => add_neg (r.whole.f - S.f) (r.whole.e - S.e) (r.whole.x - S.x) rc.paid.f rc.paid.e rc.paid.x w (by unfold Qle at hbd1 hbd3; unfold Qnn at hbd2; unfold Qok at hbd4; unfold Qsmall; simp only; omega) hbd5)
                have HP : Hid (paid c = rc.paid) := Lib.hid (HB2.out c rc hrc)
                have HR4 := HR3
                rw [hS] at HR4
                obtain ⟨a0, ha0⟩ : ∃ x, r.whole.f - S.f = x := ⟨_, rfl⟩
                obtain ⟨a1, ha1⟩ : ∃ x, r.whole.e - S.e = x := ⟨_, rfl⟩
                obtain ⟨a2, ha2⟩ : ∃ x, r.whole.x - S.x = x := ⟨_, rfl⟩
                rw [ha0, ha1, ha2] at HR4 HADD
                have HAA : Hid (r.whole.f - S.f = a0 ∧ r.whole.e - S.e = a1 ∧ r.whole.x - S.x = a2) := Lib.hid ⟨ha0, ha1, ha2⟩
                have KC : Hid (∀ w', Fr No wr w' → w'.cell? ⟨gq, jj, none⟩ = some (.int .i64 (c : Int)) ∧ w'.cell? ⟨bb, 16 + c * 3, none⟩ = some (.int .i64 rc.paid.f) ∧ w'.cell? ⟨bb, 16 + c * 3 + 1, none⟩ = some (.int .i64 rc.paid.e) ∧ w'.cell? ⟨bb, 16 + c * 3 + 2, none⟩ = some (.int .i64 rc.paid.x) ∧
                    w'.cell? ⟨g12, 0, none⟩ = some (.int .i64 a0) ∧ w'.cell? ⟨g12, 1, none⟩ = some (.int .i64 a1) ∧ w'.cell? ⟨g12, 2, none⟩ = some (.int .i64 a2) ∧
                    w'.frozen? ⟨g12, 0, none⟩ = false ∧ w'.frozen? ⟨g12, 1, none⟩ = false ∧ w'.frozen? ⟨g12, 2, none⟩ = false ∧ bb < w'.heap.size ∧ g12 < w'.heap.size ∧ gq < w'.heap.size) := Lib.hid fun w' hf => by
                  have hb := HBW.out.keep hf id
                  have ho := own_fr HOW.out (HF53.out.trans hf) fun _ _ => id
                  have hx := hf.heap HR4.out.1 id
                  have hcell : w'.cell? ⟨gq, jj, none⟩ = some (.int .i64 (c : Int)) := own_cell ho (by unfold kidv; rw [List.getElem?_map, hc]; rfl)
                  rw [← HP.out]
                  exact ⟨hcell, hb.pf hc16, hb.pe hc16, hb.px hc16, cell_blk hx rfl, cell_blk hx rfl, cell_blk hx rfl, free_blk hx _, free_blk hx _, free_blk hx _, hb.lt, lt_of_block hx, World.block_lt_of_cell? _ _ hcell⟩
                obtain ⟨d0, d1, d2, d3, d4, d5, d6, d7, d8, d9, d10, d11, d12⟩ := KC.out _ (Fr.refl _ _)
                clear hc hrc hls hS hbd1 hbd2 hbd3 hbd4 hbd5 ha0 ha1 ha2
                go_wp2_with fail
                refine HLS.out.mono ?_
                rintro e w' ⟨rfl, rfl⟩
                go_wp2_with fail
                first
                  | (go_region_law (first
                      | (go_simp; go_at_call 24; (with_reducible refine (HADD.out _).mono ?_); rintro e w7 ⟨rfl, hf7⟩; obtain ⟨e0, e1, e2, e3, e4, e5, e6, e7, e8, e9, e10, e11, e12⟩ := KC.out _ ((Fr.refl _ wr).drew.trans hf7))))
                  | fail
                all_goals
                  have HF7 := Lib.hid ((Fr.refl No wr).drew.trans hf7)
                  go_wp2_with fail
                  go_roundg (nt - (jj + 1))
                  case rel =>
                    refine ⟨jj + 1, by omega, by omega, by go_num, Lib.hid ⟨?_, ?_⟩⟩
                    · rw [HSS.out]
                      have h := put3 (HF7.out.heap HR4.out.1 id) (.int .i64 (a0 - rc.paid.f)) (.int .i64 (a1 - rc.paid.e)) (.int .i64 (a2 - rc.paid.x))
                      obtain ⟨q0, q1, q2⟩ := HAA.out
                      have e0 : r.whole.f - (S.plus rc.paid).f = a0 - rc.paid.f := by simp only [Qt.plus]; omega
                      have e1 : r.whole.e - (S.plus rc.paid).e = a1 - rc.paid.e := by simp only [Qt.plus]; omega
                      have e2 : r.whole.x - (S.plus rc.paid).x = a2 - rc.paid.x := by simp only [Qt.plus]; omega
                      rw [e0, e1, e2]
                      exact h
                    · exact (((HR4.out.2.then HF7.out fun i _ h => h.elim).put (.inl (One.self g12)) _ _).put (.inl (One.self g12)) _ _).put (.inl (One.self g12)) _ _
                  case measure => omega
              · obtain rfl : jj = nt := by omega
                have htk : t.take jj = t := List.take_of_length_le (by rw [HNT.out]; omega)
                have hcc := HR3.out.1
                rw [htk] at hcc
                have hq := HQ1.out
                unfold Qle at hq
                obtain ⟨a0, ha0⟩ : ∃ x, r.whole.f - (sumPaid T t).f = x := ⟨_, rfl⟩
                obtain ⟨a1, ha1⟩ : ∃ x, r.whole.e - (sumPaid T t).e = x := ⟨_, rfl⟩
                obtain ⟨a2, ha2⟩ : ∃ x, r.whole.x - (sumPaid T t).x = x := ⟨_, rfl⟩
                rw [ha0, ha1, ha2] at hcc
                have hdec : decide (a0 < 0 ∨ a1 < 0 ∨ a2 < 0) = false := decide_eq_false (by omega)
                have d0 : wr.cell? ⟨g12, 0, none⟩ = some (.int .i64 a0) := cell_blk hcc rfl
                have d1 : wr.cell? ⟨g12, 1, none⟩ = some (.int .i64 a1) := cell_blk hcc rfl
                have d2 : wr.cell? ⟨g12, 2, none⟩ = some (.int .i64 a2) := cell_blk hcc rfl
                have dl := lt_of_block hcc
                have HDEC := Lib.hid hdec
                clear hcc hq ha0 ha1 ha2 htk hdec
                go_wp2_with fail
                refine (below_raw _ _ _ _).mono ?_
                rintro e w8 ⟨rfl, hf8⟩
                rw [HDEC.out]
                have HF8 := Lib.hid hf8
                clear hf8
                go_wp2_with fail
                go_roundg (16 - (n + 1))
                case rel => exact ⟨n + 1, by omega, by omega, by go_num, Lib.hid (HN5.out.no (HF53.out.trans HF8.out))⟩
                case measure => omega
        · have HFR := Lib.hid HR.out.fr
          obtain rfl : n = 16 := by omega
          clear HR
          go_wp2_with fail
          go_ret
          exact ⟨rfl, HFR.out⟩
end Go.Proofs.Ytdogpkcalflhbaa
