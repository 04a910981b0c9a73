/- adds: paid, carved and Left are Quota. -/
import Derived.Test.YtdogpkcalflhbaaC29
import Derived.Test.YtdogpkcalflhbaaW6
import Derived.Laws.StructEq
import Derived.Deep.CutRange
import Derived.Deep.Cut
set_option linter.unusedSimpArgs false
set_option linter.unusedVariables false
namespace Go.Proofs.Ytdogpkcalflhbaa
open Go.RowKit
set_option maxRecDepth 20000 in
theorem eq39 (a b c a' b' c' : Int) (w : World) : (binOp .eql 39 (.agg #[.int .i64 a, .int .i64 b, .int .i64 c]) (.agg #[.int .i64 a', .int .i64 b', .int .i64 c'])).run Try.prog w = .ok (.bool (a == a' && (b == b' && c == c'))) w := by
  have hf : Try.prog.underlying 39 = some (.struct (Try.prog.fieldsOf 39)) := by kernel_rfl
  rw [run_eql_struct, show (10000 : Nat) = 9999 + 1 from rfl, run_equalIn_agg w 9999 39 _ _ hf (by kernel_rfl)]
  have hff : (Try.prog.fieldsOf 39).toList.map (fun f => (f.name, f.type, f.offset)) = [("Frames", 3, 0), ("Envs", 3, 1), ("Extents", 3, 2)] := by kernel_rfl
  obtain ⟨l, hl⟩ : ∃ l, (Try.prog.fieldsOf 39).toList = l := ⟨_, rfl⟩
  rw [hl] at hff ⊢
  match l, hff with
  | [f0, f1, f2], hff =>
    simp only [List.map_cons, List.map_nil, List.cons.injEq, Prod.mk.injEq, and_true] at hff
    obtain ⟨⟨n0, t0, o0⟩, ⟨n1, t1, o1⟩, ⟨n2, t2, o2⟩⟩ := hff
    simp only [Op.eqFields, n0, n1, n2, t0, t1, t2, o0, o1, o2]
    have p : ∀ (d : Nat) (x y : Int) w, (Op.equalIn (d + 1) 3 (.int .i64 x) (.int .i64 y)).run Try.prog w = .ok (x == y) w := fun d x y w => run_equalIn_int w d 3 _ _ x y Try.underlying3
    have p9 : ∀ (x y : Int) w, (Op.equalIn 9999 3 (.int .i64 x) (.int .i64 y)).run Try.prog w = .ok (x == y) w := fun x y w => p 9998 x y w
    by_cases h0 : a = a' <;> by_cases h1 : b = b' <;> by_cases h2 : c = c' <;> simp [go_sem, part, Try.isAgg3, p9, h0, h1, h2]
theorem carved_take {T : Tb} (hI : Inv T) (l : List Nat) (j : Nat) : Qle (carvedOf T (l.take j)) (carvedOf T l) ∧ Qnn (carvedOf T (l.take j)) := by
  have h := carvedOf_append T (l.take j) (l.drop j)
  rw [List.take_append_drop] at h
  have h2 := carvedOf_nn hI (l.drop j)
  refine ⟨?_, carvedOf_nn hI _⟩
  rw [h]
  unfold Qnn at h2
  unfold Qle Qt.plus
  simp only
  omega
theorem carved_succ {T : Tb} {l : List Nat} {j c : Nat} {rc : Rec} (h : l[j]? = some c) (hc : T.live c = some rc) : carvedOf T (l.take (j + 1)) = (carvedOf T (l.take j)).plus rc.whole.child := by
  rw [List.take_add_one, h, Option.toList_some, carvedOf_append]
  have e : carvedOf T [c] = rc.whole.child := by
    simp only [carvedOf]
    unfold wholeOf
    rw [hc]
    simp only [Qt.plus, Qt.zero, Qt.child]
    ext <;> simp
  rw [e]
section
variable {w w' : World} {b bb : Nat} {L : Lay} {T : Tb} {lives : Nat → Bool} {paid : Nat → Qt} {last : Int}
set_option maxRecDepth 100000 in
set_option maxHeartbeats 16000000 in
theorem adds_some (h : TabAt w b L T) (hb : BookAt w bb lives paid last) (hI : Inv T) {n : Nat} {r : Rec} (hr : T.live n = some r) (hp : paid n = r.paid) :
    Calls Try.prog 26 #[.pointer (some ⟨bb, 0, none⟩), .pointer (some ⟨b, 0, none⟩), .int .i64 (n : Int)] w fun e w' => e = .returned (.bool true) ∧ Fr No w w' := by
  have H := Lib.hid h
  have HBK := Lib.hid hb
  have HI := Lib.hid hI
  have HRR := Lib.hid hr
  have HPP := Lib.hid hp
  have h16 := hI.lt n r hr
  have hk16 := hI.kids16 hr
  have hbw : b < w.heap.size := lt_of_block h.hb
  have hlnn := hI.left_nn hr
  have HLN := Lib.hid hlnn
  have hn0 : (0 : Int) ≤ (n : Int) := by omega
  have hn2 : (n : Int) < 16 := by omega
  have hlv : Hid (r.whole.f - r.paid.f - r.carved.f = r.left.f ∧ r.whole.e - r.paid.e - r.carved.e = r.left.e ∧ r.whole.x - r.paid.x - r.carved.x = r.left.x) := Lib.hid ⟨rfl, rfl, rfl⟩
  clear h hb hI hr hp hlnn
  go_enter Try.func26, Try.ntmps26
  go_wp2_with fail
  refine (Info_some H.out n r HRR.out (HI.out.ok n r HRR.out)).mono ?_
  rintro e w3 ⟨rfl, hf⟩
  have HF3 := Lib.hid hf
  clear hf
  go_wp2_with (with_reducible show wpList _ _ _ (Oper.mk none (.store 41 _ _) _ _ _ _ :: _) _ _; refine Stop.mk ?_)
  obtain ⟨W3, hW3⟩ : ∃ W3, W3 = w3.alloc (.cells #[.int .i64 0, .int .i64 0, .int .i64 0, .int .i64 0, .int .i64 0, .bool false, .int .u32 0, .int .u32 0, .int .u32 0, .int .u32 0, .int .u32 0, .int .u32 0, .int .u32 0, .int .u32 0, .int .u32 0, .int .i64 0, .int .i64 0, .int .i64 0, .int .i64 0, .int .i64 0, .int .i64 0] 41) := ⟨_, rfl⟩
  rw [← hW3]
  have HW3 : Hid (W3.heap[w3.heap.size]? = some (.cells zero41 41 (0, 0)) ∧ Fr No w3 W3) := Lib.hid (by rw [hW3]; exact ⟨heap_alloc_new w3 _, (Fr.refl _ _).alloc _⟩)
  clear hW3
  refine Stop.go ?_
  refine wpList_store_seg rfl rfl (.tmp 7) (.tmp 19) 41 rfl 21 Try.sizeOf41 w3.heap.size 0 (infocells r).toList rfl rfl rfl (infocells_one _) ⟨zero41, 41, HW3.out.1, by simp [zero41]⟩ ?_
  obtain ⟨w4, hw4⟩ : ∃ w4, w4 = World.setSeg W3 w3.heap.size 0 (infocells r).toList := ⟨_, rfl⟩
  rw [← hw4]
  have HB4 : Hid (w4.heap[w3.heap.size]? = some (.cells (infocells r) 41 (0, 0)) ∧ Fr No w3 w4) := Lib.hid (by rw [hw4]; exact ⟨heap_seg_all HW3.out.1 rfl, HW3.out.2.seg (.inr (Nat.le_refl _)) _ _⟩)
  clear hw4
  have HF4 := Lib.hid (HF3.out.trans HB4.out.2)
  obtain ⟨g7, hg7⟩ : ∃ g, w3.heap.size = g := ⟨_, rfl⟩
  rw [hg7] at HB4 ⊢
  go_wp2_with fail
  refine (Children_some (H.out.no HF4.out) HRR.out hk16).mono ?_
  rintro e w5 ⟨v, rfl, hown, hf5⟩
  obtain ⟨al, capl, rfl, hl0⟩ := own_slice hown
  have HOW := Lib.hid hown
  have HL0 := Lib.hid hl0
  have HF5 := Lib.hid (HF4.out.trans hf5)
  have HB5 : Hid (w5.heap[g7]? = some (.cells (infocells r) 41 (0, 0))) := Lib.hid (hf5.heap HB4.out.1 id)
  obtain ⟨nt, hnt⟩ : ∃ nt, r.kids.length = nt := ⟨_, rfl⟩
  rw [hnt] at HL0 HOW hk16 ⊢
  have HNT := Lib.hid hnt
  clear hown hl0 hf5 hnt
  obtain ⟨l0, hl0⟩ : ∃ x, r.left.f = x := ⟨_, rfl⟩
  obtain ⟨l1, hl1⟩ : ∃ x, r.left.e = x := ⟨_, rfl⟩
  obtain ⟨l2, hl2⟩ : ∃ x, r.left.x = x := ⟨_, rfl⟩
  have HLL : Hid (r.left.f = l0 ∧ r.left.e = l1 ∧ r.left.x = l2) := Lib.hid ⟨hl0, hl1, hl2⟩
  have KC : Hid (∀ w', Fr No w5 w' → w'.cell? ⟨g7, 18, none⟩ = some (.int .i64 l0) ∧ w'.cell? ⟨g7, 19, none⟩ = some (.int .i64 l1) ∧ w'.cell? ⟨g7, 20, none⟩ = some (.int .i64 l2) ∧
      w'.cell? ⟨bb, 16 + n * 3, none⟩ = some (.int .i64 r.paid.f) ∧ w'.cell? ⟨bb, 16 + n * 3 + 1, none⟩ = some (.int .i64 r.paid.e) ∧ w'.cell? ⟨bb, 16 + n * 3 + 2, none⟩ = some (.int .i64 r.paid.x) ∧ bb < w'.heap.size ∧ g7 < w'.heap.size) := Lib.hid fun w' hf => by
    have hb := HBK.out.keep (HF5.out.trans hf) id
    have hx := hf.heap HB5.out id
    rw [← HPP.out, ← hl0, ← hl1, ← hl2]
    exact ⟨cell_blk hx rfl, cell_blk hx rfl, cell_blk hx rfl, hb.pf h16, hb.pe h16, hb.px h16, hb.lt, lt_of_block hx⟩
  have HD1 : Hid (decide (l0 < 0 ∨ l1 < 0 ∨ l2 < 0) = false) := Lib.hid (by
    have := HLN.out
    unfold Qnn at this
    exact decide_eq_false (by omega))
  have HD2 : Hid (decide (r.paid.f < 0 ∨ r.paid.e < 0 ∨ r.paid.x < 0) = false) := Lib.hid (by
    have := (HI.out.ok n r HRR.out).paid
    unfold Qok at this
    exact decide_eq_false (by omega))
  clear hl0 hl1 hl2
  obtain ⟨c0, c1, c2, c3, c4, c5, c6, c7⟩ := KC.out _ (Fr.refl _ _)
  go_wp2_with fail
  refine (below_raw _ _ _ _).mono ?_
  rintro e w6 ⟨rfl, hf6⟩
  rw [HD1.out]
  have HF6 := Lib.hid hf6
  clear c0 c1 c2 c3 c4 c5 c6 c7
  obtain ⟨c0, c1, c2, c3, c4, c5, c6, c7⟩ := KC.out _ hf6
  clear hf6
  go_wp2_with fail
  refine (below_raw _ _ _ _).mono ?_
  rintro e w7 ⟨rfl, hf7⟩
  rw [HD2.out]
  have HF7 := Lib.hid (HF6.out.trans hf7)
  clear c0 c1 c2 c3 c4 c5 c6 c7
  obtain ⟨c0, c1, c2, c3, c4, c5, c6, c7⟩ := KC.out _ HF7.out
  clear hf7
  have HADD := Lib.hid (fun w => add_one l0 l1 l2 r.paid.f r.paid.e r.paid.x w (by
    have h1 := HLN.out
    have h2 := (HI.out.ok n r HRR.out)
    have h3 := HLL.out
    have h4 := h2.whole
    have h5 := h2.paid
    have h6 := h2.carved
    have h7 := hlv.out
    unfold Qok at h4 h5 h6
    unfold Qnn at h1
    unfold Qsmall
    simp only
    omega) (HI.out.ok n r HRR.out).paid)
  go_upto_region 5 with fail
  go_cut [11] from 47 to 56 (fun u11 wx => ∃ g11, u11 = .pointer (some ⟨g11, 0, none⟩) ∧ w5.heap.size ≤ g11 ∧ Hid (wx.heap[g11]? = some (.cells #[.int .i64 (l0 + r.paid.f), .int .i64 (l1 + r.paid.e), .int .i64 (l2 + r.paid.x)] 39 (0, 0)) ∧ Fr No w5 wx))
  case first =>
    go_region_law (first
      | (go_simp; go_at_call 24; (with_reducible refine (HADD.out _).mono ?_); rintro e w8 ⟨rfl, hf8⟩; try (have hx8 := hf8.heap (k := w7.heap.size) (heap_alloc_new w7 _) id; have f0 := free_blk hx8 0; have f1 := free_blk hx8 1; have f2 := free_blk hx8 2; have f3 := lt_of_block hx8; have f4 := cell_blk hx8 (j := 0) rfl; have f5 := cell_blk hx8 (j := 1) rfl; have f6 := cell_blk hx8 (j := 2) rfl)))
    all_goals
      go_wp2_with fail
      go_meet
      refine ⟨_, rfl, ?_, Lib.hid ⟨?_, ?_⟩⟩
      · first
          | exact HF7.out.size
          | exact (HF7.out.drew.trans hf8).size
      · first
          | exact heap_alloc_new _ _
          | exact put3 hx8 _ _ _
      · first
          | exact (HF7.out.drew.trans hf8).alloc _
          | exact ((((HF7.out.alloc _).drew.trans hf8).put (.inr HF7.out.size) _ _).put (.inr HF7.out.size) _ _).put (.inr HF7.out.size) _ _
  case rest =>
    obtain ⟨g11, rfl, hge, HC⟩ := hcut
    clear c0 c1 c2 c3 c4 c5 c6 c7 HADD
    go_wp2_with fail
    go_loopg [12] nt (fun m i wr => ∃ jj : Nat, jj ≤ nt ∧ m + jj = nt ∧ i = .int .i64 jj ∧ Hid (wr.heap[g11]? = some (.cells #[.int .i64 (l0 + r.paid.f + (carvedOf T (r.kids.take jj)).f), .int .i64 (l1 + r.paid.e + (carvedOf T (r.kids.take jj)).e), .int .i64 (l2 + r.paid.x + (carvedOf T (r.kids.take jj)).x)] 39 (0, 0)) ∧ Fr (One g11) wc wr))
    case atStart => exact ⟨0, by omega, by omega, rfl, Lib.hid ⟨by simpa [carvedOf, Qt.zero] using HC.out.1, Fr.refl _ _⟩⟩
    case round =>
      obtain ⟨jj, hjj, hm3, rfl, HR3⟩ := hrel
      have HF53 : Hid (Fr No w5 wr) := Lib.hid (HC.out.2.then HR3.out.2 fun i hi (e : i = g11) => by omega)
      obtain ⟨S, hS⟩ : ∃ S, carvedOf T (r.kids.take jj) = S := ⟨_, rfl⟩
      have HSE := Lib.hid hS
      rw [hS] at HR3
      obtain ⟨s0, hs0⟩ : ∃ x, l0 + r.paid.f + S.f = x := ⟨_, rfl⟩
      obtain ⟨s1, hs1⟩ : ∃ x, l1 + r.paid.e + S.e = x := ⟨_, rfl⟩
      obtain ⟨s2, hs2⟩ : ∃ x, l2 + r.paid.x + S.x = x := ⟨_, rfl⟩
      rw [hs0, hs1, hs2] at HR3
      have HS0 := Lib.hid (And.intro hs0 (And.intro hs1 hs2))
      clear hS hs0 hs1 hs2
      by_cases hlt3 : jj < nt
      · obtain ⟨c, hc⟩ : ∃ c, r.kids[jj]? = some c := ⟨_, List.getElem?_eq_getElem (by rw [HNT.out]; exact hlt3)⟩
        obtain ⟨gq, rfl, _⟩ := HL0.out (by omega)
        obtain ⟨rc, hrc, hpar⟩ := HI.out.kid n r c HRR.out (List.mem_of_getElem? hc)
        have HRC := Lib.hid hrc
        have HPAR := Lib.hid hpar
        have HSS := Lib.hid (carved_succ hc hrc)
        rw [HSE.out] at HSS
        have hcell : wr.cell? ⟨gq, jj, none⟩ = some (.int .i64 (c : Int)) := own_cell (own_fr HOW.out HF53.out fun _ _ => id) (by unfold kidv; rw [List.getElem?_map, hc]; rfl)
        have hcg : gq < wr.heap.size := World.block_lt_of_cell? _ _ hcell
        have HBD : Hid (Qsmall ⟨s0, s1, s2⟩ ∧ -9223372036854775808 ≤ s1 + rc.whole.e + 1 ∧ s1 + rc.whole.e + 1 ≤ 9223372036854775807) := Lib.hid (by
          have h1 := (carved_take HI.out r.kids (jj + 1)).1
          rw [HSS.out, ← HI.out.carved n r HRR.out] at h1
          have h2 := (carved_take HI.out r.kids jj).2
          rw [HSE.out] at h2
          have h3 := HI.out.ok n r HRR.out
          have h4 := h3.whole
          have h5 := h3.paid
          have h6 := (HI.out.ok c rc hrc).whole
          have h7 := hlv.out
          have h8 := HLL.out
          have h9 := HS0.out
          have h10 := HLN.out
          unfold Qok at h4 h5 h6
          unfold Qnn at h2 h10
          unfold Qle Qt.plus Qt.child at h1
          unfold Qsmall
          simp only at h1 h9 ⊢
          omega)
        have HADD := Lib.hid (fun w => add_one s0 s1 s2 rc.whole.f rc.whole.e rc.whole.x w HBD.out.1 (HI.out.ok c rc hrc).whole)
        obtain ⟨_, hb0, hb1⟩ := HBD.out
        clear hc hrc hpar
        go_wp2_with fail
        refine (Info_some (H.out.no (HF5.out.trans HF53.out)) c rc HRC.out (HI.out.ok c rc HRC.out)).mono ?_
        rintro e x3 ⟨rfl, hf⟩
        have HX3 := Lib.hid hf
        clear hf
        go_wp2_with (with_reducible show wpList _ _ _ (Oper.mk none (.store 41 _ _) _ _ _ _ :: _) _ _; refine Stop.mk ?_)
        obtain ⟨X3, hX3⟩ : ∃ X3, X3 = x3.alloc (.cells #[.int .i64 0, .int .i64 0, .int .i64 0, .int .i64 0, .int .i64 0, .bool false, .int .u32 0, .int .u32 0, .int .u32 0, .int .u32 0, .int .u32 0, .int .u32 0, .int .u32 0, .int .u32 0, .int .u32 0, .int .i64 0, .int .i64 0, .int .i64 0, .int .i64 0, .int .i64 0, .int .i64 0] 41) := ⟨_, rfl⟩
        rw [← hX3]
        have HY3 : Hid (X3.heap[x3.heap.size]? = some (.cells zero41 41 (0, 0)) ∧ Fr No x3 X3) := Lib.hid (by rw [hX3]; exact ⟨heap_alloc_new x3 _, (Fr.refl _ _).alloc _⟩)
        clear hX3
        refine Stop.go ?_
        refine wpList_store_seg rfl rfl (.tmp 13) (.tmp 69) 41 rfl 21 Try.sizeOf41 x3.heap.size 0 (infocells rc).toList rfl rfl rfl (infocells_one _) ⟨zero41, 41, HY3.out.1, by simp [zero41]⟩ ?_
        obtain ⟨x4, hx4⟩ : ∃ x4, x4 = World.setSeg X3 x3.heap.size 0 (infocells rc).toList := ⟨_, rfl⟩
        rw [← hx4]
        have HX4 : Hid (x4.heap[x3.heap.size]? = some (.cells (infocells rc) 41 (0, 0)) ∧ Fr No x3 x4) := Lib.hid (by rw [hx4]; exact ⟨heap_seg_all HY3.out.1 rfl, HY3.out.2.seg (.inr (Nat.le_refl _)) _ _⟩)
        clear hx4
        obtain ⟨g13, hg13⟩ : ∃ g, x3.heap.size = g := ⟨_, rfl⟩
        rw [hg13] at HX4 ⊢
        have HF4x := Lib.hid (HX3.out.trans HX4.out.2)
        have HG := Lib.hid (HF4x.out.heap HR3.out.1 id)
        have k1 : x4.cell? ⟨g13, 1, none⟩ = some (.int .i64 (n : Int)) := by rw [← HPAR.out]; exact cell_blk HX4.out.1 rfl
        have k15 : x4.cell? ⟨g13, 15, none⟩ = some (.int .i64 rc.whole.f) := cell_blk HX4.out.1 rfl
        have k16 : x4.cell? ⟨g13, 16, none⟩ = some (.int .i64 rc.whole.e) := cell_blk HX4.out.1 rfl
        have k17 : x4.cell? ⟨g13, 17, none⟩ = some (.int .i64 rc.whole.x) := cell_blk HX4.out.1 rfl
        have d0 : x4.cell? ⟨g11, 0, none⟩ = some (.int .i64 s0) := cell_blk HG.out rfl
        have d1 : x4.cell? ⟨g11, 1, none⟩ = some (.int .i64 s1) := cell_blk HG.out rfl
        have d2 : x4.cell? ⟨g11, 2, none⟩ = some (.int .i64 s2) := cell_blk HG.out rfl
        have dl := lt_of_block HG.out
        have kl := lt_of_block HX4.out.1
        clear hcell hcg hg13
        go_wp2_with fail
        refine (HADD.out _).mono ?_
        rintro e x5 ⟨rfl, hf5⟩
        have HX5 := Lib.hid hf5
        have HG5 := Lib.hid (hf5.heap HG.out id)
        have f0 := free_blk HG5.out 0
        have f1 := free_blk HG5.out 1
        have f2 := free_blk HG5.out 2
        have f3 := lt_of_block HG5.out
        have f4 : x5.cell? ⟨g11, 0, none⟩ = some (.int .i64 s0) := cell_blk HG5.out rfl
        have f5 : x5.cell? ⟨g11, 1, none⟩ = some (.int .i64 s1) := cell_blk HG5.out rfl
        have f6 : x5.cell? ⟨g11, 2, none⟩ = some (.int .i64 s2) := cell_blk HG5.out rfl
        clear hf5 k1 k15 k16 k17 d0 d1 d2 dl kl
        go_wp2_with fail
        go_roundg (nt - (jj + 1))
        case rel =>
          refine ⟨jj + 1, by omega, by omega, by go_num, Lib.hid ⟨?_, ?_⟩⟩
          · rw [HSS.out]
            have h := heap_setCell_same _ _ 1 _ _ (.int .i64 (s1 + rc.whole.e + 1)) (put3 HG5.out (.int .i64 (s0 + rc.whole.f)) (.int .i64 (s1 + rc.whole.e)) (.int .i64 (s2 + rc.whole.x)))
            obtain ⟨q0, q1, q2⟩ := HS0.out
            have e0 : l0 + r.paid.f + (S.plus rc.whole.child).f = s0 + rc.whole.f := by simp only [Qt.plus, Qt.child]; omega
            have e1 : l1 + r.paid.e + (S.plus rc.whole.child).e = s1 + rc.whole.e + 1 := by simp only [Qt.plus, Qt.child]; omega
            have e2 : l2 + r.paid.x + (S.plus rc.whole.child).x = s2 + rc.whole.x := by simp only [Qt.plus, Qt.child]; omega
            rw [e0, e1, e2]
            exact h
          · exact ((((HR3.out.2.then (HF4x.out.trans HX5.out) fun i _ h => h.elim).put (.inl (One.self g11)) _ _).put (.inl (One.self g11)) _ _).put (.inl (One.self g11)) _ _).put (.inl (One.self g11)) _ _
        case measure => omega
      · obtain rfl : jj = nt := by omega
        have htk : r.kids.take jj = r.kids := List.take_of_length_le (by rw [HNT.out]; omega)
        have hsum : s0 = r.whole.f ∧ s1 = r.whole.e ∧ s2 = r.whole.x := by
          have h1 := HSE.out
          rw [htk, ← HI.out.carved n r HRR.out] at h1
          have h7 := hlv.out
          have h8 := HLL.out
          have h9 := HS0.out
          rw [← h1] at h9
          omega
        obtain ⟨e0, e1, e2⟩ := hsum
        have hb5 := HF53.out.heap HB5.out id
        have k15 : wr.cell? ⟨g7, 15, none⟩ = some (.int .i64 s0) := by rw [e0]; exact cell_blk hb5 rfl
        have k16 : wr.cell? ⟨g7, 16, none⟩ = some (.int .i64 s1) := by rw [e1]; exact cell_blk hb5 rfl
        have k17 : wr.cell? ⟨g7, 17, none⟩ = some (.int .i64 s2) := by rw [e2]; exact cell_blk hb5 rfl
        have d0 : wr.cell? ⟨g11, 0, none⟩ = some (.int .i64 s0) := cell_blk HR3.out.1 rfl
        have d1 : wr.cell? ⟨g11, 1, none⟩ = some (.int .i64 s1) := cell_blk HR3.out.1 rfl
        have d2 : wr.cell? ⟨g11, 2, none⟩ = some (.int .i64 s2) := cell_blk HR3.out.1 rfl
        have dl := lt_of_block HR3.out.1
        have kl := lt_of_block hb5
        have heq : ∀ w, (binOp .eql 39 (.agg #[.int .i64 s0, .int .i64 s1, .int .i64 s2]) (.agg #[.int .i64 s0, .int .i64 s1, .int .i64 s2])).run Try.prog w = .ok (.bool true) w := fun w => by rw [eq39]; simp
        clear htk e0 e1 e2 hb5
        go_wp2_with fail
        go_ret
        exact ⟨rfl, HF5.out.trans HF53.out⟩
end
end Go.Proofs.Ytdogpkcalflhbaa
