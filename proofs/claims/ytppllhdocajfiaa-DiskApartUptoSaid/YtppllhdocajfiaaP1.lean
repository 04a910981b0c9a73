/- DiskApart: the walk (under way). -/
import Derived.Test.YtppllhdocajfiaaP2
import Derived.Deep.QuietTactic
import Derived.BigQuiet
set_option linter.unusedSimpArgs false
set_option linter.unusedVariables false
namespace Go.Proofs.Ytppllhdocajfiaa
open Go.RowKit

theorem not_u8 (y : UInt8) : ∃ z : UInt8, bits BinOp.xor IntKind.u8 IntKind.u8.max (y.toNat : Int) = (z.toNat : Int) := by
  have h : ∀ n : Fin 256, bits BinOp.xor IntKind.u8 IntKind.u8.max ((n.val : Nat) : Int) = ((255 - n.val : Nat) : Int) := by decide +kernel
  have := h ⟨y.toNat, y.toNat_lt⟩
  refine ⟨UInt8.ofNat (255 - y.toNat), ?_⟩
  rw [this]
  have := y.toNat_lt
  simp
  omega
theorem Try.info5p : (Try.prog.info? 5).map (fun i => (i.zero, i.size, i.bytes)) = some (some (.int .u8 0), 1, 1) := by kernel_rfl

set_option maxHeartbeats 16000000 in
set_option maxRecDepth 100000 in
theorem apart_walk (w : World) (vs : Value) (script : List OpD) (sec : Int) (x : UInt8) (hs : OpsAt w vs script) (hsl : script.length ≤ 2097152) :
    Calls Try.prog 8 #[vs, .agg #[.int .i64 sec, .int .u8 (x.toNat : Int)]] w fun e w' => e = .returned (.bool true) ∧ Fr No w w' := by
  obtain ⟨i5, hi5, hz50, hz51, hz52⟩ := info_parts Try.info5p
  obtain ⟨i34, hi34, hz340, hz341, hz342⟩ := info_parts Try.info34
  obtain ⟨W, hW⟩ : ∃ W, Hid (W = w.alloc (.cells #[.int .i64 sec, .int .u8 (x.toNat : Int)] 30)) := ⟨_, Lib.hid rfl⟩
  have HWF : Hid (Fr No w W) := Lib.hid (by rw [hW.out]; exact (Fr.refl _ w).alloc _)
  have HB := Lib.hid (fresh_any W vs script ⟨hs.1.keep (fun h => by rw [flat_length opcells 7 script (fun _ _ => rfl)]; omega) fun g hg _ => HWF.out.block g hg id, fun o ho => (hs.2 o ho).no HWF.out⟩ hsl)
  have HWS : Hid (W.heap.size = w.heap.size + 1) := Lib.hid (by rw [hW.out]; simp)
  have HPB : Hid (W.heap[w.heap.size]? = some (.cells #[.int .i64 sec, .int .u8 (x.toNat : Int)] 30 (0, 0))) := Lib.hid (by rw [hW.out]; exact heap_alloc_new w _)
  obtain ⟨sa, scap, rfl, _⟩ := hs.1.len
  obtain ⟨sn, hsn⟩ : ∃ n, Hid (script.length = n) := ⟨_, Lib.hid rfl⟩
  rw [hsn.out] at HB hsl ⊢
  clear hs
  go_enter Try.func8, Try.ntmps8
  go_wp2_with fail
  rw [← hW.out]
  refine HB.out.mono ?_
  rintro e w1 ⟨rfl, c0, D0, S0, hu0, ha0⟩
  have S0 := Lib.hid S0
  have HU0 := Lib.hid hu0
  have HPB1 := Lib.hid (S0.out.fr.heap HPB.out id)
  have HPN : Hid (w.heap.size ≠ W.heap.size ∧ w.heap.size ≠ c0 ∧ w.heap.size < W.heap.size) := Lib.hid (by have := HWS.out; have := S0.out.own; omega)
  have q0 : w1.cell? ⟨w.heap.size, 0, none⟩ = some (.int .i64 sec) := cell_blk HPB1.out rfl
  have q0g : w.heap.size < w1.heap.size := lt_of_block HPB1.out
  clear hu0 HB
  go_wp2_with fail
  refine (place_any _ _).mono ?_; rintro e w' ⟨rfl, rfl⟩
  have hs1024 := pl_lt sec
  obtain ⟨s, hs⟩ : ∃ s, pl sec = s := ⟨_, rfl⟩
  rw [hs] at hs1024 ⊢
  clear hs q0
  go_wp2_with fail
  refine (Raw_any S0.out.disk s hs1024).mono ?_
  rintro e w2 ⟨g7, rfl, hg7, hh7, hf2⟩
  have S2 := Lib.hid (S0.out.no hf2)
  have HPB2 := Lib.hid (hf2.heap HPB1.out id)
  have H7 := Lib.hid (And.intro hg7 hh7)
  have q1 : w2.cell? ⟨w.heap.size, 1, none⟩ = some (.int .u8 (x.toNat : Int)) := cell_blk HPB2.out rfl
  have q1g : w.heap.size < w2.heap.size := lt_of_block HPB2.out
  clear hg7 hh7 hf2 q0g
  go_wp2_with fail
  refine (full_any _ x).mono ?_
  rintro e w3 ⟨g9, cap9, rfl, hown3, hf3⟩
  have S3 := Lib.hid (S2.out.no hf3)
  have HPB3 := Lib.hid (hf3.heap HPB2.out id)
  have H73 := Lib.hid (hf3.heap H7.out.2 id)
  have HO3 := Lib.hid hown3
  have HS3 := Lib.hid hf3.size
  have HF3 := Lib.hid hf3
  obtain ⟨R, hR⟩ : ∃ R, Hid (List.replicate 128 x = R) := ⟨_, Lib.hid rfl⟩
  rw [hR.out] at HO3
  have HRL : Hid (R.length = 128) := Lib.hid (by rw [← hR.out]; simp)
  clear hown3 hf3 q1 q1g
  go_wp2_with (with_reducible show wpList _ _ _ (Oper.mk (some 53) _ _ _ _ _ :: _) _ _; refine Stop.mk ?_)
  obtain ⟨W4, hW4⟩ : ∃ W4, W4 = w3.alloc (.cells #[.int .u8 119] 5) := ⟨_, rfl⟩
  rw [← hW4]
  have HA4 : Hid (Fr No w3 W4 ∧ W4.heap[w3.heap.size]? = some (.cells #[.int .u8 119] 5 (0, 0)) ∧ W4.heap.size = w3.heap.size + 1) := Lib.hid (by
    rw [hW4]; exact ⟨(Fr.refl _ w3).alloc _, heap_alloc_new w3 _, by simp⟩)
  clear hW4
  have HO4 := Lib.hid (own_fr HO3.out HA4.out.1 fun _ _ => id)
  refine Stop.go ?_
  refine wpList_append_lies _ rfl (.tmp 51) (.tmp 52) 34 rfl w2.heap.size 5 i5 (.int .u8 0) 1 1 Try.underlying34 hi5 hz50 hz51 hz52 rfl (by omega) (.slice (some ⟨g9, 0, none⟩) 128 cap9) 128 (R.map bv) rfl HO4.out ⟨w3.heap.size, 0, none⟩ 1 1 [.int .u8 119] rfl rfl ?news ?one (by omega) (by unfold maxLen; omega) (by omega) (by have := HS3.out; have := HA4.out.2.2; omega) (w3.heap.size + 1) (by rw [HA4.out.2.2]) ?_
  case news => exact World.news_of_block (cs := #[.int .u8 119]) (t := 5) (fr := (0, 0)) HA4.out.2.1
  case one => intro v hv; simp at hv; subst hv; rfl
  intro g5 cap5 w5 hown5 hgrow hat hlt5
  have HF5 : Hid (Fr No w2 w5) := Lib.hid (by
    have h1 := own_base HO4.out
    exact Fr.grown (((Fr.refl No w2).trans (Fr.refl _ _)).trans (HF3.out.trans HA4.out.1)) hgrow fun k hk => .inr (by simp [Value.ownBlock] at hk; omega))
  have HO5 := Lib.hid hown5
  clear hown5 hgrow hat hlt5
  have S5 := Lib.hid (S2.out.no HF5.out)
  have HPB5 := Lib.hid (HF5.out.heap HPB2.out id)
  have H75 := Lib.hid (HF5.out.heap H7.out.2 id)
  have HG5 : Hid (g5 ≠ W.heap.size ∧ g5 ≠ c0 ∧ w2.heap.size ≤ g5 ∧ 129 ≤ cap5 ∧ g5 < w5.heap.size ∧ g7 ≠ W.heap.size ∧ g7 ≠ c0) := Lib.hid (by
    have h1 := own_base HO5.out; have h2 := S2.out.disk.lt; have h3 := S0.out.disk.lt; have h4 := H7.out.1; omega)
  have HCUT : Hid (w5.ownsRow w2.heap.size 5 1 (.slice (some ⟨g5, 0, none⟩) 128 cap5) 128 (R.map bv)) := Lib.hid (by
    have := own_cut HO5.out (m := 128) (by omega)
    rw [List.take_append_of_le_length (by rw [List.length_map, HRL.out]; omega), List.take_of_length_le (by rw [List.length_map, HRL.out]; omega)] at this
    exact this)
  have KC : Hid (∀ w', Fr (Two W.heap.size c0) w5 w' → w'.cell? ⟨g5, 128, none⟩ = some (.int .u8 119) ∧ w'.cell? ⟨w.heap.size, 1, none⟩ = some (.int .u8 (x.toNat : Int))) := Lib.hid fun w' hf =>
    ⟨own_cell (own_fr HO5.out hf fun g hg => by obtain rfl : g5 = g := by simpa [Value.ownBlock] using hg
                                                exact Two.not HG5.out.1 HG5.out.2.1) (j := 128) (by rw [List.getElem?_append_right (by rw [List.length_map, HRL.out]; omega), List.length_map, HRL.out]; rfl),
      cell_blk (hf.heap HPB5.out (Two.not HPN.out.1 HPN.out.2.1)) rfl⟩
  have KL : Hid (∀ w', Fr (Two W.heap.size c0) w5 w' → LAt w' (.slice (some ⟨g5, 0, none⟩) 128 cap5) (R.map bv)) := Lib.hid fun w' hf =>
    (LAt.of_own (own_fr HCUT.out hf fun g hg => by obtain rfl : g5 = g := by simpa [Value.ownBlock] using hg
                                                   exact Two.not HG5.out.1 HG5.out.2.1)).1
  obtain ⟨k0, k1⟩ := KC.out _ (Fr.refl _ _)
  have hcap5 : 129 ≤ cap5 := HG5.out.2.2.2.1
  have hcap6 : 128 ≤ cap5 := by omega
  have hcap7 : (128 : Int) ≤ (cap5 : Int) := by omega
  have hcap8 : (0 : Int) ≤ 128 := by omega
  have hcap9 : ¬ (cap5 : Int) < 128 := by omega
  have hac : D0.acts ≤ 4611686018427387904 := by omega
  have hcl : D0.cache.length ≤ 1073741824 := by rw [HU0.out.cache]; simp
  have KR : Hid ((R == R) = true) := Lib.hid (by simp)
  go_wp2_with fail
  go_region_held3 (fun w' => w'.cell? ⟨g5, 128, none⟩ = some (.int .u8 119) ∧ w'.cell? ⟨w.heap.size, 1, none⟩ = some (.int .u8 (x.toNat : Int)))
    (first | go_keep | exact KC.out _ (Fr.refl _ _).drew | exact KC.out _ ((Fr.refl _ w5).drew.trans hf6) | exact KC.out _ (((Fr.refl _ w5).drew.trans hf6).then hf7 fun _ _ h => False.elim h))
    (first
      | (go_at_call 16; refine (Write_own (S5.out.no (Fr.refl _ _).drew).disk s hs1024 (own_fr HCUT.out (Fr.refl No w5).drew fun _ _ => id) HG5.out.1 hac hcl _ 0 (write_up HU0.out.down HU0.out.armed _ _)).mono ?_; rintro e w6 ⟨rfl, ⟨c6, hd6, hc6⟩, hf6⟩)
      | (go_at_call 18; refine (full_any _ x).mono ?_; rintro e w7 ⟨gf, capf, rfl, hown7, hf7⟩)
      | (go_at_call 27; refine (same_any _ _ _ R R (KL.out _ (((Fr.refl _ w5).drew.trans hf6).then hf7 fun _ _ h => False.elim h)) (by have := (LAt.of_own hown7).1; rw [hR.out] at this; exact this)).mono ?_; rintro e w' ⟨rfl, rfl⟩; rw [KR.out]))
  obtain ⟨D1, hD1⟩ : ∃ D1 : Dk, Hid (D1 = { D0 with cache := D0.cache ++ [(s, R)], acts := D0.acts + 1 }) := ⟨_, Lib.hid rfl⟩
  rw [← hD1.out] at hd6
  have HU1 : Hid (D1.down = false ∧ D1.armed = false ∧ D1.cache = [(s, R)] ∧ D1.med = D0.med ∧ D1.acts ≤ sn + 2) := Lib.hid (by
    rw [hD1.out]; exact ⟨HU0.out.down, HU0.out.armed, by simp [HU0.out.cache], rfl, by simp only; omega⟩)
  have S7 := Lib.hid ((((Since.start S5.out).no (Fr.refl No w5).drew).op hd6 (hc6.imp id .inr) hf6).no hf7)
  have HF57 : Hid (Fr (Two W.heap.size c0) w5 w7) := Lib.hid S7.out.fr
  have HC6 : Hid (g5 ≠ c6 ∧ g7 ≠ c6 ∧ w.heap.size ≠ c6) := Lib.hid (by
    have h1 := S7.out.cc; have h2 := HG5.out; have h3 := lt_of_block H75.out; have h4 := HPN.out; have h5 := lt_of_block HPB5.out; omega)
  obtain ⟨cur0, hcur0, hall0⟩ : ∃ cur, w7.heap[g5]? = some (.cells cur 5 (0, 0)) ∧ ∀ t, t < 129 → ∃ y : UInt8, cur[t]? = some (bv y) := by
    have ho := own_fr HO5.out HF57.out fun g hg => by obtain rfl : g5 = g := by simpa [Value.ownBlock] using hg
                                                      exact Two.not HG5.out.1 HG5.out.2.1
    rcases ho.2 with ⟨h, _⟩ | ⟨g', cap', cur, h, _, hh, _, _, hs, hx⟩
    · cases h
    · simp only [Value.slice.injEq, Option.some.injEq, Addr.mk.injEq] at h
      obtain ⟨⟨rfl, _⟩, _, rfl⟩ := h
      refine ⟨cur, hh, fun t ht => ?_⟩
      have e : cur.toList[t]? = (R.map bv ++ [.int .u8 119])[t]? := by
        rw [← hx, List.getElem?_take_of_lt (by omega)]
      rw [Array.getElem?_toList] at e
      rw [e]
      by_cases h1 : t < 128
      · obtain ⟨y, hy⟩ : ∃ y, R[t]? = some y := ⟨_, List.getElem?_eq_getElem (by rw [HRL.out]; exact h1)⟩
        exact ⟨y, by rw [List.getElem?_append_left (by rw [List.length_map, HRL.out]; exact h1), List.getElem?_map, hy]; rfl⟩
      · rw [List.getElem?_append_right (by rw [List.length_map, HRL.out]; omega), List.length_map, HRL.out]
        obtain rfl : t = 128 := by omega
        exact ⟨119, rfl⟩
  have HC0 := Lib.hid (And.intro hcur0 hall0)
  clear hcur0 hall0 hd6 hc6 hf6 hf7 hown7 k0 k1 hcap5 hcap6 hcap7 hcap8 hcap9
  go_wp2_with fail
  go_loopg [10] 129 (fun m i wr => ∃ j : Nat, j ≤ 129 ∧ m + j = 129 ∧ i = .int .i64 j ∧ Hid (Fr (One g5) w7 wr ∧ ∃ cur, wr.heap[g5]? = some (.cells cur 5 (0, 0)) ∧ ∀ t, t < 129 → ∃ y : UInt8, cur[t]? = some (bv y)))
  case atStart => exact ⟨0, by omega, by omega, rfl, Lib.hid ⟨Fr.refl _ _, cur0, HC0.out⟩⟩
  case round =>
    obtain ⟨j, hj, hm, rfl, HR⟩ := hrel
    by_cases hlt : j < 129
    · obtain ⟨hf, cur, hcur, hall⟩ := HR.out
      obtain ⟨y, hy⟩ := hall j hlt
      have hc := cell_blk hcur hy
      have hfz := free_blk hcur j
      have hgw : g5 < wr.heap.size := lt_of_block hcur
      have HH := Lib.hid (And.intro hf (And.intro hcur hall))
      clear hf hcur hall hy
      unfold bv at hc
      go_wp2_with fail
      go_roundg (129 - (j + 1))
      case rel =>
        obtain ⟨z, hz⟩ := not_u8 y
        rw [hz]
        refine ⟨j + 1, by omega, by omega, by go_num, Lib.hid ⟨HH.out.1.trans (Fr.set1 _ _ _ _), cur.setIfInBounds j (bv z), heap_setCell_same _ _ _ _ _ _ HH.out.2.1, fun t ht => ?_⟩⟩
        by_cases e : t = j
        · subst e
          obtain ⟨y2, hy2⟩ := HH.out.2.2 t ht
          exact ⟨z, by rw [Array.getElem?_setIfInBounds_self_of_lt (by have := (Array.getElem?_eq_some_iff.1 hy2).1; exact this)]⟩
        · obtain ⟨y2, hy2⟩ := HH.out.2.2 t ht
          exact ⟨y2, by rw [Array.getElem?_setIfInBounds_ne (fun h => e h.symm)]; exact hy2⟩
      case measure => omega
    · obtain rfl : j = 129 := by omega
      obtain ⟨hf9, _⟩ := HR.out
      have S9 := Lib.hid (S7.out.st.other hf9 HG5.out.1 HC6.out.1 (by have := HG5.out; have := S2.out.size; omega))
      have HPB9 := Lib.hid (hf9.heap (HF57.out.heap HPB5.out (Two.not HPN.out.1 HPN.out.2.1)) (One.not (by have := HG5.out; have := S2.out.size; have := HPN.out; omega)))
      have H79 := Lib.hid (hf9.heap (HF57.out.heap H75.out (Two.not HG5.out.2.2.2.2.2.1 HG5.out.2.2.2.2.2.2)) (One.not (by have := HG5.out; have := lt_of_block H7.out.2; omega)))
      clear hf9 HR HC0
      obtain ⟨w9, hw9⟩ : ∃ w9, w9 = wr := ⟨_, rfl⟩
      rw [← hw9] at S9 HPB9 H79 ⊢
      clear hw9
      obtain ⟨M, hM⟩ : ∃ M, D0.med s = M := ⟨_, rfl⟩
      have HM := Lib.hid hM
      have HML : Hid (M.length = 128) := Lib.hid (by rw [← hM]; exact S2.out.disk.ok.med s)
      have HRD : Hid (D1.read s = R) := Lib.hid (by unfold Dk.read; rw [HU1.out.2.2.1]; simp [lastOf])
      clear hM
      go_wp2_with (with_reducible show wpList _ _ _ (Oper.mk (some 89) _ _ _ _ _ :: _) _ _; refine Stop.mk ?_)
      refine Stop.go ?_
      refine wpList_make_full _ rfl _ _ 42 rfl w9.heap.size 34 i34 (.slice none 0 0) 1 Try.underlying42 hi34 hz340 hz341 _ _ _ _ 4 rfl rfl rfl rfl ?bytes ?maxlen ?base ?_
      case bytes => rw [hz342]; omega
      case maxlen => unfold maxLen; omega
      case base => exact Nat.le_refl _
      intro w10 hown10 hg10
      have H10 : Hid (Four w9 w10 [] []) := Lib.hid (by
        have hf : Fr No w9 w10 := Fr.grown (Fr.refl _ _) hg10 fun k h => by cases h
        rcases hown10.2 with ⟨h, _⟩ | ⟨g, cp, cur, h, _, hh, _, _, hsz, _⟩
        · cases h
        · simp only [Value.slice.injEq, Option.some.injEq, Addr.mk.injEq] at h
          obtain ⟨⟨rfl, _⟩, _, rfl⟩ := h
          exact ⟨⟨cur, hh, by simpa using hsz, fun k g h => by simp at h⟩, rfl, fun k g X h => by simp at h, List.nodup_nil, fun g h => by simp at h, hf⟩)
      clear hown10 hg10
      go_wp2_with fail
      go_loopg [12] 4 (fun m i wr => ∃ j : Nat, j ≤ 4 ∧ m + j = 4 ∧ i = .int .i64 j ∧ Hid (∃ gs, gs.length = j ∧ Four w9 wr ([R, M, R, M].take j) gs))
      case atStart => exact ⟨0, by omega, by omega, rfl, Lib.hid ⟨[], rfl, H10.out⟩⟩
      case round =>
        obtain ⟨j, hj, hm, rfl, HR⟩ := hrel
        by_cases hlt : j < 4
        · obtain ⟨gs, hgl, h4⟩ := HR.out
          clear HR
          rcases (by omega : j = 0 ∨ j = 1 ∨ j = 2 ∨ j = 3) with rfl | rfl | rfl | rfl
          · have H4 := Lib.hid h4
            have H4l := Lib.hid hgl
            obtain ⟨cur, hc, hsz, _⟩ := h4.cur
            obtain ⟨z, hz⟩ : ∃ z, cur[0]? = some z := ⟨_, Array.getElem?_eq_getElem (by omega)⟩
            have HCU := Lib.hid (And.intro hc hz)
            clear h4 hgl hc hsz hz
            go_wp2_with fail
            refine (Read_up (S9.out.no H4.out.fr).disk s hs1024 HU1.out.1 (by rw [HU1.out.2.2.1]; simp)).mono ?_
            rintro e w11 ⟨g11, rfl, hg11, hh11, hf11⟩
            rw [HRD.out] at hh11
            have G11 := Lib.hid (And.intro hg11 (And.intro hh11 hf11))
            have hcz := cell_blk (hf11.heap HCU.out.1 id) HCU.out.2
            have hfz := free_blk (hf11.heap HCU.out.1 id) 0
            have htw : w9.heap.size < w11.heap.size := lt_of_block (hf11.heap HCU.out.1 id)
            clear hg11 hh11 hf11
            go_wp2_with fail
            go_roundg (4 - (0 + 1))
            case rel =>
              have := H4.out.push (by rw [H4l.out]; omega) G11.out.2.2 G11.out.1 HRL.out G11.out.2.1
              rw [H4l.out] at this
              exact ⟨0 + 1, by omega, by omega, rfl, Lib.hid ⟨gs ++ [g11], by rw [List.length_append, H4l.out]; rfl, this⟩⟩
            case measure => omega
          · have H4 := Lib.hid h4
            have H4l := Lib.hid hgl
            obtain ⟨cur, hc, hsz, _⟩ := h4.cur
            obtain ⟨z, hz⟩ : ∃ z, cur[1]? = some z := ⟨_, Array.getElem?_eq_getElem (by omega)⟩
            have HCU := Lib.hid (And.intro hc hz)
            clear h4 hgl hc hsz hz
            go_wp2_with fail
            refine (Raw_any (S9.out.no H4.out.fr).disk s hs1024).mono ?_
            rintro e w11 ⟨g11, rfl, hg11, hh11, hf11⟩
            rw [HU1.out.2.2.2.1, HM.out] at hh11
            have G11 := Lib.hid (And.intro hg11 (And.intro hh11 hf11))
            have hcz := cell_blk (hf11.heap HCU.out.1 id) HCU.out.2
            have hfz := free_blk (hf11.heap HCU.out.1 id) 1
            have htw : w9.heap.size < w11.heap.size := lt_of_block (hf11.heap HCU.out.1 id)
            clear hg11 hh11 hf11
            go_wp2_with fail
            go_roundg (4 - (1 + 1))
            case rel =>
              have := H4.out.push (by rw [H4l.out]; omega) G11.out.2.2 G11.out.1 HML.out G11.out.2.1
              rw [H4l.out] at this
              exact ⟨1 + 1, by omega, by omega, rfl, Lib.hid ⟨gs ++ [g11], by rw [List.length_append, H4l.out]; rfl, this⟩⟩
            case measure => omega
          · have H4 := Lib.hid h4
            have H4l := Lib.hid hgl
            obtain ⟨cur, hc, hsz, _⟩ := h4.cur
            obtain ⟨z, hz⟩ : ∃ z, cur[2]? = some z := ⟨_, Array.getElem?_eq_getElem (by omega)⟩
            have HCU := Lib.hid (And.intro hc hz)
            clear h4 hgl hc hsz hz
            go_wp2_with fail
            refine (Read_up (S9.out.no H4.out.fr).disk s hs1024 HU1.out.1 (by rw [HU1.out.2.2.1]; simp)).mono ?_
            rintro e w11 ⟨g11, rfl, hg11, hh11, hf11⟩
            rw [HRD.out] at hh11
            have G11 := Lib.hid (And.intro hg11 (And.intro hh11 hf11))
            have hcz := cell_blk (hf11.heap HCU.out.1 id) HCU.out.2
            have hfz := free_blk (hf11.heap HCU.out.1 id) 2
            have htw : w9.heap.size < w11.heap.size := lt_of_block (hf11.heap HCU.out.1 id)
            clear hg11 hh11 hf11
            go_wp2_with fail
            go_roundg (4 - (2 + 1))
            case rel =>
              have := H4.out.push (by rw [H4l.out]; omega) G11.out.2.2 G11.out.1 HRL.out G11.out.2.1
              rw [H4l.out] at this
              exact ⟨2 + 1, by omega, by omega, rfl, Lib.hid ⟨gs ++ [g11], by rw [List.length_append, H4l.out]; rfl, this⟩⟩
            case measure => omega
          · have H4 := Lib.hid h4
            have H4l := Lib.hid hgl
            obtain ⟨cur, hc, hsz, _⟩ := h4.cur
            obtain ⟨z, hz⟩ : ∃ z, cur[3]? = some z := ⟨_, Array.getElem?_eq_getElem (by omega)⟩
            have HCU := Lib.hid (And.intro hc hz)
            clear h4 hgl hc hsz hz
            go_wp2_with fail
            refine (Raw_any (S9.out.no H4.out.fr).disk s hs1024).mono ?_
            rintro e w11 ⟨g11, rfl, hg11, hh11, hf11⟩
            rw [HU1.out.2.2.2.1, HM.out] at hh11
            have G11 := Lib.hid (And.intro hg11 (And.intro hh11 hf11))
            have hcz := cell_blk (hf11.heap HCU.out.1 id) HCU.out.2
            have hfz := free_blk (hf11.heap HCU.out.1 id) 3
            have htw : w9.heap.size < w11.heap.size := lt_of_block (hf11.heap HCU.out.1 id)
            clear hg11 hh11 hf11
            go_wp2_with fail
            go_roundg (4 - (3 + 1))
            case rel =>
              have := H4.out.push (by rw [H4l.out]; omega) G11.out.2.2 G11.out.1 HML.out G11.out.2.1
              rw [H4l.out] at this
              exact ⟨3 + 1, by omega, by omega, rfl, Lib.hid ⟨gs ++ [g11], by rw [List.length_append, H4l.out]; rfl, this⟩⟩
            case measure => omega
        · obtain rfl : j = 4 := by omega
          obtain ⟨gs, hgl, h4⟩ := HR.out
          have H4 := Lib.hid h4
          have H4l := Lib.hid hgl
          clear h4 hgl HR
          obtain ⟨a0, a1, a2, a3, rfl⟩ : ∃ a0 a1 a2 a3, gs = [a0, a1, a2, a3] := by
            match gs, H4l.out with
            | [a0, a1, a2, a3], _ => exact ⟨a0, a1, a2, a3, rfl⟩
          have KC2 : Hid (∀ w', Fr No wr w' → w'.cell? ⟨w9.heap.size, 0, none⟩ = some (.slice (some ⟨a0, 0, none⟩) 128 128) ∧ w'.cell? ⟨w9.heap.size, 1, none⟩ = some (.slice (some ⟨a1, 0, none⟩) 128 128) ∧ w'.cell? ⟨w.heap.size, 1, none⟩ = some (.int .u8 (x.toNat : Int))) := Lib.hid fun w' hf => by
            obtain ⟨cur, hc, _, hk⟩ := H4.out.cur
            have hb := hf.heap hc id
            exact ⟨cell_blk hb (hk 0 a0 rfl), cell_blk hb (hk 1 a1 rfl), cell_blk (hf.heap (H4.out.fr.heap HPB9.out id) id) rfl⟩
          have KL2 : Hid (∀ w', Fr No wr w' → LAt w' (.slice (some ⟨a0, 0, none⟩) 128 128) (R.map bv) ∧ LAt w' (.slice (some ⟨a1, 0, none⟩) 128 128) (M.map bv) ∧ LAt w' (.slice (some ⟨g7, 0, none⟩) 128 128) (M.map bv)) := Lib.hid fun w' hf => by
            have h0 := H4.out.rows 0 a0 R rfl rfl
            have h1 := H4.out.rows 1 a1 M rfl rfl
            have h7 := H79.out
            rw [HM.out] at h7
            exact ⟨blk_LAt (hf.heap h0.2 id) h0.1, blk_LAt (hf.heap h1.2 id) h1.1, blk_LAt (hf.heap (H4.out.fr.heap h7 id) id) HML.out⟩
          have KF : Hid (∀ (w' : World) (v : Value) (bs : Nat), w'.ownsRow bs 5 1 v 128 ((List.replicate 128 x).map bv) → LAt w' v (R.map bv)) := Lib.hid fun w' v bs h => by
            have := (LAt.of_own h).1
            rw [hR.out] at this
            exact this
          have KM : Hid ((M == M) = true) := Lib.hid (by simp)
          obtain ⟨k0, k1, k2⟩ := KC2.out _ (Fr.refl _ _)
          have kg0 : w9.heap.size < wr.heap.size := World.block_lt_of_cell? _ _ k0
          have kg2 : w.heap.size < wr.heap.size := World.block_lt_of_cell? _ _ k2
          go_wp2_with fail
          go_region_held3 (fun w' => w'.cell? ⟨w9.heap.size, 0, none⟩ = some (.slice (some ⟨a0, 0, none⟩) 128 128) ∧ w'.cell? ⟨w9.heap.size, 1, none⟩ = some (.slice (some ⟨a1, 0, none⟩) 128 128) ∧ w'.cell? ⟨w.heap.size, 1, none⟩ = some (.int .u8 (x.toNat : Int)))
            (first | go_keep | exact KC2.out _ (Fr.refl _ _).drew | exact KC2.out _ ((Fr.refl _ wr).drew.trans hf12))
            (first
              | (go_at_call 18; refine (full_any _ x).mono ?_; rintro e w12 ⟨gf2, capf2, rfl, hown12, hf12⟩)
              | (go_at_call_of 27 (Value.slice (some ⟨a0, 0, none⟩) 128 128); refine (same_any _ _ _ R R (KL2.out _ ((Fr.refl _ wr).drew.trans hf12)).1 (KF.out _ _ _ hown12)).mono ?_; rintro e w' ⟨rfl, rfl⟩; rw [KR.out])
              | (go_at_call_of 27 (Value.slice (some ⟨a1, 0, none⟩) 128 128); refine (same_any _ _ _ M M (KL2.out _ ((Fr.refl _ wr).drew.trans hf12)).2.1 (KL2.out _ ((Fr.refl _ wr).drew.trans hf12)).2.2).mono ?_; rintro e w' ⟨rfl, rfl⟩; rw [KM.out]))
          have HF12 := Lib.hid ((Fr.refl No wr).drew.trans hf12)
          clear k0 k1 k2 kg0 kg2 hown12 hf12
          go_wp2_with fail
          go_loopg [13] 4 (fun m i wr => ∃ j : Nat, j ≤ 4 ∧ m + j = 4 ∧ i = .int .i64 j ∧ Hid (∃ Xs, Four w9 wr Xs [a0, a1, a2, a3] ∧ ∀ q, q < j → Xs[q]? = some (mark q)))
          case atStart => exact ⟨0, by omega, by omega, rfl, Lib.hid ⟨_, H4.out.no HF12.out, fun q hq => by omega⟩⟩
          case round =>
            obtain ⟨j, hj, hm, rfl, HR⟩ := hrel
            by_cases hlt : j < 4
            · obtain ⟨Xs0, h40, hq0⟩ := HR.out
              obtain ⟨X0, hX0⟩ : ∃ X0, Xs0[j]? = some X0 := ⟨_, List.getElem?_eq_getElem (by have := h40.len; simp at this; omega)⟩
              obtain ⟨g, hgj⟩ : ∃ g, [a0, a1, a2, a3][j]? = some g := ⟨_, List.getElem?_eq_getElem (by simp; omega)⟩
              have HGJ := Lib.hid hgj
              have I0 := Lib.hid (And.intro h40 (And.intro hq0 hX0))
              clear HR h40 hq0 hX0 hgj
              go_wp2_with fail
              go_loopg [14] 128 (fun m i wr => ∃ t : Nat, t ≤ 128 ∧ m + t = 128 ∧ i = .int .i64 t ∧ Hid (∃ Xs X, Four w9 wr Xs [a0, a1, a2, a3] ∧ (∀ q, q < j → Xs[q]? = some (mark q)) ∧ Xs[j]? = some X ∧ ∀ u, u < t → X[u]? = some (UInt8.ofNat (129 + j))))
              case atStart => exact ⟨0, by omega, by omega, rfl, Lib.hid ⟨Xs0, X0, I0.out.1, I0.out.2.1, I0.out.2.2, fun u hu => by omega⟩⟩
              case round =>
                obtain ⟨t, ht, hmt, rfl, HI⟩ := hrel
                by_cases hlt2 : t < 128
                · obtain ⟨Xs, X, h4, hq, hX, hu⟩ := HI.out
                  have hr := h4.rows j g X HGJ.out hX
                  obtain ⟨cur, hc, hsz, hk⟩ := h4.cur
                  have c0 := cell_blk hc (hk j g HGJ.out)
                  have c0g : w9.heap.size < wr.heap.size := lt_of_block hc
                  obtain ⟨z, hz⟩ : ∃ z, X[t]? = some z := ⟨_, List.getElem?_eq_getElem (by omega)⟩
                  have c1 := cell_blk hr.2 (j := t) (v := bv z) (by simp [hz])
                  have c1f := free_blk hr.2 t
                  have c1g : g < wr.heap.size := lt_of_block hr.2
                  have HH := Lib.hid (And.intro h4 (And.intro hq (And.intro hX (And.intro hu hr.1))))
                  clear h4 hq hX hu hr hc hsz hk hz HI
                  go_wp2_with fail
                  go_roundg (128 - (t + 1))
                  case rel =>
                    have hbv : Value.int .u8 (129 + (j : Int)) = bv (UInt8.ofNat (129 + j)) := by
                      have h8 : (UInt8.ofNat (129 + j)).toNat = 129 + j := by rw [UInt8.toNat_ofNat']; omega
                      unfold bv
                      rw [h8]
                      congr 1
                    have hw := HH.out.1.write (i := t) (y := UInt8.ofNat (129 + j)) HGJ.out HH.out.2.2.1
                    have hjl : j < Xs.length := (List.getElem?_eq_some_iff.1 HH.out.2.2.1).1
                    refine ⟨t + 1, by omega, by omega, by go_num, Lib.hid ⟨Xs.set j (X.set t (UInt8.ofNat (129 + j))), X.set t (UInt8.ofNat (129 + j)), ?_, fun q hq => by rw [List.getElem?_set_ne (by omega)]; exact HH.out.2.1 q hq, by rw [List.getElem?_set_self hjl], fun u hu => ?_⟩⟩
                    · first
                        | exact hw
                        | (rw [hbv]; exact hw)
                    · by_cases e : u = t
                      · subst e; rw [List.getElem?_set_self (by rw [HH.out.2.2.2.2]; omega)]
                      · rw [List.getElem?_set_ne (fun h => e h.symm)]; exact HH.out.2.2.2.1 u (by omega)
                  case measure => omega
                · obtain rfl : t = 128 := by omega
                  obtain ⟨Xs, X, h4, hq, hX, hu⟩ := HI.out
                  have hXm : X = mark j := by
                    have hl := (h4.rows j g X HGJ.out hX).1
                    apply List.ext_getElem?
                    intro u
                    by_cases h : u < 128
                    · rw [hu u h]; unfold mark; rw [List.getElem?_replicate, if_pos h]
                    · rw [List.getElem?_eq_none (by omega), List.getElem?_eq_none (by unfold mark; simp; omega)]
                  rw [hXm] at hX
                  have HN := Lib.hid (show ∃ Xs, Four w9 wr Xs [a0, a1, a2, a3] ∧ ∀ q, q < j + 1 → Xs[q]? = some (mark q) from ⟨Xs, h4, fun q hq' => by
                    rcases (by omega : q < j ∨ q = j) with h | rfl
                    · exact hq q h
                    · exact hX⟩)
                  clear h4 hq hX hu hXm HI
                  go_wp2_with fail
                  go_roundg (4 - (j + 1))
                  case rel => exact ⟨j + 1, by omega, by omega, by go_num, HN⟩
                  case measure => omega
            · obtain rfl : j = 4 := by omega
              obtain ⟨Xs, h4, hq⟩ := HR.out
              have HE0 := Lib.hid (h4.ends hq)
              clear h4 hq HR
              go_wp2_with fail
              go_loopg [15] 4 (fun m i wr => ∃ j : Nat, j ≤ 4 ∧ m + j = 4 ∧ i = .int .i64 j ∧ Hid (∃ v, Ends w9 wr j v))
              case atStart => exact ⟨0, by omega, by omega, rfl, HE0⟩
              case round =>
                obtain ⟨j, hj, hm, rfl, HR⟩ := hrel
                by_cases hlt : j < 4
                · obtain ⟨v, hE⟩ := HR.out
                  obtain ⟨g, cap, hv, hown⟩ := hE.row hlt
                  obtain ⟨cur, hc, hsz, hk⟩ := hE.cur
                  have c0 := cell_blk hc ((hk j hlt).trans (congrArg some hv))
                  have c0g : w9.heap.size < wr.heap.size := lt_of_block hc
                  have H0 := Lib.hid (And.intro hE (And.intro hv hown))
                  clear hE hv hown hc hsz hk HR
                  go_wp2_with (with_reducible show wpList _ _ _ (Oper.mk (some 171) _ _ _ _ _ :: _) _ _; refine Stop.mk ?_)
                  obtain ⟨W, hW⟩ : ∃ W, W = wr.alloc (.cells #[.int .u8 (145 + (j : Int)), .int .u8 (145 + (j : Int))] 5) := ⟨_, rfl⟩
                  rw [← hW]
                  have HA : Hid (Fr No wr W ∧ W.heap[wr.heap.size]? = some (.cells #[.int .u8 (145 + (j : Int)), .int .u8 (145 + (j : Int))] 5 (0, 0)) ∧ W.heap.size = wr.heap.size + 1) := Lib.hid (by
                    rw [hW]; exact ⟨(Fr.refl _ wr).alloc _, heap_alloc_new wr _, by simp⟩)
                  clear hW c0
                  have HO : Hid (W.ownsRow (w9.heap.size + 1) 5 1 (.slice (some ⟨g, 0, none⟩) 128 cap) 128 ((mark j).map bv)) := Lib.hid (by
                    have := own_fr H0.out.2.2 HA.out.1 fun _ _ => id
                    rw [H0.out.2.1] at this
                    exact this)
                  refine Stop.go ?_
                  refine wpList_append_lies _ rfl (.tmp 163) (.tmp 170) 34 rfl (w9.heap.size + 1) 5 i5 (.int .u8 0) 1 1 Try.underlying34 hi5 hz50 hz51 hz52 rfl (by omega) (.slice (some ⟨g, 0, none⟩) 128 cap) 128 ((mark j).map bv) rfl HO.out ⟨wr.heap.size, 0, none⟩ 2 2 [.int .u8 (145 + (j : Int)), .int .u8 (145 + (j : Int))] rfl rfl ?newsE ?oneE (by omega) (by unfold maxLen; omega) (by omega) (by have := HA.out.2.2; omega) (wr.heap.size + 1) (by rw [HA.out.2.2]) ?_
                  case newsE => exact World.news_of_block (cs := #[.int .u8 (145 + (j : Int)), .int .u8 (145 + (j : Int))]) (t := 5) (fr := (0, 0)) HA.out.2.1
                  case oneE => intro u hu; simp at hu; subst hu; rfl
                  intro g' cap' w' hown' hgrow hat hlt'
                  have hgr : W.grownBy w' (v j).ownBlock := by rw [H0.out.2.1]; exact hgrow
                  have hA := H0.out.1.after hlt HA.out.1 hgr
                  have c1 := hA.1
                  have c1f := hA.2.1
                  have c1g := hA.2.2
                  have HS := Lib.hid (H0.out.1.step hlt H0.out.2.1 HA.out.1 hown' hgr (by rw [H0.out.2.1, HA.out.2.2]; exact hat))
                  clear hA hown' hgrow hat hgr
                  go_wp2_with fail
                  go_roundg (4 - (j + 1))
                  case rel => exact ⟨j + 1, by omega, by omega, by go_num, Lib.hid ⟨_, HS.out⟩⟩
                  case measure => omega
                · obtain rfl : j = 4 := by omega
                  obtain ⟨v, hE⟩ := HR.out
                  have HE := Lib.hid hE
                  clear hE HR
                  have HF : Hid (Fr No w9 wr) := Lib.hid HE.out.fr
                  have hcl1 : D1.cache.length = 1 := by rw [HU1.out.2.2.1]; rfl
                  have HC1 := Lib.hid hcl1
                  clear hcl1
                  go_wp2_with fail
                  refine (Pending_any (S9.out.no HF.out).disk (by rw [HC1.out]; omega)).mono ?_
                  rintro e w20 ⟨v20, rfl, hown20, hf20⟩
                  obtain ⟨a20, cap20, rfl, h20⟩ := own_slice hown20
                  rw [HC1.out] at hown20 h20 ⊢
                  obtain ⟨g20, rfl, _⟩ := h20 (by omega)
                  have HP20 : Hid (pends D1.cache = [.int .i64 (s : Int)]) := Lib.hid (by rw [HU1.out.2.2.1]; rfl)
                  rw [HP20.out] at hown20
                  have HO20 := Lib.hid hown20
                  have HF20 := Lib.hid hf20
                  clear hown20 hf20 h20
                  go_wp2_with fail
                  refine (Pending_any (S9.out.no (HF.out.trans HF20.out)).disk (by rw [HC1.out]; omega)).mono ?_
                  rintro e w21 ⟨v21, rfl, hown21, hf21⟩
                  obtain ⟨a21, cap21, rfl, h21⟩ := own_slice hown21
                  rw [HC1.out] at hown21 h21 ⊢
                  obtain ⟨g21, rfl, _⟩ := h21 (by omega)
                  rw [HP20.out] at hown21
                  have HO21 := Lib.hid hown21
                  have HF21 := Lib.hid hf21
                  have p0 := own_cell (own_fr HO20.out hf21 fun _ _ => id) (j := 0) rfl
                  have p0f := own_free (own_fr HO20.out hf21 fun _ _ => id) 0
                  have p0g : g20 < w21.heap.size := World.block_lt_of_cell? _ _ p0
                  clear hown21 hf21 h21
                  go_wp2_with (with_reducible show wpList _ _ _ (Oper.mk (some 190) _ _ _ _ _ :: _) _ _; refine Stop.mk ?_)
                  obtain ⟨W22, hW22⟩ : ∃ W, W = (w21.setCell ⟨g20, 0, none⟩ (.int .i64 (-7))).alloc (.cells #[.int .i64 (-8)] 3) := ⟨_, rfl⟩
                  rw [← hW22]
                  have HB20 : Hid (wr.heap.size ≤ g20 ∧ g20 < w20.heap.size ∧ w20.heap.size ≤ g21 ∧ g21 < w21.heap.size) := Lib.hid (by have := own_base HO20.out; have := own_base HO21.out; omega)
                  have HA22 : Hid (Fr (One g20) w21 W22 ∧ W22.heap[w21.heap.size]? = some (.cells #[.int .i64 (-8)] 3 (0, 0)) ∧ W22.ownsRow wr.heap.size 3 1 (.slice (some ⟨g20, 0, none⟩) 1 cap20) 1 [.int .i64 (-7)]) := Lib.hid (by
                    rw [hW22]
                    refine ⟨(Fr.set1 _ _ _ _).alloc _, ?_, (own_set0 _ (own_fr HO20.out HF21.out fun _ _ => id)).alloc _⟩
                    have := heap_alloc_new (w21.setCell ⟨g20, 0, none⟩ (.int .i64 (-7))) (.cells #[.int .i64 (-8)] 3)
                    simpa using this)
                  clear hW22 p0 p0f p0g
                  refine Stop.go ?_
                  refine append_marked rfl (.tmp 188) (.tmp 189) rfl wr.heap.size g20 cap20 (.int .i64 (-7)) (.int .i64 (-8)) rfl HA22.out.2.2 ⟨w21.heap.size, 0, none⟩ 1 rfl ?newsP rfl ?_
                  case newsP => exact World.news_of_block (cs := #[.int .i64 (-8)]) (t := 3) (fr := (0, 0)) HA22.out.2.1 0 _ rfl
                  intro g22 cap22 w22 m0 m1 hf22 hor hlt22
                  have HF22 : Hid (Fr No w9 w22) := Lib.hid (((HF.out.trans HF20.out).trans HF21.out).then (HA22.out.1.trans hf22) fun i hi hx => by
                    have e : i = g20 := hx
                    have := HB20.out; have := HF.out.size; omega)
                  have HP22 : Hid (∀ w', Fr No w22 w' → w'.cell? ⟨g22, 0, none⟩ = some (.int .i64 (-7)) ∧ w'.cell? ⟨g20, 0, none⟩ = some (.int .i64 (-7)) ∧ w'.cell? ⟨g21, 0, none⟩ = some (.int .i64 (s : Int))) := Lib.hid fun w' hf =>
                    ⟨(hf.cell (p := ⟨g22, 0, none⟩) (World.block_lt_of_cell? _ _ m0) id).trans m0, (hf.cell (p := ⟨g20, 0, none⟩) (World.block_lt_of_cell? _ _ m1) id).trans m1,
                      own_cell (own_fr (own_fr HO21.out (HA22.out.1.trans hf22) fun g hg => One.not (by have := HB20.out; simp [Value.ownBlock] at hg; omega)) hf fun _ _ => id) (j := 0) rfl⟩
                  have HFX := Lib.hid hf22
                  clear m0 m1 hf22 hor hlt22
                  go_wp2_with fail
                  refine (Pending_any (S9.out.no HF22.out).disk (by rw [HC1.out]; omega)).mono ?_
                  rintro e w23 ⟨v23, rfl, hown23, hf23⟩
                  obtain ⟨a23, cap23, rfl, h23⟩ := own_slice hown23
                  rw [HC1.out] at hown23 h23 ⊢
                  obtain ⟨g23, rfl, _⟩ := h23 (by omega)
                  rw [HP20.out] at hown23
                  have HO23 := Lib.hid hown23
                  have HF23 := Lib.hid hf23
                  have HFR : Hid (Fr No w9 w23) := Lib.hid (HF22.out.trans HF23.out)
                  clear hown23 hf23 h23
                  obtain ⟨F, hF⟩ : ∃ F, D1.flat = F := ⟨_, rfl⟩
                  have HFD := Lib.hid hF
                  have HFL : Hid (F.length = 131072) := Lib.hid (by rw [← hF]; exact flat_len (S9.out.no HF.out).disk.ok)
                  obtain ⟨y0, hy0⟩ : ∃ y0, M[0]? = some y0 := ⟨_, List.getElem?_eq_getElem (by rw [HML.out]; omega)⟩
                  have HY : Hid (F[s * 128]? = some y0) := Lib.hid (by
                    have := flat_at (S9.out.no HF.out).disk.ok hs1024 (j := 0) (by omega)
                    rw [hF, HU1.out.2.2.2.1, HM.out, hy0] at this
                    exact this)
                  have HYM := Lib.hid hy0
                  clear hF hy0
                  go_wp2_with fail
                  refine (Medium_any (S9.out.no (HF22.out.trans HF23.out)).disk).mono ?_
                  rintro e w24 ⟨gm, rfl, hgm, hhm, hf24⟩
                  rw [HFD.out] at hhm
                  have HM24 := Lib.hid (And.intro hgm (And.intro hhm hf24))
                  clear hgm hhm hf24
                  go_wp2_with fail
                  refine (Medium_any (S9.out.no ((HF22.out.trans HF23.out).trans HM24.out.2.2)).disk).mono ?_
                  rintro e w25 ⟨go, rfl, hgo, hho, hf25⟩
                  rw [HFD.out] at hho
                  have HM25 := Lib.hid (And.intro hgo (And.intro hho hf25))
                  obtain ⟨k0, k1, k2⟩ := HP22.out _ ((HF23.out.trans HM24.out.2.2).trans hf25)
                  have hyF : (F.map bv)[s * 128]? = some (bv y0) := by rw [List.getElem?_map, HY.out]; rfl
                  have c0 := cell_blk (hf25.heap HM24.out.2.1 id) (j := s * 128) (v := bv y0) (by simpa using hyF)
                  have c0f := free_blk (hf25.heap HM24.out.2.1 id) (s * 128)
                  have c0g : gm < w25.heap.size := lt_of_block (hf25.heap HM24.out.2.1 id)
                  have kg0 : g22 < w25.heap.size := World.block_lt_of_cell? _ _ k0
                  have kg1 : g20 < w25.heap.size := World.block_lt_of_cell? _ _ k1
                  have kg2 : g21 < w25.heap.size := World.block_lt_of_cell? _ _ k2
                  have hsk : s * 128 < 131072 := by omega
                  have hskI : (s : Int) * 128 < 131072 := by omega
                  clear hgo hho hf25 hyF
                  go_wp2_with fail
                  obtain ⟨w26, hw26⟩ : ∃ w', w' = w25.setCell ⟨gm, s * 128, none⟩ (bv 60) := ⟨_, rfl⟩
                  have hb60 : Value.int .u8 60 = bv 60 := rfl
                  rw [hb60, ← hw26]
                  clear hb60
                  have HM26 : Hid (w26.heap[gm]? = some (.cells ((F.set (s * 128) 60).map bv).toArray 5 (0, 0)) ∧ w26.heap[go]? = some (.cells (F.map bv).toArray 5 (0, 0)) ∧ Fr No w23 w26) := Lib.hid (by
                    rw [hw26]
                    have h1 := HM24.out.1
                    have h2 := HM25.out.1
                    have h3 := HM24.out.2.2.size
                    have h4 := lt_of_block HM24.out.2.1
                    exact ⟨set_blk 60 (HM25.out.2.2.heap HM24.out.2.1 id), (Fr.set1 _ _ _ _).heap HM25.out.2.1 (One.not (by omega)), (HM24.out.2.2.trans HM25.out.2.2).put (.inr (by omega)) _ _⟩)
                  clear hw26 c0 c0f c0g k0 k1 k2 kg0 kg1 kg2
                  refine (Medium_any (S9.out.no (HFR.out.trans HM26.out.2.2)).disk).mono ?_
                  rintro e w27 ⟨gn, rfl, hgn, hhn, hf27⟩
                  rw [HFD.out] at hhn
                  have HM27 : Hid (w26.heap.size ≤ gn ∧ w27.heap[gn]? = some (.cells (F.map bv).toArray 5 (0, 0)) ∧ Fr No w23 w27) := Lib.hid ⟨hgn, hhn, HM26.out.2.2.trans hf27⟩
                  have k0 : w27.cell? ⟨gm, s * 128, none⟩ = some (.int .u8 60) := cell_blk (hf27.heap HM26.out.1 id) (by
                    rw [List.getElem?_toArray, List.getElem?_map, List.getElem?_set_self (by rw [HFL.out]; omega)]; rfl)
                  have k1 : w27.cell? ⟨gn, s * 128, none⟩ = some (.int .u8 (y0.toNat : Int)) := cell_blk hhn (by rw [List.getElem?_toArray, List.getElem?_map, HY.out]; rfl)
                  have k2 : w27.cell? ⟨go, s * 128, none⟩ = some (.int .u8 (y0.toNat : Int)) := cell_blk (hf27.heap HM26.out.2.1 id) (by rw [List.getElem?_toArray, List.getElem?_map, HY.out]; rfl)
                  have k3 : w27.cell? ⟨g7, 0, none⟩ = some (.int .u8 (y0.toNat : Int)) := cell_blk ((HFR.out.trans HM27.out.2.2).heap H79.out id) (by rw [HM.out, List.getElem?_toArray, List.getElem?_map, HYM.out]; rfl)
                  have k1f := free_blk hhn (s * 128)
                  have kg0 : gm < w27.heap.size := World.block_lt_of_cell? _ _ k0
                  have kg1 : gn < w27.heap.size := World.block_lt_of_cell? _ _ k1
                  have kg2 : go < w27.heap.size := World.block_lt_of_cell? _ _ k2
                  have kg3 : g7 < w27.heap.size := World.block_lt_of_cell? _ _ k3
                  have hj0 : (0 : Int) ≤ (s : Int) := by omega
                  have hj1 : (s : Int) < 1024 := by omega
                  have hj2 : (0 : Int) ≤ (s : Int) * 128 := by omega
                  have hw64 : IntKind.i64.wrap ((s : Int) * 128) = (s : Int) * 128 := IntWalk.i64_in _ (by omega)
                  have hw65 : ((s : Int) * 128).toNat = s * 128 := by omega
                  clear hgn hhn hf27
                  go_wp2_with fail
                  go_quiet (fail)
                  obtain ⟨w27', hw27⟩ : ∃ w', w' = w27.drewN nq := ⟨_, rfl⟩
                  rw [← hw27]
                  have HM27' : Hid (w26.heap.size ≤ gn ∧ w27'.heap[gn]? = some (.cells (F.map bv).toArray 5 (0, 0)) ∧ Fr No w23 w27') := Lib.hid (by rw [hw27]; exact ⟨HM27.out.1, HM27.out.2.1, HM27.out.2.2.drewN _⟩)
                  clear hw27 k0 k1 k2 k3 k1f kg0 kg1 kg2 kg3 hw64 hw65
                  have k1 : w27'.cell? ⟨gn, s * 128, none⟩ = some (.int .u8 (y0.toNat : Int)) := cell_blk HM27'.out.2.1 (by rw [List.getElem?_toArray, List.getElem?_map, HY.out]; rfl)
                  have k1f := free_blk HM27'.out.2.1 (s * 128)
                  have kg1 : gn < w27'.heap.size := World.block_lt_of_cell? _ _ k1
                  go_wp2_with fail
                  obtain ⟨X1, hX1⟩ : ∃ X, Hid (X = F.set (s * 128) 93) := ⟨_, Lib.hid rfl⟩
                  obtain ⟨X2, hX2⟩ : ∃ X, Hid (X = F.set (s * 128) 94) := ⟨_, Lib.hid rfl⟩
                  obtain ⟨w28, hw28⟩ : ∃ w', w' = w27'.setCell ⟨gn, s * 128, none⟩ (bv 93) := ⟨_, rfl⟩
                  have hb93 : Value.int .u8 93 = bv 93 := rfl
                  rw [hb93, ← hw28]
                  clear hb93
                  have HM28 : Hid (w28.heap[gn]? = some (.cells (X1.map bv).toArray 5 (0, 0)) ∧ Fr No w23 w28) := Lib.hid (by
                    rw [hw28, hX1.out]
                    have h1 := HM27'.out.1
                    have h2 := HM26.out.2.2.size
                    exact ⟨set_blk 93 HM27'.out.2.1, HM27'.out.2.2.put (.inr (by omega)) _ _⟩)
                  clear hw28 k1 k1f kg1
                  refine (Of_any w28 (some ⟨gn, 0, none⟩) 131072 X1 (by rw [hX1.out, List.length_set]; exact HFL.out) (blk_LAt' HM28.out.1 (by rw [hX1.out, List.length_set]; exact HFL.out))).mono ?_
                  rintro e w29 ⟨rfl, hd29, hf29⟩
                  have HGN : Hid (gn < w28.heap.size ∧ w23.heap.size ≤ gn) := Lib.hid ⟨lt_of_block HM28.out.1, by have := HM27'.out.1; have := HM26.out.2.2.size; omega⟩
                  have HM29 : Hid (w29.heap[gn]? = some (.cells (X1.map bv).toArray 5 (0, 0)) ∧ Fr No w23 w29 ∧ DiskAt w29 w28.heap.size w28.heap.size (Dk.of X1 1024)) := Lib.hid ⟨hf29.heap HM28.out.1 id, HM28.out.2.trans hf29, hd29⟩
                  have HX1 : Hid (X1[s * 128]? = some 93) := Lib.hid (by rw [hX1.out, List.getElem?_set_self (by rw [HFL.out]; omega)])
                  have HX2 : Hid (X2[s * 128]? = some 94) := Lib.hid (by rw [hX2.out, List.getElem?_set_self (by rw [HFL.out]; omega)])
                  have k1 : w29.cell? ⟨gn, s * 128, none⟩ = some (.int .u8 93) := cell_blk HM29.out.1 (by rw [List.getElem?_toArray, List.getElem?_map, HX1.out]; rfl)
                  have k1f := free_blk HM29.out.1 (s * 128)
                  have kg1 : gn < w29.heap.size := World.block_lt_of_cell? _ _ k1
                  clear hd29 hf29
                  go_wp2_with fail
                  obtain ⟨w30, hw30⟩ : ∃ w', w' = w29.setCell ⟨gn, s * 128, none⟩ (bv 94) := ⟨_, rfl⟩
                  have hb94 : Value.int .u8 94 = bv 94 := rfl
                  rw [hb94, ← hw30]
                  clear hb94
                  have HM30 : Hid (w30.heap[gn]? = some (.cells (X2.map bv).toArray 5 (0, 0)) ∧ Fr No w23 w30 ∧ DiskAt w30 w28.heap.size w28.heap.size (Dk.of X1 1024)) := Lib.hid (by
                    rw [hw30]
                    have h1 := HGN.out
                    have h2 := set_blk (k := s * 128) 94 HM29.out.1
                    rw [hX1.out, List.set_set, ← hX2.out] at h2
                    exact ⟨h2, HM29.out.2.1.put (.inr h1.2) _ _, HM29.out.2.2.keep (Fr.set1 _ _ _ _) (One.not (by omega)) (One.not (by omega))⟩)
                  clear hw30 k1 k1f kg1
                  refine (Of_any w30 (some ⟨gn, 0, none⟩) 131072 X2 (by rw [hX2.out, List.length_set]; exact HFL.out) (blk_LAt' HM30.out.1 (by rw [hX2.out, List.length_set]; exact HFL.out))).mono ?_
                  rintro e w31 ⟨rfl, hd31, hf31⟩
                  have HM31 : Hid (Fr No w23 w31 ∧ DiskAt w31 w28.heap.size w28.heap.size (Dk.of X1 1024) ∧ DiskAt w31 w30.heap.size w30.heap.size (Dk.of X2 1024)) := Lib.hid ⟨HM30.out.2.1.trans hf31, HM30.out.2.2.keep hf31 id id, hd31⟩
                  clear hd31 hf31
                  go_wp2_with fail
                  refine (Raw_any HM31.out.2.1 s hs1024).mono ?_
                  rintro e w32 ⟨g32, rfl, hg32, hh32, hf32⟩
                  have HM32 : Hid (Fr No w23 w32 ∧ w32.heap[g32]? = some (.cells (((Dk.of X1 1024).med s).map bv).toArray 5 (0, 0)) ∧ DiskAt w32 w30.heap.size w30.heap.size (Dk.of X2 1024)) := Lib.hid ⟨HM31.out.1.trans hf32, hh32, HM31.out.2.2.keep hf32 id id⟩
                  clear hg32 hh32 hf32
                  go_wp2_with fail
                  refine (Raw_any HM32.out.2.2 s hs1024).mono ?_
                  rintro e w33 ⟨g33, rfl, hg33, hh33, hf33⟩
                  have HM33 : Hid (Fr No w23 w33) := Lib.hid (HM32.out.1.trans hf33)
                  have k1 : w33.cell? ⟨g32, 0, none⟩ = some (.int .u8 93) := cell_blk (hf33.heap HM32.out.2.1 id) (by rw [List.getElem?_toArray, List.getElem?_map, of_first hs1024 HX1.out]; rfl)
                  have k2 : w33.cell? ⟨g33, 0, none⟩ = some (.int .u8 94) := cell_blk hh33 (by rw [List.getElem?_toArray, List.getElem?_map, of_first hs1024 HX2.out]; rfl)
                  have kg1 : g32 < w33.heap.size := World.block_lt_of_cell? _ _ k1
                  have kg2 : g33 < w33.heap.size := World.block_lt_of_cell? _ _ k2
                  clear hg33 hh33 hf33
                  go_wp2_with fail
                  refine (Read_up (S9.out.no (HFR.out.trans HM33.out)).disk s hs1024 HU1.out.1 (by rw [HC1.out]; omega)).mono ?_
                  rintro e w34 ⟨g34, rfl, hg34, hh34, hf34⟩
                  rw [HRD.out] at hh34
                  have HM34 : Hid (Fr No w23 w34 ∧ w34.heap[g34]? = some (.cells (R.map bv).toArray 5 (0, 0))) := Lib.hid ⟨HM33.out.trans hf34, hh34⟩
                  clear hg34 hh34 hf34 k1 k2 kg1 kg2
                  go_wp2_with fail
                  refine (Raw_any (S9.out.no (HFR.out.trans HM34.out.1)).disk s hs1024).mono ?_
                  rintro e w35 ⟨g35, rfl, hg35, hh35, hf35⟩
                  rw [HU1.out.2.2.2.1, HM.out] at hh35
                  have HM35 : Hid (Fr No w23 w35 ∧ w35.heap[g34]? = some (.cells (R.map bv).toArray 5 (0, 0)) ∧ w35.heap[g35]? = some (.cells (M.map bv).toArray 5 (0, 0))) := Lib.hid ⟨HM34.out.1.trans hf35, hf35.heap HM34.out.2 id, hh35⟩
                  clear hg35 hh35 hf35
                  have HFQ : Hid (Fr No w23 w35) := Lib.hid HM35.out.1
                  have HFE : Hid (Fr No wr w35) := Lib.hid ((((HF20.out.trans HF21.out).then (HA22.out.1.trans (show Fr (One g20) W22 w22 from HFX.out)) fun i hi hx => by
                    have e : i = g20 := hx
                    have := HB20.out; omega)).trans (HF23.out.trans HM35.out.1))
                  clear hsk hskI hj0 hj1 hj2
                  go_wp2_with fail
                  go_loopg [33, 34] 4 (fun m i _ wr => ∃ j : Nat, j ≤ 4 ∧ m + j = 4 ∧ i = .int .i64 j ∧ w35 = wr)
                  case atStart => exact ⟨0, by omega, by omega, rfl, rfl⟩
                  case round =>
                    obtain ⟨j, hj, hm, rfl, rfl⟩ := hrel
                    by_cases hlt : j < 4
                    · go_wp2_with fail
                      go_loopg [34] 128 (fun m i wr => ∃ t : Nat, t ≤ 128 ∧ m + t = 128 ∧ i = .int .i64 t ∧ w35 = wr)
                      case atStart => exact ⟨0, by omega, by omega, rfl, rfl⟩
                      case round =>
                        obtain ⟨t, ht, hmt, rfl, rfl⟩ := hrel
                        by_cases hlt2 : t < 128
                        · obtain ⟨gr, capr, c0, c1, c2, c3⟩ := HE.out.read HFE.out hlt hlt2
                          go_wp2_with fail
                          go_roundg (128 - (t + 1))
                          case rel => exact ⟨t + 1, by omega, by omega, by go_num, rfl⟩
                          case measure => omega
                        · obtain rfl : t = 128 := by omega
                          go_wp2_with fail
                          go_roundg (4 - (j + 1))
                          case rel => exact ⟨j + 1, by omega, by omega, by go_num, rfl⟩
                          case measure => omega
                    · obtain rfl : j = 4 := by omega
                      have KX : Hid (∀ w', Fr No w35 w' → w'.cell? ⟨g23, 0, none⟩ = some (.int .i64 (s : Int)) ∧ w'.cell? ⟨g22, 0, none⟩ = some (.int .i64 (-7)) ∧ LAt w' (.slice (some ⟨g34, 0, none⟩) 128 128) (R.map bv) ∧ LAt w' (.slice (some ⟨g35, 0, none⟩) 128 128) (M.map bv) ∧ LAt w' (.slice (some ⟨g7, 0, none⟩) 128 128) (M.map bv)) := Lib.hid fun w' hf => by
                        have h7 := H79.out
                        rw [HM.out] at h7
                        exact ⟨own_cell (own_fr HO23.out (HFQ.out.trans hf) fun _ _ => id) (j := 0) rfl, (HP22.out _ ((HF23.out.trans HM35.out.1).trans hf)).1, blk_LAt (hf.heap HM35.out.2.1 id) HRL.out, blk_LAt (hf.heap HM35.out.2.2 id) HML.out,
                          blk_LAt (((HFR.out.trans HM35.out.1).trans hf).heap h7 id) HML.out⟩
                      have c0 : w35.cell? ⟨w.heap.size, 1, none⟩ = some (.int .u8 (x.toNat : Int)) := cell_blk ((HFR.out.trans HM35.out.1).heap HPB9.out id) rfl
                      have c0g : w.heap.size < w35.heap.size := World.block_lt_of_cell? _ _ c0
                      go_wp2_with fail
                      refine (full_any _ x).mono ?_
                      rintro e w36 ⟨gf3, capf3, rfl, hown36, hf36⟩
                      have HO36 := Lib.hid hown36
                      have HF36 := Lib.hid hf36
                      obtain ⟨k0, k1, _⟩ := KX.out _ hf36
                      have kg0 : g23 < w36.heap.size := World.block_lt_of_cell? _ _ k0
                      have kg1 : g22 < w36.heap.size := World.block_lt_of_cell? _ _ k1
                      clear hown36 hf36 c0 c0g
                      go_wp2_with fail
                      refine (same_any _ _ _ R R (KX.out _ HF36.out).2.2.1 (KF.out _ _ _ HO36.out)).mono ?_
                      rintro e w' ⟨rfl, rfl⟩
                      rw [KR.out]
                      go_wp2_with fail
                      refine (same_any _ _ _ M M (KX.out _ HF36.out).2.2.2.1 (KX.out _ HF36.out).2.2.2.2).mono ?_
                      rintro e w' ⟨rfl, rfl⟩
                      rw [KM.out]
                      go_wp2_with fail
                      go_ret
                      exact ⟨rfl, HWF.out.trans (S9.out.fr.trans ((HFR.out.trans HM35.out.1).trans HF36.out))⟩
end Go.Proofs.Ytppllhdocajfiaa
