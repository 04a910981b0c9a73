/- DiskLeaves: the walk. -/
import Derived.Test.YtppllhdocajfiaaV1
import Derived.Test.YtppllhdocajfiaaS2
set_option linter.unusedSimpArgs false
set_option linter.unusedVariables false
namespace Go.Proofs.Ytppllhdocajfiaa
open Go.RowKit

set_option maxHeartbeats 16000000 in
set_option maxRecDepth 100000 in
theorem leaves_walk (w : World) (vs vl vk : Value) (script : List OpD) (l : List PutD) (K : List Bool) (hs : OpsAt w vs script) (hl : PutsAt w vl l) (hk : LAt w vk (K.map Value.bool)) (hsl : script.length ≤ 2097152) (hll : l.length ≤ 2097152) (hkl : K.length ≤ 2097152) :
    Calls Try.prog 6 #[vs, vl, vk] w fun e w' => e = .returned (.bool true) ∧ Fr No w w' := by
  have HB := Lib.hid (fresh_any w vs script hs hsl)
  obtain ⟨sa, scap, rfl, _⟩ := hs.1.len
  obtain ⟨a, cap, rfl, hcap, _⟩ := hl.len
  obtain ⟨ka, kcap, rfl, hkcap⟩ := hk.len
  obtain ⟨n, hn⟩ : ∃ n, Hid (l.length = n) := ⟨_, Lib.hid rfl⟩
  obtain ⟨sn, hsn⟩ : ∃ n, Hid (script.length = n) := ⟨_, Lib.hid rfl⟩
  obtain ⟨kn, hkn⟩ : ∃ n, Hid (K.length = n) := ⟨_, Lib.hid rfl⟩
  rw [List.length_map] at hk ⊢
  rw [hn.out] at hll hcap hl
  rw [hkn.out] at hkl hk
  rw [hn.out, hkn.out]
  rw [hsn.out] at HB hsl ⊢
  have HL := Lib.hid hl
  have HK := Lib.hid hk
  clear hs hl hk hkcap
  go_enter Try.func6, Try.ntmps6
  go_wp2_with fail
  refine HB.out.mono ?_
  rintro e w1 ⟨rfl, c0, D0, S0, hu0, ha0⟩
  have S0 := Lib.hid S0
  have HU0 := Lib.hid hu0
  clear hu0 HB
  have HLEN : Hid (n = l.length ∧ (l.map nextP).length = n) := Lib.hid ⟨hn.out.symm, by rw [List.length_map]; exact hn.out⟩
  go_wp2_with fail
  have hr := raws_any S0.out a cap l (by rw [hn.out]; exact HL.out.no S0.out.fr) (by rw [hn.out]; omega)
  rw [hn.out] at hr
  refine hr.mono ?_
  clear hr
  rintro e w2 ⟨v2, rfl, hx2, hf2⟩
  obtain ⟨a2, cap2, rfl⟩ := hx2.len
  rw [List.length_map, hn.out] at hx2 ⊢
  have S2 := Lib.hid (S0.out.no hf2)
  have X2 := Lib.hid hx2
  clear hx2 hf2
  go_wp2_with fail
  have hr := next_any w2 a cap l (by rw [hn.out]; exact HL.out.no S2.out.fr) (by rw [hn.out]; omega)
  rw [hn.out] at hr
  refine hr.mono ?_
  clear hr
  rintro e w3 ⟨v3, rfl, hown3, hf3⟩
  obtain ⟨a3, cap3, rfl, _⟩ := own_slice hown3
  have P3 := Lib.hid (PutsK.of_own (c := c0) hown3 S2.out.disk.lt.1 S2.out.disk.lt.2).1
  have S3 := Lib.hid (S2.out.no hf3)
  have X3 := Lib.hid (X2.out.no hf3)
  clear hown3 hf3
  go_wp2_with fail
  have hr := raws_any S3.out a3 cap3 (l.map nextP) (by rw [HLEN.out.2]; exact P3.out.1) (by rw [HLEN.out.2]; omega)
  rw [HLEN.out.2] at hr
  refine hr.mono ?_
  clear hr
  rintro e w4 ⟨v4, rfl, hx4, hf4⟩
  obtain ⟨a4, cap4, rfl⟩ := hx4.len
  rw [List.length_map, HLEN.out.2] at hx4 ⊢
  have S4 := Lib.hid (S3.out.no hf4)
  have X4 := Lib.hid (X3.out.no hf4)
  have P4 := Lib.hid (P3.out.step (hf4.mono fun _ _ h => False.elim h) (.inl rfl))
  have Y4 := Lib.hid hx4
  clear hx4 hf4 S2 X2 S3 X3 P3
  go_wp2_with fail
  have hlaid := laid_ok S4.out.disk HU0.out.down HU0.out.armed (.slice a n cap) l (fun w' hf => HL.out.no (S4.out.two hf)) (by rw [HU0.out.cache, hn.out]; simp; omega) (by rw [hn.out]; omega)
  refine hlaid.mono ?_
  clear hlaid
  rintro e w5 ⟨rfl, ⟨c5, hd5, hc5⟩, hf5⟩
  rw [hn.out] at hd5
  obtain ⟨D1, hD1⟩ : ∃ D1 : Dk, Hid (D1 = { D0 with cache := D0.cache ++ l.map PutD.pend, acts := D0.acts + n }) := ⟨_, Lib.hid rfl⟩
  rw [← hD1.out] at hd5
  have HU1 : Hid (D1.cache = l.map PutD.pend ∧ D1.med = D0.med ∧ D1.cache.length = n) := Lib.hid (by
    rw [hD1.out]; exact ⟨by simp [HU0.out.cache], rfl, by simp [HU0.out.cache, hn.out]⟩)
  have S5 := Lib.hid ((Since.start S4.out).op hd5 (by omega) hf5)
  clear hd5 hc5 hf5
  go_wp2_with fail
  refine (flags_any _ (.slice ka kn kcap) (K.map Value.bool) (HK.out.no S5.out.st.fr) (fun v hv => by obtain ⟨x, _, rfl⟩ := List.mem_map.1 hv; rfl) (by rw [List.length_map, hkn.out]; omega)).mono ?_
  rintro e w6 ⟨v6, rfl, hown6, hf6⟩
  have S6 := Lib.hid (S5.out.no hf6)
  have HO6 := Lib.hid hown6
  clear hown6 hf6
  go_wp2_with fail
  refine (Crash_any S6.out.st.disk (by have := HU1.out.2.2; omega) v6 K (fun w' hf => (LAt.of_own HO6.out).1.fr hf fun g hg hv => One.not (by have := (LAt.of_own HO6.out).2.2 g hv; have := S5.out.st.size; omega))).mono ?_
  rintro e w7 ⟨rfl, hd7, hf7⟩
  obtain ⟨D7, hD7⟩ : ∃ D7 : Dk, Hid (D7 = D1.crash K) := ⟨_, Lib.hid rfl⟩
  rw [← hD7.out] at hd7
  have HU7 : Hid (D7.down = false ∧ D7.cache = [] ∧ ∀ s, D7.med s = leftAt l K (D0.med s) s n) := Lib.hid (by
    rw [hD7.out]
    refine ⟨rfl, rfl, fun s => ?_⟩
    have := laidOn_left l K D0.med s n (by rw [hn.out]; exact Nat.le_refl _)
    rw [List.take_of_length_le (by rw [hn.out]; exact Nat.le_refl _)] at this
    show laidOn (fun i => K.getD i false) 0 D1.cache D1.med s = _
    rw [HU1.out.1, HU1.out.2.1]; exact this)
  obtain ⟨kept, hkept⟩ : ∃ kept : Nat → Bool, Hid (kept = fun i => K.getD i false) := ⟨_, Lib.hid rfl⟩
  obtain ⟨N0, hN0⟩ : ∃ N0, keptOf (fun i => K.getD i false) 0 D1.cache = N0 := ⟨_, rfl⟩
  rw [hN0]
  have HN0 : Hid (keptOf kept 0 ((l.drop 0).map PutD.pend) = N0) := Lib.hid (by rw [← hN0, HU1.out.1, hkept.out, List.drop_zero])
  clear hN0
  have S7 := Lib.hid (S6.out.op1 hd7 (.inr (.inl rfl)) hf7)
  clear hd7 hf7 S5 S6 HO6
  go_wp2_with fail
  refine (Pending_any S7.out.st.disk (by rw [HU7.out.2.1]; simp)).mono ?_
  rintro e w8 ⟨v8, rfl, hown8, hf8⟩
  obtain ⟨a8, cap8, rfl, _⟩ := own_slice hown8
  rw [HU7.out.2.1]
  have S8 := Lib.hid (S7.out.no hf8)
  clear hown8 hf8 S7
  go_wp2_with fail
  refine (Down_any S8.out.st.disk).mono ?_
  rintro e w' ⟨rfl, rfl⟩
  rw [HU7.out.1]
  have X8 := Lib.hid (S8.out.rows X4.out)
  have Y8 := Lib.hid (S8.out.rows Y4.out)
  have P8 := Lib.hid (S8.out.puts P4.out)
  clear X4 Y4 P4
  go_wp2_with fail
  go_loopg [11, 12] n (fun m r i wr => ∃ j : Nat, j ≤ n ∧ m + j = n ∧ i = .int .i64 j ∧ r = .int .i64 (keptOf kept j ((l.drop j).map PutD.pend)) ∧ Hid (Fr No w8 wr))
  case atStart => exact ⟨0, by omega, by omega, rfl, by rw [HN0.out], Lib.hid (Fr.refl _ _)⟩
  case round =>
    obtain ⟨j, hj, hm, rfl, rfl, HR⟩ := hrel
    by_cases hlt : j < n
    · have hjl : j < l.length := by have := hn.out; omega
      obtain ⟨p, hpp⟩ : ∃ p, l[j]? = some p := ⟨_, List.getElem?_eq_getElem hjl⟩
      have hko := keptOf_drop kept l hpp
      have hkole := keptOf_le kept ((l.drop (j + 1)).map PutD.pend) (j + 1)
      rw [List.length_map, List.length_drop] at hkole
      obtain ⟨N, hN⟩ : ∃ N, keptOf kept (j + 1) ((l.drop (j + 1)).map PutD.pend) = N := ⟨_, rfl⟩
      rw [hN] at hko hkole
      have hNle : N ≤ 2097152 := by have := hn.out; omega
      have HN := Lib.hid hN
      have HP := Lib.hid hpp
      have HM : Hid (D7.med (pl p.sector) = leftAt l K (D0.med (pl p.sector)) (pl p.sector) n) := Lib.hid (HU7.out.2.2 _)
      have HRD : Hid (D7.read (pl p.sector) = D7.med (pl p.sector)) := Lib.hid (by unfold Dk.read; rw [HU7.out.2.1]; rfl)
      obtain ⟨g, o, ea, hg, hcells⟩ := HL.out.get' hpp
      subst ea
      have HCL : Hid (∀ w', Fr No w8 w' → w'.cell? ⟨g, o + j * 2, none⟩ = some (.int .i64 p.sector) ∧ g < w'.heap.size) := Lib.hid fun w' hf => ⟨(hcells w' (S8.out.st.fr.trans hf)).1, by have := S8.out.st.fr.size; have := hf.size; omega⟩
      obtain ⟨k0, hgq⟩ := HCL.out _ HR.out
      obtain ⟨gr, or', g', er, hrow, hblk, _⟩ := X8.out.get (j := j) (X := D0.med (pl p.sector)) (by rw [List.getElem?_map, hpp]; rfl)
      subst er
      have HROW := Lib.hid hrow
      have r1 := (HROW.out _ HR.out).1
      have hgr : gr < wr.heap.size := World.block_lt_of_cell? _ _ r1
      have hb := pl_lt p.sector
      have HLK : Hid (∀ w', Fr No w8 w' → Calls Try.prog 33 #[.slice (some ⟨g, o, none⟩) n cap, .slice ka kn kcap, .int .i64 j] w' fun e w'' => e = .returned (.int .i64 (optI (lastK l K (pl p.sector) n))) ∧ Fr No w' w'') := Lib.hid fun w' hf => by
        have := lastKept_any w' (some ⟨g, o, none⟩) ka cap kcap l K (by rw [hn.out]; exact HL.out.no (S8.out.st.fr.trans hf)) (by rw [hkn.out]; exact HK.out.no (S8.out.st.fr.trans hf)) (by rw [hn.out]; omega) (by rw [hkn.out]; omega) j p HP.out
        rw [hn.out, hkn.out] at this
        exact this
      clear hcells hpp hrow hblk hN
      by_cases hjk : j < kn
      · obtain ⟨x, hx⟩ : ∃ x, K[j]? = some x := ⟨_, List.getElem?_eq_getElem (by have := hkn.out; omega)⟩
        have hkc : ∃ kg ko, ka = some ⟨kg, ko, none⟩ ∧ kg < w.heap.size ∧ w.cell? ⟨kg, ko + j, none⟩ = some (.bool x) := by
          rcases HK.out with ⟨_, h⟩ | ⟨a', cap', h, _, hs⟩
          · rw [List.map_eq_nil_iff] at h; rw [h] at hx; cases hx
          · obtain ⟨kg, ko, rfl, hseg⟩ := hs (by rw [List.length_map]; have := hkn.out; omega)
            simp only [Value.slice.injEq] at h
            have hc := hseg j (.bool x) (by rw [List.getElem?_map, hx]; rfl)
            exact ⟨kg, ko, h.1, World.block_lt_of_cell? w _ hc, hc⟩
        obtain ⟨kg, ko, rfl, hkg, hkcell⟩ := hkc
        have kc := ((S8.out.st.fr.trans HR.out).cell (p := ⟨kg, ko + j, none⟩) hkg id).trans hkcell
        have hkgq : kg < wr.heap.size := World.block_lt_of_cell? _ _ kc
        have hkj : kept j = x := by rw [hkept.out]; simp only; rw [List.getD_eq_getElem?_getD, hx]; rfl
        rw [hkj] at hko
        clear hkcell hkj hx
        cases x
        · rw [show (if false = true then 1 else 0) + N = N by simp] at hko
          rw [hko]
          clear hko
          go_wp2_with fail
          refine (HLK.out _ HR.out).mono ?_
          rintro e w9 ⟨rfl, hf9⟩
          have F9 := Lib.hid (HR.out.trans hf9)
          clear hf9
          cases hlk : lastK l K (pl p.sector) n with
          | none =>
            have HXX : Hid (D7.med (pl p.sector) = D0.med (pl p.sector)) := Lib.hid (by rw [HM.out, leftAt_none hlk])
            obtain ⟨X, hX⟩ : ∃ X, D0.med (pl p.sector) = X := ⟨_, rfl⟩
            rw [hX] at HXX
            have HX128 : Hid (X.length = 128) := Lib.hid (by rw [← HXX.out]; exact S8.out.st.disk.ok.med _)
            rw [show optI none = -1 from rfl]
            have F10 := F9
            have HW := Lib.hid (HROW.out _ F10.out).2
            rw [hX] at HW
            obtain ⟨k0, hgq⟩ := HCL.out _ F10.out
            clear hlk hX
            go_wp2_with fail
            refine (place_any _ _).mono ?_; rintro e w' ⟨rfl, rfl⟩
            go_wp2_with fail
            refine (Raw_any (S8.out.no F10.out).st.disk (pl p.sector) (pl_lt _)).mono ?_
            rintro e w11 ⟨g11, rfl, hg11, hh11, hf11⟩
            rw [HXX.out] at hh11
            have G11 := Lib.hid (And.intro hg11 (And.intro hh11 (F10.out.trans hf11)))
            have L11 := Lib.hid (HW.out.no hf11)
            obtain ⟨k0, hgq⟩ := HCL.out _ G11.out.2.2
            clear hg11 hh11 hf11
            go_wp2_with fail
            refine (place_any _ _).mono ?_; rintro e w' ⟨rfl, rfl⟩
            go_wp2_with fail
            refine (Read_up (S8.out.no G11.out.2.2).st.disk (pl p.sector) (pl_lt _) HU7.out.1 (by rw [HU7.out.2.1]; simp)).mono ?_
            rintro e w12 ⟨g12, rfl, hg12, hh12, hf12⟩
            rw [HRD.out, HXX.out] at hh12
            have G12 := Lib.hid (And.intro hg12 (And.intro hh12 (G11.out.2.2.trans hf12)))
            have H11 := Lib.hid (hf12.heap G11.out.2.1 id)
            have L12 := Lib.hid (L11.out.no hf12)
            clear hg12 hh12 hf12
            go_wp2_with fail
            refine (same_blk H11.out HX128.out L12.out).mono ?_
            rintro e w' ⟨rfl, rfl⟩
            rw [show (X == X) = true by simp]
            go_wp2_with fail
            refine (same_blk G12.out.2.1 HX128.out L12.out).mono ?_
            rintro e w' ⟨rfl, rfl⟩
            rw [show (X == X) = true by simp]
            go_wp2_with fail
            go_roundg (n - (j + 1))
            case rel => exact ⟨j + 1, by omega, by omega, by go_num, by first | (rw [HN.out]; done) | (rw [HN.out]; go_num), Lib.hid G12.out.2.2⟩
            case measure => omega
          | some k =>
            have hkl := lastK_lt _ _ _ _ _ hlk
            obtain ⟨q, hq⟩ : ∃ q, l[k]? = some q := ⟨_, List.getElem?_eq_getElem (by have := hn.out; omega)⟩
            have HXX : Hid (D7.med (pl p.sector) = List.replicate 128 q.byte) := Lib.hid (by rw [HM.out, leftAt_some hlk hq])
            obtain ⟨X, hX⟩ : ∃ X, List.replicate 128 q.byte = X := ⟨_, rfl⟩
            rw [hX] at HXX
            have HX128 : Hid (X.length = 128) := Lib.hid (by rw [← HXX.out]; exact S8.out.st.disk.ok.med _)
            rw [show optI (some k) = (k : Int) from rfl]
            obtain ⟨g2, o2, ea2, hg2, hcells2⟩ := HL.out.get' hq
            simp only [Option.some.injEq, Addr.mk.injEq, and_true] at ea2
            obtain ⟨rfl, rfl⟩ := ea2
            have q1 := (hcells2 _ (S8.out.st.fr.trans F9.out)).2
            have hg9 := (HCL.out _ F9.out).2
            have hk0 : (0 : Int) ≤ (k : Int) := by omega
            clear hlk hq hcells2
            go_wp2_with fail
            refine (full_any _ q.byte).mono ?_
            rintro e w10 ⟨gf, capf, rfl, hown10, hf10⟩
            have F10 := Lib.hid (F9.out.trans hf10)
            have HW := Lib.hid (LAt.of_own hown10).1
            rw [hX] at HW
            obtain ⟨k0, hgq⟩ := HCL.out _ F10.out
            clear hown10 hf10 hX q1
            go_wp2_with fail
            refine (place_any _ _).mono ?_; rintro e w' ⟨rfl, rfl⟩
            go_wp2_with fail
            refine (Raw_any (S8.out.no F10.out).st.disk (pl p.sector) (pl_lt _)).mono ?_
            rintro e w11 ⟨g11, rfl, hg11, hh11, hf11⟩
            rw [HXX.out] at hh11
            have G11 := Lib.hid (And.intro hg11 (And.intro hh11 (F10.out.trans hf11)))
            have L11 := Lib.hid (HW.out.no hf11)
            obtain ⟨k0, hgq⟩ := HCL.out _ G11.out.2.2
            clear hg11 hh11 hf11
            go_wp2_with fail
            refine (place_any _ _).mono ?_; rintro e w' ⟨rfl, rfl⟩
            go_wp2_with fail
            refine (Read_up (S8.out.no G11.out.2.2).st.disk (pl p.sector) (pl_lt _) HU7.out.1 (by rw [HU7.out.2.1]; simp)).mono ?_
            rintro e w12 ⟨g12, rfl, hg12, hh12, hf12⟩
            rw [HRD.out, HXX.out] at hh12
            have G12 := Lib.hid (And.intro hg12 (And.intro hh12 (G11.out.2.2.trans hf12)))
            have H11 := Lib.hid (hf12.heap G11.out.2.1 id)
            have L12 := Lib.hid (L11.out.no hf12)
            clear hg12 hh12 hf12
            go_wp2_with fail
            refine (same_blk H11.out HX128.out L12.out).mono ?_
            rintro e w' ⟨rfl, rfl⟩
            rw [show (X == X) = true by simp]
            go_wp2_with fail
            refine (same_blk G12.out.2.1 HX128.out L12.out).mono ?_
            rintro e w' ⟨rfl, rfl⟩
            rw [show (X == X) = true by simp]
            go_wp2_with fail
            go_roundg (n - (j + 1))
            case rel => exact ⟨j + 1, by omega, by omega, by go_num, by first | (rw [HN.out]; done) | (rw [HN.out]; go_num), Lib.hid G12.out.2.2⟩
            case measure => omega
        · rw [show (if true = true then 1 else 0) + N = 1 + N by simp] at hko
          rw [hko]
          clear hko
          go_wp2_with fail
          refine (HLK.out _ HR.out).mono ?_
          rintro e w9 ⟨rfl, hf9⟩
          have F9 := Lib.hid (HR.out.trans hf9)
          clear hf9
          cases hlk : lastK l K (pl p.sector) n with
          | none =>
            have HXX : Hid (D7.med (pl p.sector) = D0.med (pl p.sector)) := Lib.hid (by rw [HM.out, leftAt_none hlk])
            obtain ⟨X, hX⟩ : ∃ X, D0.med (pl p.sector) = X := ⟨_, rfl⟩
            rw [hX] at HXX
            have HX128 : Hid (X.length = 128) := Lib.hid (by rw [← HXX.out]; exact S8.out.st.disk.ok.med _)
            rw [show optI none = -1 from rfl]
            have F10 := F9
            have HW := Lib.hid (HROW.out _ F10.out).2
            rw [hX] at HW
            obtain ⟨k0, hgq⟩ := HCL.out _ F10.out
            clear hlk hX
            go_wp2_with fail
            refine (place_any _ _).mono ?_; rintro e w' ⟨rfl, rfl⟩
            go_wp2_with fail
            refine (Raw_any (S8.out.no F10.out).st.disk (pl p.sector) (pl_lt _)).mono ?_
            rintro e w11 ⟨g11, rfl, hg11, hh11, hf11⟩
            rw [HXX.out] at hh11
            have G11 := Lib.hid (And.intro hg11 (And.intro hh11 (F10.out.trans hf11)))
            have L11 := Lib.hid (HW.out.no hf11)
            obtain ⟨k0, hgq⟩ := HCL.out _ G11.out.2.2
            clear hg11 hh11 hf11
            go_wp2_with fail
            refine (place_any _ _).mono ?_; rintro e w' ⟨rfl, rfl⟩
            go_wp2_with fail
            refine (Read_up (S8.out.no G11.out.2.2).st.disk (pl p.sector) (pl_lt _) HU7.out.1 (by rw [HU7.out.2.1]; simp)).mono ?_
            rintro e w12 ⟨g12, rfl, hg12, hh12, hf12⟩
            rw [HRD.out, HXX.out] at hh12
            have G12 := Lib.hid (And.intro hg12 (And.intro hh12 (G11.out.2.2.trans hf12)))
            have H11 := Lib.hid (hf12.heap G11.out.2.1 id)
            have L12 := Lib.hid (L11.out.no hf12)
            clear hg12 hh12 hf12
            go_wp2_with fail
            refine (same_blk H11.out HX128.out L12.out).mono ?_
            rintro e w' ⟨rfl, rfl⟩
            rw [show (X == X) = true by simp]
            go_wp2_with fail
            refine (same_blk G12.out.2.1 HX128.out L12.out).mono ?_
            rintro e w' ⟨rfl, rfl⟩
            rw [show (X == X) = true by simp]
            go_wp2_with fail
            go_roundg (n - (j + 1))
            case rel => exact ⟨j + 1, by omega, by omega, by go_num, by first | (rw [HN.out]; done) | (rw [HN.out]; go_num), Lib.hid G12.out.2.2⟩
            case measure => omega
          | some k =>
            have hkl := lastK_lt _ _ _ _ _ hlk
            obtain ⟨q, hq⟩ : ∃ q, l[k]? = some q := ⟨_, List.getElem?_eq_getElem (by have := hn.out; omega)⟩
            have HXX : Hid (D7.med (pl p.sector) = List.replicate 128 q.byte) := Lib.hid (by rw [HM.out, leftAt_some hlk hq])
            obtain ⟨X, hX⟩ : ∃ X, List.replicate 128 q.byte = X := ⟨_, rfl⟩
            rw [hX] at HXX
            have HX128 : Hid (X.length = 128) := Lib.hid (by rw [← HXX.out]; exact S8.out.st.disk.ok.med _)
            rw [show optI (some k) = (k : Int) from rfl]
            obtain ⟨g2, o2, ea2, hg2, hcells2⟩ := HL.out.get' hq
            simp only [Option.some.injEq, Addr.mk.injEq, and_true] at ea2
            obtain ⟨rfl, rfl⟩ := ea2
            have q1 := (hcells2 _ (S8.out.st.fr.trans F9.out)).2
            have hg9 := (HCL.out _ F9.out).2
            have hk0 : (0 : Int) ≤ (k : Int) := by omega
            clear hlk hq hcells2
            go_wp2_with fail
            refine (full_any _ q.byte).mono ?_
            rintro e w10 ⟨gf, capf, rfl, hown10, hf10⟩
            have F10 := Lib.hid (F9.out.trans hf10)
            have HW := Lib.hid (LAt.of_own hown10).1
            rw [hX] at HW
            obtain ⟨k0, hgq⟩ := HCL.out _ F10.out
            clear hown10 hf10 hX q1
            go_wp2_with fail
            refine (place_any _ _).mono ?_; rintro e w' ⟨rfl, rfl⟩
            go_wp2_with fail
            refine (Raw_any (S8.out.no F10.out).st.disk (pl p.sector) (pl_lt _)).mono ?_
            rintro e w11 ⟨g11, rfl, hg11, hh11, hf11⟩
            rw [HXX.out] at hh11
            have G11 := Lib.hid (And.intro hg11 (And.intro hh11 (F10.out.trans hf11)))
            have L11 := Lib.hid (HW.out.no hf11)
            obtain ⟨k0, hgq⟩ := HCL.out _ G11.out.2.2
            clear hg11 hh11 hf11
            go_wp2_with fail
            refine (place_any _ _).mono ?_; rintro e w' ⟨rfl, rfl⟩
            go_wp2_with fail
            refine (Read_up (S8.out.no G11.out.2.2).st.disk (pl p.sector) (pl_lt _) HU7.out.1 (by rw [HU7.out.2.1]; simp)).mono ?_
            rintro e w12 ⟨g12, rfl, hg12, hh12, hf12⟩
            rw [HRD.out, HXX.out] at hh12
            have G12 := Lib.hid (And.intro hg12 (And.intro hh12 (G11.out.2.2.trans hf12)))
            have H11 := Lib.hid (hf12.heap G11.out.2.1 id)
            have L12 := Lib.hid (L11.out.no hf12)
            clear hg12 hh12 hf12
            go_wp2_with fail
            refine (same_blk H11.out HX128.out L12.out).mono ?_
            rintro e w' ⟨rfl, rfl⟩
            rw [show (X == X) = true by simp]
            go_wp2_with fail
            refine (same_blk G12.out.2.1 HX128.out L12.out).mono ?_
            rintro e w' ⟨rfl, rfl⟩
            rw [show (X == X) = true by simp]
            go_wp2_with fail
            go_roundg (n - (j + 1))
            case rel => exact ⟨j + 1, by omega, by omega, by go_num, by first | (rw [HN.out]; done) | (rw [HN.out]; go_num), Lib.hid G12.out.2.2⟩
            case measure => omega
      · have hkj : kept j = false := by rw [hkept.out]; simp only; rw [List.getD_eq_getElem?_getD, List.getElem?_eq_none (by have := hkn.out; omega)]; rfl
        rw [hkj, show (if false = true then 1 else 0) + N = N by simp] at hko
        rw [hko]
        clear hko hkj
        go_wp2_with fail
        refine (HLK.out _ HR.out).mono ?_
        rintro e w9 ⟨rfl, hf9⟩
        have F9 := Lib.hid (HR.out.trans hf9)
        clear hf9
        cases hlk : lastK l K (pl p.sector) n with
        | none =>
          have HXX : Hid (D7.med (pl p.sector) = D0.med (pl p.sector)) := Lib.hid (by rw [HM.out, leftAt_none hlk])
          obtain ⟨X, hX⟩ : ∃ X, D0.med (pl p.sector) = X := ⟨_, rfl⟩
          rw [hX] at HXX
          have HX128 : Hid (X.length = 128) := Lib.hid (by rw [← HXX.out]; exact S8.out.st.disk.ok.med _)
          rw [show optI none = -1 from rfl]
          have F10 := F9
          have HW := Lib.hid (HROW.out _ F10.out).2
          rw [hX] at HW
          obtain ⟨k0, hgq⟩ := HCL.out _ F10.out
          clear hlk hX
          go_wp2_with fail
          refine (place_any _ _).mono ?_; rintro e w' ⟨rfl, rfl⟩
          go_wp2_with fail
          refine (Raw_any (S8.out.no F10.out).st.disk (pl p.sector) (pl_lt _)).mono ?_
          rintro e w11 ⟨g11, rfl, hg11, hh11, hf11⟩
          rw [HXX.out] at hh11
          have G11 := Lib.hid (And.intro hg11 (And.intro hh11 (F10.out.trans hf11)))
          have L11 := Lib.hid (HW.out.no hf11)
          obtain ⟨k0, hgq⟩ := HCL.out _ G11.out.2.2
          clear hg11 hh11 hf11
          go_wp2_with fail
          refine (place_any _ _).mono ?_; rintro e w' ⟨rfl, rfl⟩
          go_wp2_with fail
          refine (Read_up (S8.out.no G11.out.2.2).st.disk (pl p.sector) (pl_lt _) HU7.out.1 (by rw [HU7.out.2.1]; simp)).mono ?_
          rintro e w12 ⟨g12, rfl, hg12, hh12, hf12⟩
          rw [HRD.out, HXX.out] at hh12
          have G12 := Lib.hid (And.intro hg12 (And.intro hh12 (G11.out.2.2.trans hf12)))
          have H11 := Lib.hid (hf12.heap G11.out.2.1 id)
          have L12 := Lib.hid (L11.out.no hf12)
          clear hg12 hh12 hf12
          go_wp2_with fail
          refine (same_blk H11.out HX128.out L12.out).mono ?_
          rintro e w' ⟨rfl, rfl⟩
          rw [show (X == X) = true by simp]
          go_wp2_with fail
          refine (same_blk G12.out.2.1 HX128.out L12.out).mono ?_
          rintro e w' ⟨rfl, rfl⟩
          rw [show (X == X) = true by simp]
          go_wp2_with fail
          go_roundg (n - (j + 1))
          case rel => exact ⟨j + 1, by omega, by omega, by go_num, by first | (rw [HN.out]; done) | (rw [HN.out]; go_num), Lib.hid G12.out.2.2⟩
          case measure => omega
        | some k =>
          have hkl := lastK_lt _ _ _ _ _ hlk
          obtain ⟨q, hq⟩ : ∃ q, l[k]? = some q := ⟨_, List.getElem?_eq_getElem (by have := hn.out; omega)⟩
          have HXX : Hid (D7.med (pl p.sector) = List.replicate 128 q.byte) := Lib.hid (by rw [HM.out, leftAt_some hlk hq])
          obtain ⟨X, hX⟩ : ∃ X, List.replicate 128 q.byte = X := ⟨_, rfl⟩
          rw [hX] at HXX
          have HX128 : Hid (X.length = 128) := Lib.hid (by rw [← HXX.out]; exact S8.out.st.disk.ok.med _)
          rw [show optI (some k) = (k : Int) from rfl]
          obtain ⟨g2, o2, ea2, hg2, hcells2⟩ := HL.out.get' hq
          simp only [Option.some.injEq, Addr.mk.injEq, and_true] at ea2
          obtain ⟨rfl, rfl⟩ := ea2
          have q1 := (hcells2 _ (S8.out.st.fr.trans F9.out)).2
          have hg9 := (HCL.out _ F9.out).2
          have hk0 : (0 : Int) ≤ (k : Int) := by omega
          clear hlk hq hcells2
          go_wp2_with fail
          refine (full_any _ q.byte).mono ?_
          rintro e w10 ⟨gf, capf, rfl, hown10, hf10⟩
          have F10 := Lib.hid (F9.out.trans hf10)
          have HW := Lib.hid (LAt.of_own hown10).1
          rw [hX] at HW
          obtain ⟨k0, hgq⟩ := HCL.out _ F10.out
          clear hown10 hf10 hX q1
          go_wp2_with fail
          refine (place_any _ _).mono ?_; rintro e w' ⟨rfl, rfl⟩
          go_wp2_with fail
          refine (Raw_any (S8.out.no F10.out).st.disk (pl p.sector) (pl_lt _)).mono ?_
          rintro e w11 ⟨g11, rfl, hg11, hh11, hf11⟩
          rw [HXX.out] at hh11
          have G11 := Lib.hid (And.intro hg11 (And.intro hh11 (F10.out.trans hf11)))
          have L11 := Lib.hid (HW.out.no hf11)
          obtain ⟨k0, hgq⟩ := HCL.out _ G11.out.2.2
          clear hg11 hh11 hf11
          go_wp2_with fail
          refine (place_any _ _).mono ?_; rintro e w' ⟨rfl, rfl⟩
          go_wp2_with fail
          refine (Read_up (S8.out.no G11.out.2.2).st.disk (pl p.sector) (pl_lt _) HU7.out.1 (by rw [HU7.out.2.1]; simp)).mono ?_
          rintro e w12 ⟨g12, rfl, hg12, hh12, hf12⟩
          rw [HRD.out, HXX.out] at hh12
          have G12 := Lib.hid (And.intro hg12 (And.intro hh12 (G11.out.2.2.trans hf12)))
          have H11 := Lib.hid (hf12.heap G11.out.2.1 id)
          have L12 := Lib.hid (L11.out.no hf12)
          clear hg12 hh12 hf12
          go_wp2_with fail
          refine (same_blk H11.out HX128.out L12.out).mono ?_
          rintro e w' ⟨rfl, rfl⟩
          rw [show (X == X) = true by simp]
          go_wp2_with fail
          refine (same_blk G12.out.2.1 HX128.out L12.out).mono ?_
          rintro e w' ⟨rfl, rfl⟩
          rw [show (X == X) = true by simp]
          go_wp2_with fail
          go_roundg (n - (j + 1))
          case rel => exact ⟨j + 1, by omega, by omega, by go_num, by first | (rw [HN.out]; done) | (rw [HN.out]; go_num), Lib.hid G12.out.2.2⟩
          case measure => omega
    · obtain rfl : n = j := by omega
      have F9 := HR
      have hz : keptOf kept n ((l.drop n).map PutD.pend) = 0 := by rw [List.drop_of_length_le (by have := hn.out; omega)]; rfl
      rw [hz]
      clear hz HR
      go_wp2_with fail
      go_loopg [19] n (fun m i wr => ∃ j : Nat, j ≤ n ∧ m + j = n ∧ i = .int .i64 j ∧ Hid (Fr No w8 wr))
      case atStart => exact ⟨0, by omega, by omega, rfl, F9⟩
      case round =>
        clear F9
        obtain ⟨j, hj, hm, rfl, HR⟩ := hrel
        by_cases hlt : j < n
        · have hjl : j < l.length := by have := hn.out; omega
          obtain ⟨p, hpp⟩ : ∃ p, l[j]? = some p := ⟨_, List.getElem?_eq_getElem hjl⟩
          have hqq : (l.map nextP)[j]? = some (nextP p) := by rw [List.getElem?_map, hpp]; rfl
          obtain ⟨s, hs⟩ : ∃ s, pl ((pl p.sector : Int) + 1) = s := ⟨_, rfl⟩
          have hs1024 : s < 1024 := by rw [← hs]; exact pl_lt _
          have hbp := pl_lt p.sector
          obtain ⟨g3, o3, ea3, hg3, hcells3⟩ := P8.out.1.get' hqq
          subst ea3
          have k3 := (hcells3 _ HR.out).1
          have hgq3 : g3 < wr.heap.size := by have := HR.out.size; omega
          simp only [nextP] at k3
          obtain ⟨gr, or', g', er, hrow, hblk, _⟩ := Y8.out.get (j := j) (X := D0.med s) (by rw [List.getElem?_map, hqq]; simp only [Option.map_some, nextP, hs])
          subst er
          have HROW := Lib.hid hrow
          have HPL : Hid (pl ((pl p.sector : Int) + 1) = s) := Lib.hid hs
          have HX128 : Hid ((D0.med s).length = 128) := Lib.hid (S0.out.disk.ok.med _)
          have HAM : Hid (∀ w', Fr No w8 w' → Calls Try.prog 34 #[.slice a n cap, .int .i64 s] w' fun e w'' => e = .returned (.bool (l.any fun p => pl p.sector == s)) ∧ Fr No w' w'') := Lib.hid fun w' hf => by
            have := among_any w' a cap l (by rw [hn.out]; exact HL.out.no (S8.out.st.fr.trans hf)) (by rw [hn.out]; omega) s
            rw [hn.out] at this
            exact this
          have HNO : Hid ((l.any fun p => pl p.sector == s) = false → D7.med s = D0.med s) := Lib.hid fun h => by
            rw [HU7.out.2.2, leftAt_none]
            cases hlk : lastK l K s n with
            | none => rfl
            | some k => exact absurd (lastK_mem _ _ _ _ _ hlk) (by rw [h]; simp)
          clear hcells3 hpp hqq hrow hblk hs
          go_wp2_with fail
          refine (place_any _ _).mono ?_; rintro e w' ⟨rfl, rfl⟩
          rw [HPL.out]
          go_wp2_with fail
          refine (Raw_any (S8.out.no HR.out).st.disk s hs1024).mono ?_
          rintro e w11 ⟨g11, rfl, hg11, hh11, hf11⟩
          have G11 := Lib.hid (And.intro hg11 (And.intro hh11 (HR.out.trans hf11)))
          clear hg11 hh11 hf11
          go_wp2_with fail
          refine (HAM.out _ G11.out.2.2).mono ?_
          rintro e w12 ⟨rfl, hf12⟩
          have F12 := Lib.hid (G11.out.2.2.trans hf12)
          have H12 := Lib.hid (hf12.heap G11.out.2.1 id)
          clear hf12
          cases hany : l.any fun p => pl p.sector == s with
          | true =>
            clear hany
            go_wp2_with fail
            go_roundg (n - (j + 1))
            case rel => exact ⟨j + 1, by omega, by omega, by go_num, F12⟩
            case measure => omega
          | false =>
            have r1 := (HROW.out _ F12.out).1
            have hgr : gr < w12.heap.size := World.block_lt_of_cell? _ _ r1
            have H12' := Lib.hid H12.out
            rw [HNO.out hany] at H12'
            clear hany
            go_wp2_with fail
            refine (same_blk H12'.out HX128.out (HROW.out _ F12.out).2).mono ?_
            rintro e w' ⟨rfl, rfl⟩
            rw [show (D0.med s == D0.med s) = true by simp]
            go_wp2_with fail
            go_roundg (n - (j + 1))
            case rel => exact ⟨j + 1, by omega, by omega, by go_num, F12⟩
            case measure => omega
        · obtain rfl : n = j := by omega
          go_wp2_with fail
          go_ret
          exact ⟨rfl, S8.out.st.fr.trans HR.out⟩
end Go.Proofs.Ytppllhdocajfiaa
