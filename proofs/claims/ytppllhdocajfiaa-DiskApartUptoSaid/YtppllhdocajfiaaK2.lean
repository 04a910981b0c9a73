/- DiskKeeps: the walk. -/
import Derived.Test.YtppllhdocajfiaaK1
import Derived.Deep.QuietTactic
import Derived.BigQuiet
set_option linter.unusedSimpArgs false
set_option linter.unusedVariables false
namespace Go.Proofs.Ytppllhdocajfiaa
open Go.RowKit

theorem flush_last {D : Dk} (h1 : D.armed = true) (h2 : D.left = 1) (h3 : D.down = false) : ∃ D', D.flush = (D', 0) ∧ D'.armed = true ∧ D'.left = 0 ∧ D'.down = false ∧ D'.cache = [] ∧ D'.acts = D.acts + 1 :=
  ⟨(D.act.1.drain fun _ => true), by simp [Dk.flush, Dk.act, h1, h2, h3], by simp [Dk.act, Dk.drain, h1, h2, h3], by simp [Dk.act, Dk.drain, h1, h2, h3], by simp [Dk.act, Dk.drain, h1, h2, h3], by simp [Dk.act, Dk.drain, h1, h2, h3], by simp [Dk.act, Dk.drain, h1, h2, h3]⟩
theorem flush_out {D : Dk} (h1 : D.armed = true) (h2 : D.left = 0) (h3 : D.down = false) : D.flush = ({ D with down := true }, 42) := by
  simp [Dk.flush, Dk.act, h1, h2, h3]

theorem mod_word (z : Int) (n : Nat) (h0 : 0 < n) (hn : n ≤ 2097152) : ∃ k : Nat, wrap64 ((IntKind.u64.wrap z).tmod (n : Int)) = (k : Int) ∧ k < n := by
  have e : IntKind.u64.wrap z = z % 18446744073709551616 := by simp [IntKind.wrap, IntKind.bits, IntKind.signed]
  have hz : 0 ≤ z % 18446744073709551616 := by omega
  have h1 := Int.emod_nonneg (z % 18446744073709551616) (show (n : Int) ≠ 0 by omega)
  have h2 := Int.emod_lt_of_pos (z % 18446744073709551616) (show (0 : Int) < n by omega)
  refine ⟨((z % 18446744073709551616) % (n : Int)).toNat, ?_, by omega⟩
  rw [e, Int.tmod_eq_emod_of_nonneg hz]
  generalize (z % 18446744073709551616) % (n : Int) = r at h1 h2
  unfold wrap64
  omega

set_option maxHeartbeats 16000000 in
set_option maxRecDepth 100000 in
theorem keeps_walk (w : World) (vs vl vb : Value) (script : List OpD) (l : List PutD) (B : List Int) (hs : OpsAt w vs script) (hl : PutsAt w vl l) (hk : LAt w vb (B.map (Value.int .i64))) (hB : ∀ z ∈ B, -9223372036854775808 ≤ z ∧ z ≤ 9223372036854775807) (hsl : script.length ≤ 2097152) (hll : l.length ≤ 2097152) (hkl : B.length ≤ 2097152) :
    Calls Try.prog 7 #[vs, vl, vb] w fun e w' => e = .returned (.bool true) ∧ Fr No w w' := by
  have HB := Lib.hid (fresh_any w vs script hs hsl)
  have HBB := Lib.hid hB
  obtain ⟨sa, scap, rfl, _⟩ := hs.1.len
  obtain ⟨a, cap, rfl, hcap, _⟩ := hl.len
  obtain ⟨ba, bcap, rfl, hbcap⟩ := hk.len
  obtain ⟨n, hn⟩ : ∃ n, Hid (l.length = n) := ⟨_, Lib.hid rfl⟩
  obtain ⟨sn, hsn⟩ : ∃ n, Hid (script.length = n) := ⟨_, Lib.hid rfl⟩
  obtain ⟨bn, hbn⟩ : ∃ n, Hid (B.length = n) := ⟨_, Lib.hid rfl⟩
  rw [List.length_map] at hk ⊢
  rw [hn.out] at hll hcap hl
  rw [hbn.out] at hkl hk
  rw [hn.out, hbn.out]
  rw [hsn.out] at HB hsl ⊢
  have HL := Lib.hid hl
  have HK := Lib.hid hk
  clear hs hl hk hbcap hB
  go_enter Try.func7, Try.ntmps7
  go_wp2_with fail
  refine HB.out.mono ?_
  rintro e w1 ⟨rfl, c0, D0, S0, hu0, ha0⟩
  have S0 := Lib.hid S0
  have HU0 := Lib.hid hu0
  clear hu0 HB
  go_wp2_with fail
  have hlaid := laid_ok S0.out.disk HU0.out.down HU0.out.armed (.slice a n cap) l (fun w' hf => HL.out.no (S0.out.two hf)) (by rw [HU0.out.cache, hn.out]; simp; omega) (by rw [hn.out]; omega)
  refine hlaid.mono ?_
  clear hlaid
  rintro e w2 ⟨rfl, ⟨c2, hd2, hc2⟩, hf2⟩
  rw [hn.out] at hd2
  obtain ⟨D1, hD1⟩ : ∃ D1 : Dk, Hid (D1 = { D0 with cache := D0.cache ++ l.map PutD.pend, acts := D0.acts + n }) := ⟨_, Lib.hid rfl⟩
  rw [← hD1.out] at hd2
  have HU1 : Hid (D1.cache = l.map PutD.pend ∧ D1.down = false ∧ D1.cache.length = n ∧ D1.acts ≤ sn + 1 + n) := Lib.hid (by
    rw [hD1.out]; exact ⟨by simp [HU0.out.cache], HU0.out.down, by simp [HU0.out.cache, hn.out], by simp only; omega⟩)
  have S2 := Lib.hid (S0.out.op hd2 (by omega) hf2)
  clear hd2 hc2 hf2 S0 ha0
  go_wp2_with fail
  refine (Arm_any S2.out.disk 1 (by omega) { D1 with armed := true, left := 1 } 0 (by have := HU1.out.2.1; simp [Dk.arm, this])).mono ?_
  rintro e w3 ⟨rfl, hd3, hf3⟩
  obtain ⟨D3, hD3⟩ : ∃ D3 : Dk, Hid (D3 = { D1 with armed := true, left := 1 }) := ⟨_, Lib.hid rfl⟩
  rw [← hD3.out] at hd3
  have HU3 : Hid (D3.armed = true ∧ D3.left = 1 ∧ D3.down = false ∧ D3.cache = l.map PutD.pend ∧ D3.cache.length = n ∧ D3.acts ≤ sn + 1 + n) := Lib.hid (by
    rw [hD3.out]; exact ⟨rfl, rfl, HU1.out.2.1, HU1.out.1, HU1.out.2.2.1, HU1.out.2.2.2⟩)
  obtain ⟨A, hA⟩ : ∃ A, Hid (D3.acts = A) := ⟨_, Lib.hid rfl⟩
  have HA0 : 0 ≤ A ∧ A ≤ 8388608 := by have h1 := hd3.ok.acts; have h2 := HU3.out.2.2.2.2.2; rw [hA.out] at h1 h2; omega
  have S3 := Lib.hid (S2.out.op1 hd3 (.inl rfl) hf3)
  clear hd3 hf3 S2
  go_wp2_with fail
  have hr := raws_any S3.out a cap l (by rw [hn.out]; exact HL.out.no S3.out.fr) (by rw [hn.out]; omega)
  rw [hn.out] at hr
  refine hr.mono ?_
  clear hr
  rintro e w4 ⟨v4, rfl, hx4, hf4⟩
  obtain ⟨a4, cap4, rfl⟩ := hx4.len
  rw [List.length_map, hn.out] at hx4 ⊢
  have S4 := Lib.hid (S3.out.no hf4)
  have X4 := Lib.hid hx4
  clear hx4 hf4 S3
  go_wp2_with fail
  refine (Acts_any S4.out.disk).mono ?_
  rintro e w' ⟨rfl, rfl⟩
  rw [hA.out]
  go_wp2_with fail
  go_loopg [10] bn (fun m i wr => ∃ j : Nat, j ≤ bn ∧ m + j = bn ∧ i = .int .i64 j ∧ Hid (Since w w4 wr c2 c2 D3))
  case atStart => exact ⟨0, by omega, by omega, rfl, Lib.hid (Since.start S4.out)⟩
  case round =>
    obtain ⟨j, hj, hm, rfl, HR⟩ := hrel
    by_cases hlt : j < bn
    · obtain ⟨z, hz⟩ : ∃ z, B[j]? = some z := ⟨_, List.getElem?_eq_getElem (by have := hbn.out; omega)⟩
      have hzr := HBB.out z (List.mem_of_getElem? hz)
      have hzc : ∃ g o, ba = some ⟨g, o, none⟩ ∧ g < w.heap.size ∧ w.cell? ⟨g, o + j, none⟩ = some (.int .i64 z) := by
        rcases HK.out with ⟨_, h⟩ | ⟨a', cap', h, _, hs⟩
        · rw [List.map_eq_nil_iff] at h; rw [h] at hz; cases hz
        · obtain ⟨kg, ko, rfl, hseg⟩ := hs (by rw [List.length_map]; have := hbn.out; omega)
          simp only [Value.slice.injEq] at h
          have hc := hseg j (.int .i64 z) (by rw [List.getElem?_map, hz]; rfl)
          exact ⟨kg, ko, h.1, World.block_lt_of_cell? w _ hc, hc⟩
      obtain ⟨g, o, rfl, hg, hcell⟩ := hzc
      have zc := (HR.out.st.fr.cell (p := ⟨g, o + j, none⟩) hg id).trans hcell
      have hgq : g < wr.heap.size := World.block_lt_of_cell? _ _ zc
      clear hcell hz
      obtain ⟨k11, hE11, hk11⟩ := mod_word z 11 (by omega) (by omega)
      have HE11 : Hid (wrap64 ((IntKind.u64.wrap z).tmod 11) = (k11 : Int)) := Lib.hid hE11
      clear hE11
      by_cases hn0 : 0 < n
      · obtain ⟨k, hE, hk⟩ := mod_word z n hn0 hll
        have HE := Lib.hid hE
        obtain ⟨p, hpp⟩ : ∃ p, l[k]? = some p := ⟨_, List.getElem?_eq_getElem (by have := hn.out; omega)⟩
        obtain ⟨gl, ol, ea, hgl, hcells⟩ := HL.out.get' hpp
        subst ea
        have k0 := (hcells _ HR.out.st.fr).1
        have hgq2 : gl < wr.heap.size := World.block_lt_of_cell? _ _ k0
        have hbp := pl_lt p.sector
        clear hcells hpp hE
        go_wp2_with (with_reducible show wpList _ _ _ (Oper.mk (some 58) _ _ _ _ _ :: _) _ _; refine Stop.mk ?_)
        rw [HE.out]
        refine Stop.go ?_
        go_wp2_with fail
        refine (place_any _ _).mono ?_; rintro e w' ⟨rfl, rfl⟩
        go_wp2_with fail
        rw [HE11.out]
        refine (refused_any HR.out.st (pl p.sector) hbp k11 hk11).mono ?_
        rintro e w5 ⟨r, rfl, hd5, hf5⟩
        have S5 := Lib.hid (HR.out.op1 hd5 (.inl rfl) hf5)
        clear hd5 hf5
        go_wp2_with fail
        go_roundg (bn - (j + 1))
        case rel => exact ⟨j + 1, by omega, by omega, by go_num, S5⟩
        case measure => omega
      · obtain rfl : n = 0 := by omega
        go_wp2_with fail
        rw [HE11.out]
        refine (refused_any HR.out.st 0 (by omega) k11 hk11).mono ?_
        rintro e w5 ⟨r, rfl, hd5, hf5⟩
        have S5 := Lib.hid (HR.out.op1 hd5 (.inl rfl) hf5)
        clear hd5 hf5
        go_wp2_with fail
        go_roundg (bn - (j + 1))
        case rel => exact ⟨j + 1, by omega, by omega, by go_num, S5⟩
        case measure => omega
    · obtain rfl : bn = j := by omega
      have S5 := HR
      clear HR
      go_wp2_with fail
      refine (Down_any S5.out.st.disk).mono ?_
      rintro e w' ⟨rfl, rfl⟩
      rw [HU3.out.2.2.1]
      go_wp2_with fail
      refine (Acts_any S5.out.st.disk).mono ?_
      rintro e w' ⟨rfl, rfl⟩
      rw [hA.out]
      go_wp2_with fail
      refine (Pending_any S5.out.st.disk (by have := HU3.out.2.2.2.2.1; omega)).mono ?_
      rintro e w6 ⟨v6, rfl, hown6, hf6⟩
      rw [HU3.out.2.2.2.1, List.length_map, hn.out] at hown6
      obtain ⟨a6, cap6, rfl, _⟩ := own_slice hown6
      have HO6 := Lib.hid (LAt.of_own hown6).1
      have S6 := Lib.hid (S5.out.no hf6)
      have X6 := Lib.hid (S6.out.rows X4.out)
      clear hown6 hf6 X4
      go_wp2_with fail
      go_loopg [15] n (fun m i wr => ∃ j : Nat, j ≤ n ∧ m + j = n ∧ i = .int .i64 j ∧ Hid (Fr No w6 wr))
      case atStart => exact ⟨0, by omega, by omega, rfl, Lib.hid (Fr.refl _ _)⟩
      case round =>
        obtain ⟨j, hj, hm, rfl, HR⟩ := hrel
        by_cases hlt : j < n
        · have hjl : j < l.length := by have := hn.out; omega
          obtain ⟨p, hpp⟩ : ∃ p, l[j]? = some p := ⟨_, List.getElem?_eq_getElem hjl⟩
          obtain ⟨g, o, ea, hg, hcells⟩ := HL.out.get' hpp
          subst ea
          have HCL : Hid (∀ w', Fr No w6 w' → w'.cell? ⟨g, o + j * 2, none⟩ = some (.int .i64 p.sector) ∧ g < w'.heap.size) := Lib.hid fun w' hf => ⟨(hcells w' (S6.out.st.fr.trans hf)).1, by have := S6.out.st.fr.size; have := hf.size; omega⟩
          obtain ⟨k0, hgq⟩ := HCL.out _ HR.out
          obtain ⟨gr, or', g', er, hrow, hblk, _⟩ := X6.out.get (j := j) (X := D3.med (pl p.sector)) (by rw [List.getElem?_map, hpp]; rfl)
          subst er
          have HROW := Lib.hid hrow
          have hbp := pl_lt p.sector
          have hpc : ∃ gp op, a6 = some ⟨gp, op, none⟩ ∧ gp < w6.heap.size ∧ w6.cell? ⟨gp, op + j, none⟩ = some (.int .i64 (pl p.sector)) := by
            have hget : (pends (l.map PutD.pend))[j]? = some (.int .i64 (pl p.sector)) := by unfold pends; rw [List.map_map, List.getElem?_map, hpp]; rfl
            rcases HO6.out with ⟨_, h⟩ | ⟨a', cap', h, _, hs⟩
            · rw [h] at hget; cases hget
            · obtain ⟨kg, ko, rfl, hseg⟩ := hs (by have := (List.getElem?_eq_some_iff.1 hget).1; omega)
              simp only [Value.slice.injEq] at h
              have hc := hseg j _ hget
              exact ⟨kg, ko, h.1, World.block_lt_of_cell? _ _ hc, hc⟩
          obtain ⟨gp, op, rfl, hgp, hpcell⟩ := hpc
          have HPC := Lib.hid hpcell
          have HX128 : Hid ((D3.med (pl p.sector)).length = 128) := Lib.hid (S6.out.st.disk.ok.med _)
          clear hcells hpp hrow hblk hpcell
          go_wp2_with fail
          refine (place_any _ _).mono ?_; rintro e w' ⟨rfl, rfl⟩
          go_wp2_with fail
          refine (Raw_any (S6.out.no HR.out).st.disk (pl p.sector) (pl_lt _)).mono ?_
          rintro e w11 ⟨g11, rfl, hg11, hh11, hf11⟩
          have G11 := Lib.hid (And.intro hg11 (And.intro hh11 (HR.out.trans hf11)))
          clear hg11 hh11 hf11
          have q0 := (G11.out.2.2.cell (p := ⟨gp, op + j, none⟩) hgp id).trans HPC.out
          obtain ⟨q1, q1g⟩ := HCL.out _ G11.out.2.2
          obtain ⟨q2, _⟩ := HROW.out _ G11.out.2.2
          have q0g : gp < w11.heap.size := World.block_lt_of_cell? _ _ q0
          have q2g : gr < w11.heap.size := World.block_lt_of_cell? _ _ q2
          have hi0 : (0 : Int) ≤ (j : Int) := by omega
          have hi1 : (j : Int) < (n : Int) := by omega
          have hne : ((pl p.sector : Int) == (pl p.sector : Int)) = true := by simp
          have HSAME : Hid (∀ m, Calls Try.prog 27 #[.slice (some ⟨g11, 0, none⟩) 128 128, .slice (some ⟨g', 0, none⟩) 128 128] (w11.drewN m) fun e w' => e = .returned (.bool true) ∧ w' = w11.drewN m) := Lib.hid fun m => by
            have hf := G11.out.2.2.drewN m
            have := same_blk (w := w11.drewN m) (v := .slice (some ⟨g', 0, none⟩) 128 128) G11.out.2.1 HX128.out (HROW.out _ hf).2
            rw [show (D3.med (pl p.sector) == D3.med (pl p.sector)) = true by simp] at this
            exact this.mono fun _ _ h => ⟨h.1, h.2.symm⟩
          go_wp2_with fail
          go_quiet (first | (go_at_call 17; refine Calls.quiet_of_same ((place_any _ _).mono fun _ _ h => ⟨h.1, h.2.symm⟩)) | (go_at_call 27; refine Calls.quiet_of_same (HSAME.out _)))
          go_wp2_with fail
          go_roundg (n - (j + 1))
          case rel => exact ⟨j + 1, by omega, by omega, by go_num, Lib.hid (G11.out.2.2.drewN _)⟩
          case measure => omega
        · obtain rfl : n = j := by omega
          have S7 := Lib.hid (S6.out.no HR.out)
          obtain ⟨D4, h4, h4a, h4l, h4d, h4c, h4n⟩ := flush_last HU3.out.1 HU3.out.2.1 HU3.out.2.2.1
          have H4 := Lib.hid h4
          have HU4 : Hid (D4.armed = true ∧ D4.left = 0 ∧ D4.down = false ∧ D4.cache = [] ∧ D4.acts = A + 1) := Lib.hid ⟨h4a, h4l, h4d, h4c, by rw [h4n, hA.out]⟩
          clear h4 h4a h4l h4d h4c h4n
          go_wp2_with fail
          refine (Flush_any S7.out.st.disk (by rw [hA.out]; omega) (by have := HU3.out.2.2.2.2.1; omega) D4 0 H4.out).mono ?_
          rintro e w8 ⟨rfl, ⟨c8, hd8, hc8⟩, hf8⟩
          have S8 := Lib.hid (S7.out.op1 hd8 (by omega) hf8)
          clear hd8 hc8 hf8
          go_wp2_with fail
          refine (Flush_any S8.out.st.disk (by rw [HU4.out.2.2.2.2]; omega) (by rw [HU4.out.2.2.2.1]; simp) _ _ (flush_out HU4.out.1 HU4.out.2.1 HU4.out.2.2.1)).mono ?_
          rintro e w9 ⟨rfl, ⟨c9, hd9, hc9⟩, hf9⟩
          have S9 := Lib.hid (S8.out.op1 hd9 (by omega) hf9)
          clear hd9 hc9 hf9
          go_wp2_with fail
          refine (Down_any S9.out.st.disk).mono ?_
          rintro e w' ⟨rfl, rfl⟩
          go_wp2_with fail
          go_ret
          exact ⟨rfl, S9.out.st.fr⟩
end Go.Proofs.Ytppllhdocajfiaa
