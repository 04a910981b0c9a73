/- DiskEdits: the walk. -/
import Derived.Test.YtppllhdocajfiaaE0
set_option linter.unusedSimpArgs false
set_option linter.unusedVariables false
namespace Go.Proofs.Ytppllhdocajfiaa
open Go.RowKit

set_option maxHeartbeats 16000000 in
set_option maxRecDepth 100000 in
theorem edits_walk (w : World) (vs vd : Value) (script : List OpD) (sec at' : Int) (x : UInt8) (L : List UInt8) (hs : OpsAt w vs script) (hd : LAt w vd (L.map bv)) (hsl : script.length ≤ 2097152) (hdl : L.length ≤ 2097152) :
    Calls Try.prog 5 #[.agg #[vs, .int .i64 sec, .int .u8 (x.toNat : Int), .int .i64 at', vd]] w fun e w' => e = .returned (.bool true) ∧ Fr No w w' := by
  obtain ⟨W, hW⟩ : ∃ W, Hid (W = w.alloc (.cells #[vs, .int .i64 sec, .int .u8 (x.toNat : Int), .int .i64 at', vd] 51)) := ⟨_, Lib.hid rfl⟩
  have HWF : Hid (Fr No w W) := Lib.hid (by rw [hW.out]; exact (Fr.refl _ w).alloc _)
  have HB := Lib.hid (fresh_any W vs script ⟨hs.1.keep (fun h => by rw [flat_length opcells 7 script (fun _ _ => rfl)]; omega) fun g hg _ => HWF.out.block g hg id, fun o ho => (hs.2 o ho).no HWF.out⟩ hsl)
  have HD := Lib.hid (hd.no HWF.out)
  have hWs : W.heap.size = w.heap.size + 1 := by rw [hW.out]; simp
  have hblk : W.heap[w.heap.size]? = some (.cells #[vs, .int .i64 sec, .int .u8 (x.toNat : Int), .int .i64 at', vd] 51 (0, 0)) := by rw [hW.out]; exact heap_alloc_new w _
  obtain ⟨sa, scap, rfl, _⟩ := hs.1.len
  obtain ⟨da, dcap, rfl, hdcap⟩ := hd.len
  obtain ⟨sn, hsn⟩ : ∃ n, Hid (script.length = n) := ⟨_, Lib.hid rfl⟩
  obtain ⟨dn, hdn⟩ : ∃ n, Hid (L.length = n) := ⟨_, Lib.hid rfl⟩
  rw [List.length_map, hdn.out] at hblk HD
  rw [List.length_map, hdn.out] at hW
  rw [List.length_map, hdn.out]
  rw [hdn.out] at hdl
  rw [hsn.out] at HB hsl hblk hW ⊢
  clear hs hd hdcap
  have HCELLS : Hid (∀ w', Fr No W w' → w'.cell? ⟨w.heap.size, 0, none⟩ = some (.slice sa sn scap) ∧ w'.cell? ⟨w.heap.size, 1, none⟩ = some (.int .i64 sec) ∧ w'.cell? ⟨w.heap.size, 2, none⟩ = some (.int .u8 (x.toNat : Int)) ∧ w'.cell? ⟨w.heap.size, 3, none⟩ = some (.int .i64 at') ∧ w'.cell? ⟨w.heap.size, 4, none⟩ = some (.slice da dn dcap)) := Lib.hid fun w' hf => by
    have hb := hf.heap hblk id
    exact ⟨cell_blk hb rfl, cell_blk hb rfl, cell_blk hb rfl, cell_blk hb rfl, cell_blk hb rfl⟩
  obtain ⟨c0', c1', c2', c3', c4'⟩ := HCELLS.out _ (Fr.refl _ _)
  have HWS := Lib.hid hWs
  clear hblk hWs
  go_enter Try.func5, Try.ntmps5
  go_wp2_with fail
  rw [← hW.out]
  refine HB.out.mono ?_
  rintro e w1 ⟨rfl, c0, D0, S0, hu0, ha0⟩
  have S0 := Lib.hid S0
  have HU0 := Lib.hid hu0
  clear hu0 HB c0' c1' c2' c3' c4'
  obtain ⟨c0', c1', c2', c3', c4'⟩ := HCELLS.out _ S0.out.fr
  have hwlt : w.heap.size < w1.heap.size := World.block_lt_of_cell? _ _ c0'
  go_wp2_with fail
  go_region
  go_wp2_with fail
  obtain ⟨W2, hW2⟩ : ∃ W2, W2 = (w1.alloc (.cells #[.int .i64 sec, .int .u8 (x.toNat : Int)] 30)).drew := ⟨_, rfl⟩
  rw [← hW2]
  have HF2 : Hid (Fr No w1 W2) := Lib.hid (by rw [hW2]; exact ((Fr.refl _ w1).alloc _).drew)
  have HPB : Hid (W2.heap[w1.heap.size]? = some (.cells #[.int .i64 sec, .int .u8 (x.toNat : Int)] 30 (0, 0))) := Lib.hid (by rw [hW2]; exact heap_alloc_new w1 _)
  have S2 := Lib.hid (S0.out.no HF2.out)
  have HPN : Hid (w1.heap.size ≠ W.heap.size ∧ w1.heap.size ≠ c0 ∧ w1.heap.size < W2.heap.size) := Lib.hid (by have := S0.out.disk.lt; have := lt_of_block HPB.out; omega)
  clear hW2 c0' c1' c2' c3' c4' hwlt HCELLS
  refine (place_any _ _).mono ?_; rintro e w' ⟨rfl, rfl⟩
  have hs1024 := pl_lt sec
  obtain ⟨s, hs⟩ : ∃ s, pl sec = s := ⟨_, rfl⟩
  rw [hs] at hs1024 ⊢
  clear hs
  obtain ⟨k, hE, hk⟩ := mod_word at' 129 (by omega) (by omega)
  have HE : Hid (wrap64 ((IntKind.u64.wrap at').tmod 129) = (k : Int)) := Lib.hid hE
  clear hE
  obtain ⟨m, hm⟩ : ∃ m, k + m = 128 := ⟨128 - k, by omega⟩
  have HMI : Hid ((128 : Int) - (k : Int) = (m : Int)) := Lib.hid (by omega)
  go_wp2_with fail
  rw [HE.out]
  have hcp := copied_any W2 (.slice da dn dcap) (L.map bv) ((HD.out.no S0.out.fr).no HF2.out) (bvs_one _) (by rw [List.length_map, hdn.out]; omega)
  rw [List.length_map, hdn.out] at hcp
  refine hcp.mono ?_
  clear hcp
  rintro e w3 ⟨v3, rfl, hown3, hf3⟩
  obtain ⟨a3, cap3, rfl, hpos3⟩ := own_slice hown3
  have S3 := Lib.hid (S2.out.no hf3)
  have HPB3 := Lib.hid (hf3.heap HPB.out id)
  have HO3 := Lib.hid hown3
  have HSZ3 := Lib.hid hf3.size
  clear hown3 hf3
  go_wp2_with (with_reducible show wpList _ _ _ (Oper.mk (some 43) _ _ _ _ _ :: _) _ _; refine Stop.mk ?_)
  rw [HMI.out]
  refine Stop.go ?_
  by_cases hlong : m < dn
  · have hl1 : (m : Int) < (dn : Int) := by omega
    obtain ⟨g3, rfl, hc3, hg3, hg3'⟩ := hpos3 (by omega)
    go_wp2_with (with_reducible show wpList _ _ _ (Oper.mk (some 47) _ _ _ _ _ :: _) _ _; refine Stop.mk ?_)
    rw [HMI.out]
    refine Stop.go ?_
    obtain ⟨X, hX⟩ : ∃ X, Hid (X = L.take m) := ⟨_, Lib.hid rfl⟩
    have HX : Hid (X.length = m) := Lib.hid (by rw [hX.out, List.length_take, hdn.out]; omega)
    have HXO : Hid (w3.ownsRow W2.heap.size 5 1 (.slice (some ⟨g3, 0, none⟩) m cap3) m (X.map bv)) := Lib.hid (by
      have := own_cut HO3.out (m := m) (by omega)
      rw [← List.map_take, ← hX.out] at this; exact this)
    have hxm : m ≤ m := Nat.le_refl _
    clear hpos3
    go_wp2_with fail
    refine (Raw_any S3.out.disk s hs1024).mono ?_
    rintro e w4 ⟨g8, rfl, hg8, hh8, hf4⟩
    have S4 := Lib.hid (S3.out.no hf4)
    have HPB4 := Lib.hid (hf4.heap HPB3.out id)
    have HXO4 := Lib.hid (own_fr HXO.out hf4 fun _ _ => id)
    have H8 := Lib.hid (And.intro hg8 hh8)
    clear hg8 hh8 hf4
    go_wp2_with fail
    refine (place_any _ _).mono ?_; rintro e w' ⟨rfl, rfl⟩
    obtain ⟨s2, hs2⟩ : ∃ s2, pl ((s : Int) + 1) = s2 := ⟨_, rfl⟩
    have hs2b : s2 < 1024 ∧ s2 ≠ s := by rw [← hs2]; unfold pl; omega
    have HS2 := Lib.hid hs2
    rw [hs2]
    clear hs2
    go_wp2_with fail
    refine (Raw_any S4.out.disk s2 hs2b.1).mono ?_
    rintro e w5 ⟨g10, rfl, hg10, hh10, hf5⟩
    have S5 := Lib.hid (S4.out.no hf5)
    have HPB5 := Lib.hid (hf5.heap HPB4.out id)
    have HXO5 := Lib.hid (own_fr HXO4.out hf5 fun _ _ => id)
    have H85 := Lib.hid (hf5.heap H8.out.2 id)
    have H10 := Lib.hid hh10
    have HNE : Hid (g10 ≠ g8 ∧ g8 < w5.heap.size ∧ w3.heap.size ≤ g8 ∧ w4.heap.size ≤ g10 ∧ g8 < w4.heap.size) := Lib.hid (by have h1 := lt_of_block H8.out.2; have := hf5.size; exact ⟨by omega, by omega, H8.out.1, hg10, h1⟩)
    have q1 : w5.cell? ⟨w1.heap.size, 1, none⟩ = some (.int .u8 (x.toNat : Int)) := cell_blk HPB5.out rfl
    have q1g : w1.heap.size < w5.heap.size := lt_of_block HPB5.out
    clear hg10 hh10 hf5
    go_wp2_with fail
    refine (full_any _ x).mono ?_
    rintro e w6 ⟨gf, capf, rfl, hown6, hf6⟩
    have S6 := Lib.hid ((Since.start S5.out).no hf6)
    have HO6 := Lib.hid hown6
    have hgf : gf ≠ W.heap.size := by have := (own_base hown6).1; have := S5.out.size; omega
    clear hown6 hf6
    go_wp2_with fail
    refine (Write_own S6.out.st.disk s hs1024 HO6.out hgf (by omega) (by rw [HU0.out.cache]; simp) _ 0 (write_up HU0.out.down HU0.out.armed _ _)).mono ?_
    rintro e w7 ⟨rfl, ⟨c7, hd7, hc7⟩, hf7⟩
    obtain ⟨R, hR⟩ : ∃ R : List UInt8, Hid (R = List.replicate 128 x) := ⟨_, Lib.hid rfl⟩
    rw [← hR.out] at hd7
    obtain ⟨D1, hD1⟩ : ∃ D1 : Dk, Hid (D1 = { D0 with cache := D0.cache ++ [(s, R)], acts := D0.acts + 1 }) := ⟨_, Lib.hid rfl⟩
    rw [← hD1.out] at hd7
    have HU1 : Hid (D1.down = false ∧ D1.armed = false ∧ D1.cache = [(s, R)] ∧ D1.med = D0.med ∧ D1.acts ≤ sn + 2) := Lib.hid (by
      rw [hD1.out]; exact ⟨HU0.out.down, HU0.out.armed, by simp [HU0.out.cache], rfl, by simp only; omega⟩)
    have S7 := Lib.hid (S6.out.op hd7 (by omega) hf7)
    clear hd7 hf7
    have HPB7 := Lib.hid (S7.out.fr.heap HPB5.out (Two.not HPN.out.1 HPN.out.2.1))
    have q1 : w7.cell? ⟨w1.heap.size, 1, none⟩ = some (.int .u8 (x.toNat : Int)) := cell_blk HPB7.out rfl
    have q1g : w1.heap.size < w7.heap.size := lt_of_block HPB7.out
    have HBB : Hid (W.heap.size < W2.heap.size ∧ c0 < W2.heap.size ∧ W2.heap.size ≤ w3.heap.size) := Lib.hid (by have := S2.out.disk.lt; have := HSZ3.out; omega)
    have HXB : Hid (∀ g, (Value.slice (some ⟨g3, 0, none⟩) m cap3).ownBlock = some g → g < w3.heap.size) := Lib.hid (by
      intro g hg
      rcases HXO.out.2 with ⟨h, _⟩ | ⟨g', cap', cur, h, _, hh', _⟩
      · rw [h] at hg; simp [Value.ownBlock] at hg
      · rw [h] at hg
        obtain rfl : g' = g := by simpa [Value.ownBlock] using hg
        exact lt_of_block hh')
    by_cases hodd : x.toNat % 2 = 1
    · go_wp2_with fail
      refine (Arm_any S7.out.st.disk 0 (by omega) { D1 with armed := true, left := 0 } 0 (by have := HU1.out.1; simp [Dk.arm, this])).mono ?_
      rintro e wa ⟨rfl, hda, hfa⟩
      obtain ⟨Da, hDa⟩ : ∃ Da : Dk, Hid (Da = { D1 with armed := true, left := 0 }) := ⟨_, Lib.hid rfl⟩
      rw [← hDa.out] at hda
      have HUa : Hid (Da.armed = true ∧ Da.left = 0 ∧ Da.down = false ∧ Da.med = D0.med ∧ Da.cache = [(s, R)] ∧ Da.acts ≤ sn + 2) := Lib.hid (by
        rw [hDa.out]; exact ⟨rfl, rfl, HU1.out.1, HU1.out.2.2.2.1, HU1.out.2.2.1, HU1.out.2.2.2.2⟩)
      have Sa := Lib.hid (S7.out.op1 hda (.inl rfl) hfa)
      clear hda hfa
      go_wp2_with fail
      refine (Flush_any Sa.out.st.disk (by have := HUa.out.2.2.2.2.2; omega) (by rw [HUa.out.2.2.2.2.1]; simp) _ _ (flush_out HUa.out.1 HUa.out.2.1 HUa.out.2.2.1)).mono ?_
      rintro e w8 ⟨rfl, ⟨c8, hd8, hc8⟩, hf8⟩
      obtain ⟨D3, hD3⟩ : ∃ D3 : Dk, Hid (D3 = { Da with down := true }) := ⟨_, Lib.hid rfl⟩
      rw [← hD3.out] at hd8
      have HU3 : Hid (D3.med = D0.med ∧ D3.cache = [(s, R)] ∧ D3.acts ≤ sn + 2) := Lib.hid (by rw [hD3.out]; exact ⟨HUa.out.2.2.2.1, HUa.out.2.2.2.2.1, HUa.out.2.2.2.2.2⟩)
      have S8 := Lib.hid (Sa.out.op1 hd8 (by omega) hf8)
      clear hd8 hc8 hf8
      go_wp2_with fail
      have hed := Edit_go S8.out.st.disk s hs1024 k (some ⟨g3, 0, none⟩) cap3 X (by rw [HX.out]; omega) (LAt.segOf (LAt.of_own (own_fr HXO5.out S8.out.fr (fun g hg => by have := (LAt.of_own HXO5.out).2.2 g hg; exact Two.not (by have := HBB.out; omega) (by have := HBB.out; omega)))).1)
      rw [HX.out] at hed
      refine hed.mono ?_
      clear hed
      rintro e w9 ⟨rfl, hd9, hf9⟩
      obtain ⟨D4, hD4⟩ : ∃ D4 : Dk, Hid (D4 = D3.edit s k X) := ⟨_, Lib.hid rfl⟩
      rw [← hD4.out] at hd9
      have HU4 : Hid (D4.med s = splice (D0.med s) k X ∧ D4.med s2 = D0.med s2 ∧ D4.cache = [(s, R)] ∧ D4.down = D3.down ∧ D4.armed = D3.armed ∧ D4.acts ≤ sn + 2) := Lib.hid (by
        rw [hD4.out]
        exact ⟨by rw [edit_same, HU3.out.1], by rw [edit_other _ _ _ _ _ hs2b.2, HU3.out.1], HU3.out.2.1, rfl, rfl, HU3.out.2.2⟩)
      have S9 := Lib.hid (S8.out.op1 hd9 (.inl rfl) hf9)
      clear hd9 hf9
      have HG8 : Hid (g8 ≠ W.heap.size ∧ g8 ≠ c0 ∧ W2.heap.size ≤ g8 ∧ g10 ≠ W.heap.size ∧ g10 ≠ c0) := Lib.hid (by have := HNE.out; have := HBB.out; have := HSZ3.out; have := S3.out.fr; omega)
      have HG8c : Hid (g8 ≠ c8 ∧ g8 ≠ w1.heap.size) := Lib.hid (by have := HNE.out; have := HBB.out; have := S9.out.cc; have := HG8.out; have := HPN.out; omega)
      have HM0 : Hid (w9.heap[g8]? = some (.cells ((D0.med s).map bv).toArray 5 (0, 0))) := Lib.hid (S9.out.fr.heap H85.out (Two.not HG8.out.1 HG8.out.2.1))
      have HXL : Hid (∀ w', Fr (One g8) w9 w' → LAt w' (.slice (some ⟨g3, 0, none⟩) m cap3) (X.map bv)) := Lib.hid fun w' hf => by
        have h1 := LAt.of_own (own_fr HXO5.out S9.out.fr (fun g hg => by have := (LAt.of_own HXO5.out).2.2 g hg; exact Two.not (by have := HBB.out; omega) (by have := HBB.out; omega)))
        exact h1.1.fr hf fun g hg hv => One.not (by have := HXB.out g hv; have := HNE.out; omega)
      have HM128 : Hid ((D0.med s).length = 128) := Lib.hid (S3.out.disk.ok.med s)
      have hXn := HX.out
      go_wp2_with fail
      go_loopg [12] m (fun mm i wr => ∃ j : Nat, j ≤ m ∧ mm + j = m ∧ i = .int .i64 j ∧ Hid (Fr (One g8) w9 wr ∧ wr.heap[g8]? = some (.cells ((splice (D0.med s) k (X.take j)).map bv).toArray 5 (0, 0))))
      case atStart => exact ⟨0, by omega, by omega, rfl, Lib.hid ⟨Fr.refl _ _, by rw [splice_zero _ _ _ (by rw [HM128.out]; omega)]; exact HM0.out⟩⟩
      case round =>
        obtain ⟨j, hj, hmj, rfl, HR⟩ := hrel
        by_cases hlt : j < m
        · obtain ⟨y, hy⟩ : ∃ y, X[j]? = some y := ⟨_, List.getElem?_eq_getElem (by omega)⟩
          obtain ⟨gd, od, ed, hseg⟩ := (HXL.out wr HR.out.1).segOf (by rw [List.length_map]; omega)
          have hyc := hseg j (bv y) (by rw [List.getElem?_map, hy]; rfl)
          have hgd : gd < wr.heap.size := World.block_lt_of_cell? _ _ hyc
          have HY := Lib.hid hy
          cases ed
          try simp only [Nat.zero_add] at hyc
          clear hseg hy
          have hlen8 : (splice (D0.med s) k (X.take j)).length = 128 := by rw [length_splice _ _ _ (by rw [List.length_take, HM128.out]; omega), HM128.out]
          obtain ⟨z, hz⟩ : ∃ z, ((splice (D0.med s) k (X.take j)).map bv).toArray[k + j]? = some z := ⟨_, Array.getElem?_eq_getElem (by simp [hlen8]; omega)⟩
          have hzc := cell_blk HR.out.2 hz
          have hzf := free_blk HR.out.2 (k + j)
          have hg8r : g8 < wr.heap.size := lt_of_block HR.out.2
          have hkj0 : (0 : Int) ≤ (k : Int) + (j : Int) := by omega
          have hkj1 : (k : Int) + (j : Int) < 128 := by omega
          clear hz hlen8
          unfold bv at hyc
          go_wp2_with fail
          go_roundg (m - (j + 1))
          case rel =>
            refine ⟨j + 1, by omega, by omega, by go_num, Lib.hid ⟨HR.out.1.trans (Fr.set1 _ _ _ _), ?_⟩⟩
            rw [heap_setCell_same _ _ _ _ _ _ HR.out.2, splice_take _ _ _ _ _ HY.out (by rw [HM128.out]; omega)]
            simp [bv]
          case measure => omega
        · have hjn : m = j := by omega
          have hjX : X.take j = X := List.take_of_length_le (by omega)
          obtain ⟨M, hM⟩ : ∃ M, Hid (M = splice (D0.med s) k X) := ⟨_, Lib.hid rfl⟩
          have HW8 : Hid (wr.heap[g8]? = some (.cells (M.map bv).toArray 5 (0, 0))) := Lib.hid (by have := HR.out.2; rw [hjX, ← hM.out] at this; exact this)
          have HW10 : Hid (wr.heap[g10]? = some (.cells ((D0.med s2).map bv).toArray 5 (0, 0))) := Lib.hid (HR.out.1.heap (S9.out.fr.heap H10.out (Two.not HG8.out.2.2.2.1 HG8.out.2.2.2.2)) (One.not HNE.out.1))
          have HWP : Hid (wr.heap[w1.heap.size]? = some (.cells #[.int .i64 sec, .int .u8 (x.toNat : Int)] 30 (0, 0))) := Lib.hid (HR.out.1.heap (S9.out.fr.heap HPB5.out (Two.not HPN.out.1 HPN.out.2.1)) (One.not (Ne.symm HG8c.out.2)))
          have S10 := Lib.hid (S9.out.st.other HR.out.1 HG8.out.1 HG8c.out.1 (by have := HG8.out; have := HBB.out; omega))
          have HML : Hid (M.length = 128 ∧ D4.med s = M) := Lib.hid ⟨by rw [hM.out, ← HU4.out.1]; exact S10.out.disk.ok.med s, by rw [hM.out]; exact HU4.out.1⟩
          have HOL : Hid ((D0.med s2).length = 128) := Lib.hid (S3.out.disk.ok.med s2)
          clear HR hjX
          go_wp2_with fail
          refine (Raw_any S10.out.disk s hs1024).mono ?_
          rintro e w11 ⟨g11, rfl, hg11, hh11, hf11⟩
          rw [HML.out.2] at hh11
          have S11 := Lib.hid (S10.out.no hf11)
          have F11 := Lib.hid (And.intro hh11 hf11)
          clear hg11 hh11 hf11
          go_wp2_with fail
          refine (place_any _ _).mono ?_; rintro e w' ⟨rfl, rfl⟩
          rw [HS2.out]
          go_wp2_with fail
          refine (Raw_any S11.out.disk s2 hs2b.1).mono ?_
          rintro e w12 ⟨g12, rfl, hg12, hh12, hf12⟩
          rw [HU4.out.2.1] at hh12
          have S12 := Lib.hid (S11.out.no hf12)
          have F12 := Lib.hid (And.intro hh12 (F11.out.2.trans hf12))
          have H11 := Lib.hid (hf12.heap F11.out.1 id)
          clear hg12 hh12 hf12
          go_wp2_with fail
          refine (same_blk H11.out HML.out.1 (blk_LAt (F12.out.2.heap HW8.out id) HML.out.1)).mono ?_
          rintro e w' ⟨rfl, rfl⟩
          rw [show (M == M) = true by simp]
          go_wp2_with fail
          refine (same_blk F12.out.1 HOL.out (blk_LAt (F12.out.2.heap HW10.out id) HOL.out)).mono ?_
          rintro e w' ⟨rfl, rfl⟩
          rw [show (D0.med s2 == D0.med s2) = true by simp]
          go_wp2_with fail
          refine (Pending_any S12.out.disk (by rw [HU4.out.2.2.1]; simp)).mono ?_
          rintro e w13 ⟨v13, rfl, hown13, hf13⟩
          obtain ⟨a13, cap13, rfl, _⟩ := own_slice hown13
          rw [show D4.cache.length = 1 by rw [HU4.out.2.2.1]; rfl]
          have S13 := Lib.hid (S12.out.no hf13)
          have F13 := Lib.hid (F12.out.2.trans hf13)
          clear hown13 hf13
          have q1 : w13.cell? ⟨w1.heap.size, 1, none⟩ = some (.int .u8 (x.toNat : Int)) := cell_blk (F13.out.heap HWP.out id) rfl
          have q1g : w1.heap.size < w13.heap.size := World.block_lt_of_cell? _ _ q1
          go_wp2_with fail
          refine (Crash_any S13.out.disk (by rw [HU4.out.2.2.1]; simp) (.slice none 0 0) [] (fun _ _ => .inl ⟨rfl, rfl⟩)).mono ?_
          rintro e w14 ⟨rfl, hd14, hf14⟩
          rw [kept_none]
          have S14 := Lib.hid (S13.out.op1 hd14 (.inr (.inl rfl)) hf14)
          have HW14 := Lib.hid (hf14.heap (F13.out.heap HW8.out id) (One.not HG8.out.1))
          clear hd14 hf14
          have HMC : Hid ((D4.crash []).med s = M ∧ (D4.crash []).read s = M) := Lib.hid (by
            have h1 : (D4.crash []).med s = M := by rw [crash_none]; exact HML.out.2
            exact ⟨h1, h1⟩)
          go_wp2_with fail
          refine (same2_any S14.out rfl (by show 0 ≤ _; omega) s hs1024 _ M (blk_LAt HW14.out HML.out.1) HMC.out.1 HMC.out.2).mono ?_
          rintro e w15 ⟨rfl, hf15⟩
          have S15 := Lib.hid (S14.out.no hf15)
          clear hf15
          go_wp2_with fail
          go_ret
          exact ⟨rfl, HWF.out.trans S15.out.fr⟩
    · have heven : x.toNat % 2 = 0 := by omega
      obtain ⟨D3, hD3⟩ : ∃ D3 : Dk, D3 = D1 := ⟨_, rfl⟩
      obtain ⟨c8, hc8⟩ : ∃ c8, c8 = c7 := ⟨_, rfl⟩
      obtain ⟨w8, hw8⟩ : ∃ w8, w8 = w7 := ⟨_, rfl⟩
      subst hD3; subst hc8; subst hw8
      have HU3 : Hid (D3.med = D0.med ∧ D3.cache = [(s, R)] ∧ D3.acts ≤ sn + 2) := Lib.hid ⟨HU1.out.2.2.2.1, HU1.out.2.2.1, HU1.out.2.2.2.2⟩
      have HUP : Hid (D3.down = false ∧ D3.armed = false) := Lib.hid ⟨HU1.out.1, HU1.out.2.1⟩
      have S8 := S7
      go_wp2_with fail
      have hed := Edit_go S8.out.st.disk s hs1024 k (some ⟨g3, 0, none⟩) cap3 X (by rw [HX.out]; omega) (LAt.segOf (LAt.of_own (own_fr HXO5.out S8.out.fr (fun g hg => by have := (LAt.of_own HXO5.out).2.2 g hg; exact Two.not (by have := HBB.out; omega) (by have := HBB.out; omega)))).1)
      rw [HX.out] at hed
      refine hed.mono ?_
      clear hed
      rintro e w9 ⟨rfl, hd9, hf9⟩
      obtain ⟨D4, hD4⟩ : ∃ D4 : Dk, Hid (D4 = D3.edit s k X) := ⟨_, Lib.hid rfl⟩
      rw [← hD4.out] at hd9
      have HU4 : Hid (D4.med s = splice (D0.med s) k X ∧ D4.med s2 = D0.med s2 ∧ D4.cache = [(s, R)] ∧ D4.down = D3.down ∧ D4.armed = D3.armed ∧ D4.acts ≤ sn + 2) := Lib.hid (by
        rw [hD4.out]
        exact ⟨by rw [edit_same, HU3.out.1], by rw [edit_other _ _ _ _ _ hs2b.2, HU3.out.1], HU3.out.2.1, rfl, rfl, HU3.out.2.2⟩)
      have S9 := Lib.hid (S8.out.op1 hd9 (.inl rfl) hf9)
      clear hd9 hf9
      have HG8 : Hid (g8 ≠ W.heap.size ∧ g8 ≠ c0 ∧ W2.heap.size ≤ g8 ∧ g10 ≠ W.heap.size ∧ g10 ≠ c0) := Lib.hid (by have := HNE.out; have := HBB.out; have := HSZ3.out; have := S3.out.fr; omega)
      have HG8c : Hid (g8 ≠ c8 ∧ g8 ≠ w1.heap.size) := Lib.hid (by have := HNE.out; have := HBB.out; have := S9.out.cc; have := HG8.out; have := HPN.out; omega)
      have HM0 : Hid (w9.heap[g8]? = some (.cells ((D0.med s).map bv).toArray 5 (0, 0))) := Lib.hid (S9.out.fr.heap H85.out (Two.not HG8.out.1 HG8.out.2.1))
      have HXL : Hid (∀ w', Fr (One g8) w9 w' → LAt w' (.slice (some ⟨g3, 0, none⟩) m cap3) (X.map bv)) := Lib.hid fun w' hf => by
        have h1 := LAt.of_own (own_fr HXO5.out S9.out.fr (fun g hg => by have := (LAt.of_own HXO5.out).2.2 g hg; exact Two.not (by have := HBB.out; omega) (by have := HBB.out; omega)))
        exact h1.1.fr hf fun g hg hv => One.not (by have := HXB.out g hv; have := HNE.out; omega)
      have HM128 : Hid ((D0.med s).length = 128) := Lib.hid (S3.out.disk.ok.med s)
      have hXn := HX.out
      go_wp2_with fail
      go_loopg [12] m (fun mm i wr => ∃ j : Nat, j ≤ m ∧ mm + j = m ∧ i = .int .i64 j ∧ Hid (Fr (One g8) w9 wr ∧ wr.heap[g8]? = some (.cells ((splice (D0.med s) k (X.take j)).map bv).toArray 5 (0, 0))))
      case atStart => exact ⟨0, by omega, by omega, rfl, Lib.hid ⟨Fr.refl _ _, by rw [splice_zero _ _ _ (by rw [HM128.out]; omega)]; exact HM0.out⟩⟩
      case round =>
        obtain ⟨j, hj, hmj, rfl, HR⟩ := hrel
        by_cases hlt : j < m
        · obtain ⟨y, hy⟩ : ∃ y, X[j]? = some y := ⟨_, List.getElem?_eq_getElem (by omega)⟩
          obtain ⟨gd, od, ed, hseg⟩ := (HXL.out wr HR.out.1).segOf (by rw [List.length_map]; omega)
          have hyc := hseg j (bv y) (by rw [List.getElem?_map, hy]; rfl)
          have hgd : gd < wr.heap.size := World.block_lt_of_cell? _ _ hyc
          have HY := Lib.hid hy
          cases ed
          try simp only [Nat.zero_add] at hyc
          clear hseg hy
          have hlen8 : (splice (D0.med s) k (X.take j)).length = 128 := by rw [length_splice _ _ _ (by rw [List.length_take, HM128.out]; omega), HM128.out]
          obtain ⟨z, hz⟩ : ∃ z, ((splice (D0.med s) k (X.take j)).map bv).toArray[k + j]? = some z := ⟨_, Array.getElem?_eq_getElem (by simp [hlen8]; omega)⟩
          have hzc := cell_blk HR.out.2 hz
          have hzf := free_blk HR.out.2 (k + j)
          have hg8r : g8 < wr.heap.size := lt_of_block HR.out.2
          have hkj0 : (0 : Int) ≤ (k : Int) + (j : Int) := by omega
          have hkj1 : (k : Int) + (j : Int) < 128 := by omega
          clear hz hlen8
          unfold bv at hyc
          go_wp2_with fail
          go_roundg (m - (j + 1))
          case rel =>
            refine ⟨j + 1, by omega, by omega, by go_num, Lib.hid ⟨HR.out.1.trans (Fr.set1 _ _ _ _), ?_⟩⟩
            rw [heap_setCell_same _ _ _ _ _ _ HR.out.2, splice_take _ _ _ _ _ HY.out (by rw [HM128.out]; omega)]
            simp [bv]
          case measure => omega
        · have hjn : m = j := by omega
          have hjX : X.take j = X := List.take_of_length_le (by omega)
          obtain ⟨M, hM⟩ : ∃ M, Hid (M = splice (D0.med s) k X) := ⟨_, Lib.hid rfl⟩
          have HW8 : Hid (wr.heap[g8]? = some (.cells (M.map bv).toArray 5 (0, 0))) := Lib.hid (by have := HR.out.2; rw [hjX, ← hM.out] at this; exact this)
          have HW10 : Hid (wr.heap[g10]? = some (.cells ((D0.med s2).map bv).toArray 5 (0, 0))) := Lib.hid (HR.out.1.heap (S9.out.fr.heap H10.out (Two.not HG8.out.2.2.2.1 HG8.out.2.2.2.2)) (One.not HNE.out.1))
          have HWP : Hid (wr.heap[w1.heap.size]? = some (.cells #[.int .i64 sec, .int .u8 (x.toNat : Int)] 30 (0, 0))) := Lib.hid (HR.out.1.heap (S9.out.fr.heap HPB5.out (Two.not HPN.out.1 HPN.out.2.1)) (One.not (Ne.symm HG8c.out.2)))
          have S10 := Lib.hid (S9.out.st.other HR.out.1 HG8.out.1 HG8c.out.1 (by have := HG8.out; have := HBB.out; omega))
          have HML : Hid (M.length = 128 ∧ D4.med s = M) := Lib.hid ⟨by rw [hM.out, ← HU4.out.1]; exact S10.out.disk.ok.med s, by rw [hM.out]; exact HU4.out.1⟩
          have HOL : Hid ((D0.med s2).length = 128) := Lib.hid (S3.out.disk.ok.med s2)
          clear HR hjX
          go_wp2_with fail
          refine (Raw_any S10.out.disk s hs1024).mono ?_
          rintro e w11 ⟨g11, rfl, hg11, hh11, hf11⟩
          rw [HML.out.2] at hh11
          have S11 := Lib.hid (S10.out.no hf11)
          have F11 := Lib.hid (And.intro hh11 hf11)
          clear hg11 hh11 hf11
          go_wp2_with fail
          refine (place_any _ _).mono ?_; rintro e w' ⟨rfl, rfl⟩
          rw [HS2.out]
          go_wp2_with fail
          refine (Raw_any S11.out.disk s2 hs2b.1).mono ?_
          rintro e w12 ⟨g12, rfl, hg12, hh12, hf12⟩
          rw [HU4.out.2.1] at hh12
          have S12 := Lib.hid (S11.out.no hf12)
          have F12 := Lib.hid (And.intro hh12 (F11.out.2.trans hf12))
          have H11 := Lib.hid (hf12.heap F11.out.1 id)
          clear hg12 hh12 hf12
          go_wp2_with fail
          refine (same_blk H11.out HML.out.1 (blk_LAt (F12.out.2.heap HW8.out id) HML.out.1)).mono ?_
          rintro e w' ⟨rfl, rfl⟩
          rw [show (M == M) = true by simp]
          go_wp2_with fail
          refine (same_blk F12.out.1 HOL.out (blk_LAt (F12.out.2.heap HW10.out id) HOL.out)).mono ?_
          rintro e w' ⟨rfl, rfl⟩
          rw [show (D0.med s2 == D0.med s2) = true by simp]
          go_wp2_with fail
          refine (Pending_any S12.out.disk (by rw [HU4.out.2.2.1]; simp)).mono ?_
          rintro e w13 ⟨v13, rfl, hown13, hf13⟩
          obtain ⟨a13, cap13, rfl, _⟩ := own_slice hown13
          rw [show D4.cache.length = 1 by rw [HU4.out.2.2.1]; rfl]
          have S13 := Lib.hid (S12.out.no hf13)
          have F13 := Lib.hid (F12.out.2.trans hf13)
          clear hown13 hf13
          have q1 : w13.cell? ⟨w1.heap.size, 1, none⟩ = some (.int .u8 (x.toNat : Int)) := cell_blk (F13.out.heap HWP.out id) rfl
          have q1g : w1.heap.size < w13.heap.size := World.block_lt_of_cell? _ _ q1
          go_wp2_with fail
          have HR4 : Hid (D4.read s = R) := Lib.hid (by unfold Dk.read; rw [HU4.out.2.2.1]; simp [lastOf])
          have hR128 : R.length = 128 := by rw [hR.out]; simp
          refine (Read_up S13.out.disk s hs1024 (by rw [HU4.out.2.2.2.1]; exact HUP.out.1) (by rw [HU4.out.2.2.1]; simp)).mono ?_
          rintro e w14 ⟨g14, rfl, hg14, hh14, hf14⟩
          rw [HR4.out] at hh14
          have S14 := Lib.hid (S13.out.no hf14)
          have H14 := Lib.hid hh14
          have HP14 := Lib.hid (hf14.heap (F13.out.heap HWP.out id) id)
          clear hg14 hh14 hf14
          have q1 : w14.cell? ⟨w1.heap.size, 1, none⟩ = some (.int .u8 (x.toNat : Int)) := cell_blk HP14.out rfl
          have q1g : w1.heap.size < w14.heap.size := World.block_lt_of_cell? _ _ q1
          go_wp2_with fail
          refine (full_any _ x).mono ?_
          rintro e w15 ⟨gf2, capf2, rfl, hown15, hf15⟩
          rw [← hR.out] at hown15
          have S15 := Lib.hid (S14.out.no hf15)
          have H15 := Lib.hid (hf15.heap H14.out id)
          have HO15 := Lib.hid (LAt.of_own hown15).1
          have HP15 := Lib.hid (hf15.heap HP14.out id)
          clear hown15 hf15
          go_wp2_with fail
          refine (same_blk H15.out hR128 HO15.out).mono ?_
          rintro e w' ⟨rfl, rfl⟩
          rw [show (R == R) = true by simp]
          go_wp2_with fail
          refine (Flush_any S15.out.disk (by have := HU4.out.2.2.2.2.2; omega) (by rw [HU4.out.2.2.1]; simp) _ _ (flush_up (by rw [HU4.out.2.2.2.1]; exact HUP.out.1) (by rw [HU4.out.2.2.2.2.1]; exact HUP.out.2))).mono ?_
          rintro e w16 ⟨rfl, ⟨c16, hd16, hc16⟩, hf16⟩
          obtain ⟨D5, hD5⟩ : ∃ D5 : Dk, Hid (D5 = ({ D4 with acts := D4.acts + 1 } : Dk).drain (fun _ => true)) := ⟨_, Lib.hid rfl⟩
          rw [← hD5.out] at hd16
          have HM5 : Hid (D5.down = false ∧ D5.cache.length ≤ 1000000000 ∧ D5.med s = R ∧ D5.read s = R) := Lib.hid (by
            have h1 : D5.med s = R := by
              rw [hD5.out]
              show laidOn (fun _ => true) 0 D4.cache D4.med s = R
              rw [laidOn_all]; exact HR4.out
            refine ⟨by rw [hD5.out]; show D4.down = false; rw [HU4.out.2.2.2.1]; exact HUP.out.1, by rw [hD5.out]; show 0 ≤ _; omega, h1, ?_⟩
            rw [← h1, hD5.out]; rfl)
          have S16 := Lib.hid (S15.out.op1 hd16 (by omega) hf16)
          have HP16 := Lib.hid (hf16.heap HP15.out (One.not HPN.out.1))
          clear hd16 hc16 hf16
          have q1 : w16.cell? ⟨w1.heap.size, 1, none⟩ = some (.int .u8 (x.toNat : Int)) := cell_blk HP16.out rfl
          have q1g : w1.heap.size < w16.heap.size := World.block_lt_of_cell? _ _ q1
          go_wp2_with fail
          refine (full_any _ x).mono ?_
          rintro e w17 ⟨gf3, capf3, rfl, hown17, hf17⟩
          rw [← hR.out] at hown17
          have S17 := Lib.hid (S16.out.no hf17)
          have HO17 := Lib.hid (LAt.of_own hown17).1
          clear hown17 hf17
          go_wp2_with fail
          refine (same2_any S17.out HM5.out.1 HM5.out.2.1 s hs1024 _ R HO17.out HM5.out.2.2.1 HM5.out.2.2.2).mono ?_
          rintro e w18 ⟨rfl, hf18⟩
          have S18 := Lib.hid (S17.out.no hf18)
          clear hf18
          go_wp2_with fail
          go_ret
          exact ⟨rfl, HWF.out.trans S18.out.fr⟩
  · have hl1 : ¬ ((m : Int) < (dn : Int)) := by omega
    obtain ⟨X, hX⟩ : ∃ X, Hid (X = L) := ⟨_, Lib.hid rfl⟩
    have HX : Hid (X.length = dn) := Lib.hid (by rw [hX.out]; exact hdn.out)
    have HXO : Hid (w3.ownsRow W2.heap.size 5 1 (.slice a3 dn cap3) dn (X.map bv)) := Lib.hid (by rw [hX.out]; exact HO3.out)
    have hxm : dn ≤ m := by omega
    clear hpos3
    go_wp2_with fail
    refine (Raw_any S3.out.disk s hs1024).mono ?_
    rintro e w4 ⟨g8, rfl, hg8, hh8, hf4⟩
    have S4 := Lib.hid (S3.out.no hf4)
    have HPB4 := Lib.hid (hf4.heap HPB3.out id)
    have HXO4 := Lib.hid (own_fr HXO.out hf4 fun _ _ => id)
    have H8 := Lib.hid (And.intro hg8 hh8)
    clear hg8 hh8 hf4
    go_wp2_with fail
    refine (place_any _ _).mono ?_; rintro e w' ⟨rfl, rfl⟩
    obtain ⟨s2, hs2⟩ : ∃ s2, pl ((s : Int) + 1) = s2 := ⟨_, rfl⟩
    have hs2b : s2 < 1024 ∧ s2 ≠ s := by rw [← hs2]; unfold pl; omega
    have HS2 := Lib.hid hs2
    rw [hs2]
    clear hs2
    go_wp2_with fail
    refine (Raw_any S4.out.disk s2 hs2b.1).mono ?_
    rintro e w5 ⟨g10, rfl, hg10, hh10, hf5⟩
    have S5 := Lib.hid (S4.out.no hf5)
    have HPB5 := Lib.hid (hf5.heap HPB4.out id)
    have HXO5 := Lib.hid (own_fr HXO4.out hf5 fun _ _ => id)
    have H85 := Lib.hid (hf5.heap H8.out.2 id)
    have H10 := Lib.hid hh10
    have HNE : Hid (g10 ≠ g8 ∧ g8 < w5.heap.size ∧ w3.heap.size ≤ g8 ∧ w4.heap.size ≤ g10 ∧ g8 < w4.heap.size) := Lib.hid (by have h1 := lt_of_block H8.out.2; have := hf5.size; exact ⟨by omega, by omega, H8.out.1, hg10, h1⟩)
    have q1 : w5.cell? ⟨w1.heap.size, 1, none⟩ = some (.int .u8 (x.toNat : Int)) := cell_blk HPB5.out rfl
    have q1g : w1.heap.size < w5.heap.size := lt_of_block HPB5.out
    clear hg10 hh10 hf5
    go_wp2_with fail
    refine (full_any _ x).mono ?_
    rintro e w6 ⟨gf, capf, rfl, hown6, hf6⟩
    have S6 := Lib.hid ((Since.start S5.out).no hf6)
    have HO6 := Lib.hid hown6
    have hgf : gf ≠ W.heap.size := by have := (own_base hown6).1; have := S5.out.size; omega
    clear hown6 hf6
    go_wp2_with fail
    refine (Write_own S6.out.st.disk s hs1024 HO6.out hgf (by omega) (by rw [HU0.out.cache]; simp) _ 0 (write_up HU0.out.down HU0.out.armed _ _)).mono ?_
    rintro e w7 ⟨rfl, ⟨c7, hd7, hc7⟩, hf7⟩
    obtain ⟨R, hR⟩ : ∃ R : List UInt8, Hid (R = List.replicate 128 x) := ⟨_, Lib.hid rfl⟩
    rw [← hR.out] at hd7
    obtain ⟨D1, hD1⟩ : ∃ D1 : Dk, Hid (D1 = { D0 with cache := D0.cache ++ [(s, R)], acts := D0.acts + 1 }) := ⟨_, Lib.hid rfl⟩
    rw [← hD1.out] at hd7
    have HU1 : Hid (D1.down = false ∧ D1.armed = false ∧ D1.cache = [(s, R)] ∧ D1.med = D0.med ∧ D1.acts ≤ sn + 2) := Lib.hid (by
      rw [hD1.out]; exact ⟨HU0.out.down, HU0.out.armed, by simp [HU0.out.cache], rfl, by simp only; omega⟩)
    have S7 := Lib.hid (S6.out.op hd7 (by omega) hf7)
    clear hd7 hf7
    have HPB7 := Lib.hid (S7.out.fr.heap HPB5.out (Two.not HPN.out.1 HPN.out.2.1))
    have q1 : w7.cell? ⟨w1.heap.size, 1, none⟩ = some (.int .u8 (x.toNat : Int)) := cell_blk HPB7.out rfl
    have q1g : w1.heap.size < w7.heap.size := lt_of_block HPB7.out
    have HBB : Hid (W.heap.size < W2.heap.size ∧ c0 < W2.heap.size ∧ W2.heap.size ≤ w3.heap.size) := Lib.hid (by have := S2.out.disk.lt; have := HSZ3.out; omega)
    have HXB : Hid (∀ g, (Value.slice a3 dn cap3).ownBlock = some g → g < w3.heap.size) := Lib.hid (by
      intro g hg
      rcases HXO.out.2 with ⟨h, _⟩ | ⟨g', cap', cur, h, _, hh', _⟩
      · rw [h] at hg; simp [Value.ownBlock] at hg
      · rw [h] at hg
        obtain rfl : g' = g := by simpa [Value.ownBlock] using hg
        exact lt_of_block hh')
    by_cases hodd : x.toNat % 2 = 1
    · go_wp2_with fail
      refine (Arm_any S7.out.st.disk 0 (by omega) { D1 with armed := true, left := 0 } 0 (by have := HU1.out.1; simp [Dk.arm, this])).mono ?_
      rintro e wa ⟨rfl, hda, hfa⟩
      obtain ⟨Da, hDa⟩ : ∃ Da : Dk, Hid (Da = { D1 with armed := true, left := 0 }) := ⟨_, Lib.hid rfl⟩
      rw [← hDa.out] at hda
      have HUa : Hid (Da.armed = true ∧ Da.left = 0 ∧ Da.down = false ∧ Da.med = D0.med ∧ Da.cache = [(s, R)] ∧ Da.acts ≤ sn + 2) := Lib.hid (by
        rw [hDa.out]; exact ⟨rfl, rfl, HU1.out.1, HU1.out.2.2.2.1, HU1.out.2.2.1, HU1.out.2.2.2.2⟩)
      have Sa := Lib.hid (S7.out.op1 hda (.inl rfl) hfa)
      clear hda hfa
      go_wp2_with fail
      refine (Flush_any Sa.out.st.disk (by have := HUa.out.2.2.2.2.2; omega) (by rw [HUa.out.2.2.2.2.1]; simp) _ _ (flush_out HUa.out.1 HUa.out.2.1 HUa.out.2.2.1)).mono ?_
      rintro e w8 ⟨rfl, ⟨c8, hd8, hc8⟩, hf8⟩
      obtain ⟨D3, hD3⟩ : ∃ D3 : Dk, Hid (D3 = { Da with down := true }) := ⟨_, Lib.hid rfl⟩
      rw [← hD3.out] at hd8
      have HU3 : Hid (D3.med = D0.med ∧ D3.cache = [(s, R)] ∧ D3.acts ≤ sn + 2) := Lib.hid (by rw [hD3.out]; exact ⟨HUa.out.2.2.2.1, HUa.out.2.2.2.2.1, HUa.out.2.2.2.2.2⟩)
      have S8 := Lib.hid (Sa.out.op1 hd8 (by omega) hf8)
      clear hd8 hc8 hf8
      go_wp2_with fail
      have hed := Edit_go S8.out.st.disk s hs1024 k a3 cap3 X (by rw [HX.out]; omega) (LAt.segOf (LAt.of_own (own_fr HXO5.out S8.out.fr (fun g hg => by have := (LAt.of_own HXO5.out).2.2 g hg; exact Two.not (by have := HBB.out; omega) (by have := HBB.out; omega)))).1)
      rw [HX.out] at hed
      refine hed.mono ?_
      clear hed
      rintro e w9 ⟨rfl, hd9, hf9⟩
      obtain ⟨D4, hD4⟩ : ∃ D4 : Dk, Hid (D4 = D3.edit s k X) := ⟨_, Lib.hid rfl⟩
      rw [← hD4.out] at hd9
      have HU4 : Hid (D4.med s = splice (D0.med s) k X ∧ D4.med s2 = D0.med s2 ∧ D4.cache = [(s, R)] ∧ D4.down = D3.down ∧ D4.armed = D3.armed ∧ D4.acts ≤ sn + 2) := Lib.hid (by
        rw [hD4.out]
        exact ⟨by rw [edit_same, HU3.out.1], by rw [edit_other _ _ _ _ _ hs2b.2, HU3.out.1], HU3.out.2.1, rfl, rfl, HU3.out.2.2⟩)
      have S9 := Lib.hid (S8.out.op1 hd9 (.inl rfl) hf9)
      clear hd9 hf9
      have HG8 : Hid (g8 ≠ W.heap.size ∧ g8 ≠ c0 ∧ W2.heap.size ≤ g8 ∧ g10 ≠ W.heap.size ∧ g10 ≠ c0) := Lib.hid (by have := HNE.out; have := HBB.out; have := HSZ3.out; have := S3.out.fr; omega)
      have HG8c : Hid (g8 ≠ c8 ∧ g8 ≠ w1.heap.size) := Lib.hid (by have := HNE.out; have := HBB.out; have := S9.out.cc; have := HG8.out; have := HPN.out; omega)
      have HM0 : Hid (w9.heap[g8]? = some (.cells ((D0.med s).map bv).toArray 5 (0, 0))) := Lib.hid (S9.out.fr.heap H85.out (Two.not HG8.out.1 HG8.out.2.1))
      have HXL : Hid (∀ w', Fr (One g8) w9 w' → LAt w' (.slice a3 dn cap3) (X.map bv)) := Lib.hid fun w' hf => by
        have h1 := LAt.of_own (own_fr HXO5.out S9.out.fr (fun g hg => by have := (LAt.of_own HXO5.out).2.2 g hg; exact Two.not (by have := HBB.out; omega) (by have := HBB.out; omega)))
        exact h1.1.fr hf fun g hg hv => One.not (by have := HXB.out g hv; have := HNE.out; omega)
      have HM128 : Hid ((D0.med s).length = 128) := Lib.hid (S3.out.disk.ok.med s)
      have hXn := HX.out
      go_wp2_with fail
      go_loopg [12] dn (fun mm i wr => ∃ j : Nat, j ≤ dn ∧ mm + j = dn ∧ i = .int .i64 j ∧ Hid (Fr (One g8) w9 wr ∧ wr.heap[g8]? = some (.cells ((splice (D0.med s) k (X.take j)).map bv).toArray 5 (0, 0))))
      case atStart => exact ⟨0, by omega, by omega, rfl, Lib.hid ⟨Fr.refl _ _, by rw [splice_zero _ _ _ (by rw [HM128.out]; omega)]; exact HM0.out⟩⟩
      case round =>
        obtain ⟨j, hj, hmj, rfl, HR⟩ := hrel
        by_cases hlt : j < dn
        · obtain ⟨y, hy⟩ : ∃ y, X[j]? = some y := ⟨_, List.getElem?_eq_getElem (by omega)⟩
          obtain ⟨gd, od, ed, hseg⟩ := (HXL.out wr HR.out.1).segOf (by rw [List.length_map]; omega)
          have hyc := hseg j (bv y) (by rw [List.getElem?_map, hy]; rfl)
          have hgd : gd < wr.heap.size := World.block_lt_of_cell? _ _ hyc
          have HY := Lib.hid hy
          cases ed
          try simp only [Nat.zero_add] at hyc
          clear hseg hy
          have hlen8 : (splice (D0.med s) k (X.take j)).length = 128 := by rw [length_splice _ _ _ (by rw [List.length_take, HM128.out]; omega), HM128.out]
          obtain ⟨z, hz⟩ : ∃ z, ((splice (D0.med s) k (X.take j)).map bv).toArray[k + j]? = some z := ⟨_, Array.getElem?_eq_getElem (by simp [hlen8]; omega)⟩
          have hzc := cell_blk HR.out.2 hz
          have hzf := free_blk HR.out.2 (k + j)
          have hg8r : g8 < wr.heap.size := lt_of_block HR.out.2
          have hkj0 : (0 : Int) ≤ (k : Int) + (j : Int) := by omega
          have hkj1 : (k : Int) + (j : Int) < 128 := by omega
          clear hz hlen8
          unfold bv at hyc
          go_wp2_with fail
          go_roundg (dn - (j + 1))
          case rel =>
            refine ⟨j + 1, by omega, by omega, by go_num, Lib.hid ⟨HR.out.1.trans (Fr.set1 _ _ _ _), ?_⟩⟩
            rw [heap_setCell_same _ _ _ _ _ _ HR.out.2, splice_take _ _ _ _ _ HY.out (by rw [HM128.out]; omega)]
            simp [bv]
          case measure => omega
        · have hjn : dn = j := by omega
          have hjX : X.take j = X := List.take_of_length_le (by omega)
          obtain ⟨M, hM⟩ : ∃ M, Hid (M = splice (D0.med s) k X) := ⟨_, Lib.hid rfl⟩
          have HW8 : Hid (wr.heap[g8]? = some (.cells (M.map bv).toArray 5 (0, 0))) := Lib.hid (by have := HR.out.2; rw [hjX, ← hM.out] at this; exact this)
          have HW10 : Hid (wr.heap[g10]? = some (.cells ((D0.med s2).map bv).toArray 5 (0, 0))) := Lib.hid (HR.out.1.heap (S9.out.fr.heap H10.out (Two.not HG8.out.2.2.2.1 HG8.out.2.2.2.2)) (One.not HNE.out.1))
          have HWP : Hid (wr.heap[w1.heap.size]? = some (.cells #[.int .i64 sec, .int .u8 (x.toNat : Int)] 30 (0, 0))) := Lib.hid (HR.out.1.heap (S9.out.fr.heap HPB5.out (Two.not HPN.out.1 HPN.out.2.1)) (One.not (Ne.symm HG8c.out.2)))
          have S10 := Lib.hid (S9.out.st.other HR.out.1 HG8.out.1 HG8c.out.1 (by have := HG8.out; have := HBB.out; omega))
          have HML : Hid (M.length = 128 ∧ D4.med s = M) := Lib.hid ⟨by rw [hM.out, ← HU4.out.1]; exact S10.out.disk.ok.med s, by rw [hM.out]; exact HU4.out.1⟩
          have HOL : Hid ((D0.med s2).length = 128) := Lib.hid (S3.out.disk.ok.med s2)
          clear HR hjX
          go_wp2_with fail
          refine (Raw_any S10.out.disk s hs1024).mono ?_
          rintro e w11 ⟨g11, rfl, hg11, hh11, hf11⟩
          rw [HML.out.2] at hh11
          have S11 := Lib.hid (S10.out.no hf11)
          have F11 := Lib.hid (And.intro hh11 hf11)
          clear hg11 hh11 hf11
          go_wp2_with fail
          refine (place_any _ _).mono ?_; rintro e w' ⟨rfl, rfl⟩
          rw [HS2.out]
          go_wp2_with fail
          refine (Raw_any S11.out.disk s2 hs2b.1).mono ?_
          rintro e w12 ⟨g12, rfl, hg12, hh12, hf12⟩
          rw [HU4.out.2.1] at hh12
          have S12 := Lib.hid (S11.out.no hf12)
          have F12 := Lib.hid (And.intro hh12 (F11.out.2.trans hf12))
          have H11 := Lib.hid (hf12.heap F11.out.1 id)
          clear hg12 hh12 hf12
          go_wp2_with fail
          refine (same_blk H11.out HML.out.1 (blk_LAt (F12.out.2.heap HW8.out id) HML.out.1)).mono ?_
          rintro e w' ⟨rfl, rfl⟩
          rw [show (M == M) = true by simp]
          go_wp2_with fail
          refine (same_blk F12.out.1 HOL.out (blk_LAt (F12.out.2.heap HW10.out id) HOL.out)).mono ?_
          rintro e w' ⟨rfl, rfl⟩
          rw [show (D0.med s2 == D0.med s2) = true by simp]
          go_wp2_with fail
          refine (Pending_any S12.out.disk (by rw [HU4.out.2.2.1]; simp)).mono ?_
          rintro e w13 ⟨v13, rfl, hown13, hf13⟩
          obtain ⟨a13, cap13, rfl, _⟩ := own_slice hown13
          rw [show D4.cache.length = 1 by rw [HU4.out.2.2.1]; rfl]
          have S13 := Lib.hid (S12.out.no hf13)
          have F13 := Lib.hid (F12.out.2.trans hf13)
          clear hown13 hf13
          have q1 : w13.cell? ⟨w1.heap.size, 1, none⟩ = some (.int .u8 (x.toNat : Int)) := cell_blk (F13.out.heap HWP.out id) rfl
          have q1g : w1.heap.size < w13.heap.size := World.block_lt_of_cell? _ _ q1
          go_wp2_with fail
          refine (Crash_any S13.out.disk (by rw [HU4.out.2.2.1]; simp) (.slice none 0 0) [] (fun _ _ => .inl ⟨rfl, rfl⟩)).mono ?_
          rintro e w14 ⟨rfl, hd14, hf14⟩
          rw [kept_none]
          have S14 := Lib.hid (S13.out.op1 hd14 (.inr (.inl rfl)) hf14)
          have HW14 := Lib.hid (hf14.heap (F13.out.heap HW8.out id) (One.not HG8.out.1))
          clear hd14 hf14
          have HMC : Hid ((D4.crash []).med s = M ∧ (D4.crash []).read s = M) := Lib.hid (by
            have h1 : (D4.crash []).med s = M := by rw [crash_none]; exact HML.out.2
            exact ⟨h1, h1⟩)
          go_wp2_with fail
          refine (same2_any S14.out rfl (by show 0 ≤ _; omega) s hs1024 _ M (blk_LAt HW14.out HML.out.1) HMC.out.1 HMC.out.2).mono ?_
          rintro e w15 ⟨rfl, hf15⟩
          have S15 := Lib.hid (S14.out.no hf15)
          clear hf15
          go_wp2_with fail
          go_ret
          exact ⟨rfl, HWF.out.trans S15.out.fr⟩
    · have heven : x.toNat % 2 = 0 := by omega
      obtain ⟨D3, hD3⟩ : ∃ D3 : Dk, D3 = D1 := ⟨_, rfl⟩
      obtain ⟨c8, hc8⟩ : ∃ c8, c8 = c7 := ⟨_, rfl⟩
      obtain ⟨w8, hw8⟩ : ∃ w8, w8 = w7 := ⟨_, rfl⟩
      subst hD3; subst hc8; subst hw8
      have HU3 : Hid (D3.med = D0.med ∧ D3.cache = [(s, R)] ∧ D3.acts ≤ sn + 2) := Lib.hid ⟨HU1.out.2.2.2.1, HU1.out.2.2.1, HU1.out.2.2.2.2⟩
      have HUP : Hid (D3.down = false ∧ D3.armed = false) := Lib.hid ⟨HU1.out.1, HU1.out.2.1⟩
      have S8 := S7
      go_wp2_with fail
      have hed := Edit_go S8.out.st.disk s hs1024 k a3 cap3 X (by rw [HX.out]; omega) (LAt.segOf (LAt.of_own (own_fr HXO5.out S8.out.fr (fun g hg => by have := (LAt.of_own HXO5.out).2.2 g hg; exact Two.not (by have := HBB.out; omega) (by have := HBB.out; omega)))).1)
      rw [HX.out] at hed
      refine hed.mono ?_
      clear hed
      rintro e w9 ⟨rfl, hd9, hf9⟩
      obtain ⟨D4, hD4⟩ : ∃ D4 : Dk, Hid (D4 = D3.edit s k X) := ⟨_, Lib.hid rfl⟩
      rw [← hD4.out] at hd9
      have HU4 : Hid (D4.med s = splice (D0.med s) k X ∧ D4.med s2 = D0.med s2 ∧ D4.cache = [(s, R)] ∧ D4.down = D3.down ∧ D4.armed = D3.armed ∧ D4.acts ≤ sn + 2) := Lib.hid (by
        rw [hD4.out]
        exact ⟨by rw [edit_same, HU3.out.1], by rw [edit_other _ _ _ _ _ hs2b.2, HU3.out.1], HU3.out.2.1, rfl, rfl, HU3.out.2.2⟩)
      have S9 := Lib.hid (S8.out.op1 hd9 (.inl rfl) hf9)
      clear hd9 hf9
      have HG8 : Hid (g8 ≠ W.heap.size ∧ g8 ≠ c0 ∧ W2.heap.size ≤ g8 ∧ g10 ≠ W.heap.size ∧ g10 ≠ c0) := Lib.hid (by have := HNE.out; have := HBB.out; have := HSZ3.out; have := S3.out.fr; omega)
      have HG8c : Hid (g8 ≠ c8 ∧ g8 ≠ w1.heap.size) := Lib.hid (by have := HNE.out; have := HBB.out; have := S9.out.cc; have := HG8.out; have := HPN.out; omega)
      have HM0 : Hid (w9.heap[g8]? = some (.cells ((D0.med s).map bv).toArray 5 (0, 0))) := Lib.hid (S9.out.fr.heap H85.out (Two.not HG8.out.1 HG8.out.2.1))
      have HXL : Hid (∀ w', Fr (One g8) w9 w' → LAt w' (.slice a3 dn cap3) (X.map bv)) := Lib.hid fun w' hf => by
        have h1 := LAt.of_own (own_fr HXO5.out S9.out.fr (fun g hg => by have := (LAt.of_own HXO5.out).2.2 g hg; exact Two.not (by have := HBB.out; omega) (by have := HBB.out; omega)))
        exact h1.1.fr hf fun g hg hv => One.not (by have := HXB.out g hv; have := HNE.out; omega)
      have HM128 : Hid ((D0.med s).length = 128) := Lib.hid (S3.out.disk.ok.med s)
      have hXn := HX.out
      go_wp2_with fail
      go_loopg [12] dn (fun mm i wr => ∃ j : Nat, j ≤ dn ∧ mm + j = dn ∧ i = .int .i64 j ∧ Hid (Fr (One g8) w9 wr ∧ wr.heap[g8]? = some (.cells ((splice (D0.med s) k (X.take j)).map bv).toArray 5 (0, 0))))
      case atStart => exact ⟨0, by omega, by omega, rfl, Lib.hid ⟨Fr.refl _ _, by rw [splice_zero _ _ _ (by rw [HM128.out]; omega)]; exact HM0.out⟩⟩
      case round =>
        obtain ⟨j, hj, hmj, rfl, HR⟩ := hrel
        by_cases hlt : j < dn
        · obtain ⟨y, hy⟩ : ∃ y, X[j]? = some y := ⟨_, List.getElem?_eq_getElem (by omega)⟩
          obtain ⟨gd, od, ed, hseg⟩ := (HXL.out wr HR.out.1).segOf (by rw [List.length_map]; omega)
          have hyc := hseg j (bv y) (by rw [List.getElem?_map, hy]; rfl)
          have hgd : gd < wr.heap.size := World.block_lt_of_cell? _ _ hyc
          have HY := Lib.hid hy
          cases ed
          try simp only [Nat.zero_add] at hyc
          clear hseg hy
          have hlen8 : (splice (D0.med s) k (X.take j)).length = 128 := by rw [length_splice _ _ _ (by rw [List.length_take, HM128.out]; omega), HM128.out]
          obtain ⟨z, hz⟩ : ∃ z, ((splice (D0.med s) k (X.take j)).map bv).toArray[k + j]? = some z := ⟨_, Array.getElem?_eq_getElem (by simp [hlen8]; omega)⟩
          have hzc := cell_blk HR.out.2 hz
          have hzf := free_blk HR.out.2 (k + j)
          have hg8r : g8 < wr.heap.size := lt_of_block HR.out.2
          have hkj0 : (0 : Int) ≤ (k : Int) + (j : Int) := by omega
          have hkj1 : (k : Int) + (j : Int) < 128 := by omega
          clear hz hlen8
          unfold bv at hyc
          go_wp2_with fail
          go_roundg (dn - (j + 1))
          case rel =>
            refine ⟨j + 1, by omega, by omega, by go_num, Lib.hid ⟨HR.out.1.trans (Fr.set1 _ _ _ _), ?_⟩⟩
            rw [heap_setCell_same _ _ _ _ _ _ HR.out.2, splice_take _ _ _ _ _ HY.out (by rw [HM128.out]; omega)]
            simp [bv]
          case measure => omega
        · have hjn : dn = j := by omega
          have hjX : X.take j = X := List.take_of_length_le (by omega)
          obtain ⟨M, hM⟩ : ∃ M, Hid (M = splice (D0.med s) k X) := ⟨_, Lib.hid rfl⟩
          have HW8 : Hid (wr.heap[g8]? = some (.cells (M.map bv).toArray 5 (0, 0))) := Lib.hid (by have := HR.out.2; rw [hjX, ← hM.out] at this; exact this)
          have HW10 : Hid (wr.heap[g10]? = some (.cells ((D0.med s2).map bv).toArray 5 (0, 0))) := Lib.hid (HR.out.1.heap (S9.out.fr.heap H10.out (Two.not HG8.out.2.2.2.1 HG8.out.2.2.2.2)) (One.not HNE.out.1))
          have HWP : Hid (wr.heap[w1.heap.size]? = some (.cells #[.int .i64 sec, .int .u8 (x.toNat : Int)] 30 (0, 0))) := Lib.hid (HR.out.1.heap (S9.out.fr.heap HPB5.out (Two.not HPN.out.1 HPN.out.2.1)) (One.not (Ne.symm HG8c.out.2)))
          have S10 := Lib.hid (S9.out.st.other HR.out.1 HG8.out.1 HG8c.out.1 (by have := HG8.out; have := HBB.out; omega))
          have HML : Hid (M.length = 128 ∧ D4.med s = M) := Lib.hid ⟨by rw [hM.out, ← HU4.out.1]; exact S10.out.disk.ok.med s, by rw [hM.out]; exact HU4.out.1⟩
          have HOL : Hid ((D0.med s2).length = 128) := Lib.hid (S3.out.disk.ok.med s2)
          clear HR hjX
          go_wp2_with fail
          refine (Raw_any S10.out.disk s hs1024).mono ?_
          rintro e w11 ⟨g11, rfl, hg11, hh11, hf11⟩
          rw [HML.out.2] at hh11
          have S11 := Lib.hid (S10.out.no hf11)
          have F11 := Lib.hid (And.intro hh11 hf11)
          clear hg11 hh11 hf11
          go_wp2_with fail
          refine (place_any _ _).mono ?_; rintro e w' ⟨rfl, rfl⟩
          rw [HS2.out]
          go_wp2_with fail
          refine (Raw_any S11.out.disk s2 hs2b.1).mono ?_
          rintro e w12 ⟨g12, rfl, hg12, hh12, hf12⟩
          rw [HU4.out.2.1] at hh12
          have S12 := Lib.hid (S11.out.no hf12)
          have F12 := Lib.hid (And.intro hh12 (F11.out.2.trans hf12))
          have H11 := Lib.hid (hf12.heap F11.out.1 id)
          clear hg12 hh12 hf12
          go_wp2_with fail
          refine (same_blk H11.out HML.out.1 (blk_LAt (F12.out.2.heap HW8.out id) HML.out.1)).mono ?_
          rintro e w' ⟨rfl, rfl⟩
          rw [show (M == M) = true by simp]
          go_wp2_with fail
          refine (same_blk F12.out.1 HOL.out (blk_LAt (F12.out.2.heap HW10.out id) HOL.out)).mono ?_
          rintro e w' ⟨rfl, rfl⟩
          rw [show (D0.med s2 == D0.med s2) = true by simp]
          go_wp2_with fail
          refine (Pending_any S12.out.disk (by rw [HU4.out.2.2.1]; simp)).mono ?_
          rintro e w13 ⟨v13, rfl, hown13, hf13⟩
          obtain ⟨a13, cap13, rfl, _⟩ := own_slice hown13
          rw [show D4.cache.length = 1 by rw [HU4.out.2.2.1]; rfl]
          have S13 := Lib.hid (S12.out.no hf13)
          have F13 := Lib.hid (F12.out.2.trans hf13)
          clear hown13 hf13
          have q1 : w13.cell? ⟨w1.heap.size, 1, none⟩ = some (.int .u8 (x.toNat : Int)) := cell_blk (F13.out.heap HWP.out id) rfl
          have q1g : w1.heap.size < w13.heap.size := World.block_lt_of_cell? _ _ q1
          go_wp2_with fail
          have HR4 : Hid (D4.read s = R) := Lib.hid (by unfold Dk.read; rw [HU4.out.2.2.1]; simp [lastOf])
          have hR128 : R.length = 128 := by rw [hR.out]; simp
          refine (Read_up S13.out.disk s hs1024 (by rw [HU4.out.2.2.2.1]; exact HUP.out.1) (by rw [HU4.out.2.2.1]; simp)).mono ?_
          rintro e w14 ⟨g14, rfl, hg14, hh14, hf14⟩
          rw [HR4.out] at hh14
          have S14 := Lib.hid (S13.out.no hf14)
          have H14 := Lib.hid hh14
          have HP14 := Lib.hid (hf14.heap (F13.out.heap HWP.out id) id)
          clear hg14 hh14 hf14
          have q1 : w14.cell? ⟨w1.heap.size, 1, none⟩ = some (.int .u8 (x.toNat : Int)) := cell_blk HP14.out rfl
          have q1g : w1.heap.size < w14.heap.size := World.block_lt_of_cell? _ _ q1
          go_wp2_with fail
          refine (full_any _ x).mono ?_
          rintro e w15 ⟨gf2, capf2, rfl, hown15, hf15⟩
          rw [← hR.out] at hown15
          have S15 := Lib.hid (S14.out.no hf15)
          have H15 := Lib.hid (hf15.heap H14.out id)
          have HO15 := Lib.hid (LAt.of_own hown15).1
          have HP15 := Lib.hid (hf15.heap HP14.out id)
          clear hown15 hf15
          go_wp2_with fail
          refine (same_blk H15.out hR128 HO15.out).mono ?_
          rintro e w' ⟨rfl, rfl⟩
          rw [show (R == R) = true by simp]
          go_wp2_with fail
          refine (Flush_any S15.out.disk (by have := HU4.out.2.2.2.2.2; omega) (by rw [HU4.out.2.2.1]; simp) _ _ (flush_up (by rw [HU4.out.2.2.2.1]; exact HUP.out.1) (by rw [HU4.out.2.2.2.2.1]; exact HUP.out.2))).mono ?_
          rintro e w16 ⟨rfl, ⟨c16, hd16, hc16⟩, hf16⟩
          obtain ⟨D5, hD5⟩ : ∃ D5 : Dk, Hid (D5 = ({ D4 with acts := D4.acts + 1 } : Dk).drain (fun _ => true)) := ⟨_, Lib.hid rfl⟩
          rw [← hD5.out] at hd16
          have HM5 : Hid (D5.down = false ∧ D5.cache.length ≤ 1000000000 ∧ D5.med s = R ∧ D5.read s = R) := Lib.hid (by
            have h1 : D5.med s = R := by
              rw [hD5.out]
              show laidOn (fun _ => true) 0 D4.cache D4.med s = R
              rw [laidOn_all]; exact HR4.out
            refine ⟨by rw [hD5.out]; show D4.down = false; rw [HU4.out.2.2.2.1]; exact HUP.out.1, by rw [hD5.out]; show 0 ≤ _; omega, h1, ?_⟩
            rw [← h1, hD5.out]; rfl)
          have S16 := Lib.hid (S15.out.op1 hd16 (by omega) hf16)
          have HP16 := Lib.hid (hf16.heap HP15.out (One.not HPN.out.1))
          clear hd16 hc16 hf16
          have q1 : w16.cell? ⟨w1.heap.size, 1, none⟩ = some (.int .u8 (x.toNat : Int)) := cell_blk HP16.out rfl
          have q1g : w1.heap.size < w16.heap.size := World.block_lt_of_cell? _ _ q1
          go_wp2_with fail
          refine (full_any _ x).mono ?_
          rintro e w17 ⟨gf3, capf3, rfl, hown17, hf17⟩
          rw [← hR.out] at hown17
          have S17 := Lib.hid (S16.out.no hf17)
          have HO17 := Lib.hid (LAt.of_own hown17).1
          clear hown17 hf17
          go_wp2_with fail
          refine (same2_any S17.out HM5.out.1 HM5.out.2.1 s hs1024 _ R HO17.out HM5.out.2.2.1 HM5.out.2.2.2).mono ?_
          rintro e w18 ⟨rfl, hf18⟩
          have S18 := Lib.hid (S17.out.no hf18)
          clear hf18
          go_wp2_with fail
          go_ret
          exact ⟨rfl, HWF.out.trans S18.out.fr⟩
end Go.Proofs.Ytppllhdocajfiaa
