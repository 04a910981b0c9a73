/- DiskStays: the walk. -/
import Derived.Test.YtppllhdocajfiaaS1
set_option linter.unusedSimpArgs false
set_option linter.unusedVariables false
namespace Go.Proofs.Ytppllhdocajfiaa
open Go.RowKit

theorem u8_mod (j : Nat) : ((j : Int) % 256) = ((UInt8.ofNat j).toNat : Int) := by simp
theorem lastOf_length (s : Nat) : ∀ (l : List (Nat × List UInt8)) (m : List UInt8), (∀ p ∈ l, p.2.length = 128) → m.length = 128 → (lastOf s l m).length = 128
  | [], _, _, h => h
  | p :: l, m, hl, h => by
    rw [lastOf]
    refine lastOf_length s l _ (fun q hq => hl q (by simp [hq])) ?_
    split
    · exact hl p (by simp)
    · exact h
theorem read_length {D : Dk} (h : D.Ok) (s : Nat) : (D.read s).length = 128 := lastOf_length s _ _ (fun p hp => (h.cache p hp).2) (h.med s)

set_option maxHeartbeats 8000000 in
set_option maxRecDepth 100000 in
theorem stays_walk (w : World) (vs vl vk : Value) (script : List OpD) (l : List PutD) (K : List Bool) (hs : OpsAt w vs script) (hl : PutsAt w vl l) (hk : LAt w vk (K.map Value.bool)) (hsl : script.length ≤ 2097152) (hll : l.length ≤ 2097152) (hkl : K.length ≤ 2097152) :
    Calls Try.prog 4 #[vs, vl, vk] w fun e w' => e = .returned (.bool true) ∧ Fr No w w' := by
  obtain ⟨i0, hi, hz0, hz1, hz2⟩ := info_parts Try.info34
  obtain ⟨i4, hi4, hz40, hz41, hz42⟩ := info_parts Try.info4
  have HB := Lib.hid (fresh_any w vs script hs hsl)
  obtain ⟨sa, scap, rfl, _⟩ := hs.1.len
  obtain ⟨a, cap, rfl, hcap, _⟩ := hl.len
  obtain ⟨ka, kcap, rfl, hkcap⟩ := hk.len
  obtain ⟨n, hn⟩ : ∃ n, Hid (l.length = n) := ⟨_, Lib.hid rfl⟩
  obtain ⟨sn, hsn⟩ : ∃ n, Hid (script.length = n) := ⟨_, Lib.hid rfl⟩
  obtain ⟨kn, hkn⟩ : ∃ n, Hid (K.length = n) := ⟨_, Lib.hid rfl⟩
  rw [List.length_map] at hk ⊢
  rw [hn.out] at hll hcap hl
  rw [hkn.out] at hkl hk
  rw [hn.out, hkn.out]
  rw [hsn.out] at HB hsl ⊢
  have HL := Lib.hid hl
  have HK := Lib.hid hk
  clear hs hl hk hkcap
  go_enter Try.func4, Try.ntmps4
  go_wp2_with fail
  refine HB.out.mono ?_
  rintro e w1 ⟨rfl, c0, D0, S0, hu0, ha0⟩
  have S0 := Lib.hid S0
  have HU0 := Lib.hid hu0
  clear hu0 HB
  go_wp2_with fail
  have hlaid := laid_ok S0.out.disk HU0.out.down HU0.out.armed (.slice a n cap) l (fun w' hf => HL.out.no (S0.out.two hf)) (by rw [HU0.out.cache, hn.out]; simp; omega) (by rw [hn.out]; omega)
  refine hlaid.mono ?_
  clear hlaid
  rintro e w2 ⟨rfl, ⟨c2, hd2, hc2⟩, hf2⟩
  rw [hn.out] at hd2
  obtain ⟨D1, hD1⟩ : ∃ D1 : Dk, D1 = { D0 with cache := D0.cache ++ l.map PutD.pend, acts := D0.acts + n } := ⟨_, rfl⟩
  rw [← hD1] at hd2
  have HU1 : Hid (D1.down = false ∧ D1.armed = false ∧ D1.cache.length = n ∧ D1.acts ≤ sn + 1 + n) := Lib.hid (by
    rw [hD1]; exact ⟨HU0.out.down, HU0.out.armed, by simp [HU0.out.cache, hn.out], by simp only; omega⟩)
  have S2 := Lib.hid (S0.out.op hd2 (by omega) hf2)
  clear hD1 hd2 hc2 hf2 S0 HU0 ha0
  go_wp2_with fail
  go_loopg [8, 9] n (fun m v i wr => ∃ j : Nat, j ≤ n ∧ m + j = n ∧ i = .int .i64 j ∧ Hid (∃ vals, PushSt w2 wr v j ((l.take j).map fun p => D1.read (pl p.sector)) vals))
  case atStart => exact ⟨0, by omega, by omega, rfl, Lib.hid ⟨[], PushSt.nil w2⟩⟩
  case round =>
    obtain ⟨j, hj, hm, rfl, HR⟩ := hrel
    by_cases hlt : j < n
    · obtain ⟨vals, hp⟩ := HR.out
      have hjl : j < l.length := by have := hn.out; omega
      obtain ⟨p, hpp⟩ : ∃ p, l[j]? = some p := ⟨_, List.getElem?_eq_getElem hjl⟩
      have HT : Hid (l.take (j + 1) = l.take j ++ [p]) := Lib.hid (by rw [List.take_add_one, hpp]; rfl)
      obtain ⟨g, o, ea, hg, hcells⟩ := HL.out.get' hpp
      subst ea
      have k0 := (hcells _ (S2.out.fr.trans hp.fr)).1
      have hgq : g < wr.heap.size := by have := hp.fr.size; have := S2.out.fr.size; omega
      have P := Lib.hid hp
      obtain ⟨u', hu'⟩ : ∃ u, u = u8 := ⟨_, rfl⟩
      subst hu'
      clear hp hcells hpp
      go_wp2_with fail
      refine (place_any _ _).mono ?_; rintro e w' ⟨rfl, rfl⟩
      go_wp2_with fail
      refine (Read_up (S2.out.no P.out.fr).disk (pl p.sector) (pl_lt _) HU1.out.1 (by have := HU1.out.2.2.1; omega)).mono ?_
      rintro e w1 ⟨g1, rfl, hg1, hh1, hf1⟩
      have HG := Lib.hid (And.intro hg1 (And.intro hh1 hf1))
      clear hg1 hh1 hf1
      go_wp2_with (with_reducible show wpList _ _ _ (Oper.mk (some 51) _ _ _ _ _ :: _) _ _; refine Stop.mk ?_)
      refine Stop.go ?_
      refine wpList_append_lies _ rfl (.tmp 48) (.tmp 50) 42 rfl w2.heap.size 34 i0 (.slice none 0 0) 1 24 Try.underlying42 hi hz0 hz1 hz2 rfl (by omega) u' j vals rfl ((own_fr P.out.own HG.out.2.2 (fun _ _ => id)).alloc _) ⟨w1.heap.size, 0, none⟩ 1 1 [.slice (some ⟨g1, 0, none⟩) 128 128] rfl rfl ?news ?one (by omega) (by unfold maxLen; omega) (by omega) (by have := P.out.fr.size; have := HG.out.2.2.size; simp; omega) (w1.heap.size + 1) (by simp) ?_
      case news => exact World.news_of_block (cs := #[.slice (some ⟨g1, 0, none⟩) 128 128]) (t := 34) (fr := (0, 0)) (heap_alloc_new w1 _)
      case one => intro v hv; simp at hv; subst hv; rfl
      intro g3 cap2 w3 hown3 hgrow hat hlt3
      have HH := Lib.hid (And.intro hown3 hgrow)
      clear hown3 hgrow hat hlt3
      go_wp2
      go_roundg (n - (j + 1))
      case rel =>
        refine ⟨j + 1, by omega, by omega, by go_num, Lib.hid ⟨vals ++ [.slice (some ⟨g1, 0, none⟩) 128 128], ?_⟩⟩
        rw [HT.out, List.map_append]
        have h128 : (D1.read (pl p.sector)).length = 128 := read_length S2.out.disk.ok _
        exact P.out.step HG.out.2.2 HG.out.1 h128 HG.out.2.1 HH.out.1 HH.out.2
      case measure => omega
    · obtain rfl : n = j := by omega
      obtain ⟨vals, hp⟩ := HR.out
      rw [List.take_of_length_le (by have := hn.out; omega)] at hp
      have S3 := Lib.hid (S2.out.no hp.fr)
      have HX := Lib.hid (hp.rowsK (w := w) (c := c2) S2.out.disk.lt.1 S2.out.disk.lt.2)
      obtain ⟨ra, rcap, hu8⟩ := HX.out.len
      rw [List.length_map, hn.out] at hu8
      subst hu8
      clear hp HR
      go_wp2_with fail
      refine (Flush_any S3.out.disk (by have := HU1.out.2.2.2; omega) (by have := HU1.out.2.2.1; omega) _ _ (flush_up HU1.out.1 HU1.out.2.1)).mono ?_
      rintro e w4 ⟨rfl, ⟨c4, hd4, hc4⟩, hf4⟩
      obtain ⟨D2, hD2⟩ : ∃ D2 : Dk, D2 = ({ D1 with acts := D1.acts + 1 } : Dk).drain (fun _ => true) := ⟨_, rfl⟩
      rw [← hD2] at hd4
      have HU2 : Hid (D2.down = false ∧ D2.armed = false ∧ D2.cache = [] ∧ D2.acts ≤ sn + 1 + n + 1 ∧ ∀ s, D2.med s = D1.read s) := Lib.hid (by
        rw [hD2]; exact ⟨HU1.out.1, HU1.out.2.1, rfl, by have := HU1.out.2.2.2; show D1.acts + 1 ≤ _; omega, fun s => laidOn_all s _ _ _⟩)
      have S4 := Lib.hid (S3.out.op1 hd4 (by omega) hf4)
      have HX4 := Lib.hid (HX.out.step1 hf4 (by omega) : RowsK w w4 c4 _ _)
      clear hD2 hd4 hc4 hf4 HX S3
      go_wp2_with fail
      refine (Pending_any S4.out.disk (by rw [HU2.out.2.2.1]; simp)).mono ?_
      rintro e w5 ⟨v5, rfl, hown5, hf5⟩
      obtain ⟨a5, cap5, rfl, _⟩ := own_slice hown5
      rw [HU2.out.2.2.1]
      have S5 := Lib.hid (S4.out.no hf5)
      have HX5 := Lib.hid (HX4.out.no hf5)
      clear hown5 hf5 HX4 S4
      go_wp2_with (with_reducible show wpList _ _ _ (Oper.mk (some 61) _ _ _ _ _ :: _) _ _; refine Stop.mk ?_)
      refine Stop.go ?_
      refine wpList_make_full _ rfl _ _ 41 rfl w5.heap.size 4 i4 (.bool false) 1 Try.underlying41 hi4 hz40 hz41 _ _ _ _ 1024 rfl rfl rfl rfl ?bytes ?maxlen ?base ?_
      case bytes => rw [hz42]; omega
      case maxlen => unfold maxLen; omega
      case base => exact Nat.le_refl _
      intro w6 hown6 hg6
      have HT6 := Lib.hid (TakenAt.make hown6)
      have hf6 : Fr No w5 w6 := Fr.grown (Fr.refl _ _) hg6 fun k h => by cases h
      have S6 := Lib.hid (Since.start S5.out |>.no hf6)
      clear hown6 hg6 hf6
      have HTT : Hid (w5.heap.size ≤ w5.heap.size ∧ w5.heap.size ≠ w.heap.size ∧ w5.heap.size ≠ c4 ∧ w.heap.size < w5.heap.size) := Lib.hid (by have h1 := S5.out.disk.lt; omega)
      go_wp2_with fail
      go_loopg [13] n (fun m i wr => ∃ j : Nat, j ≤ n ∧ m + j = n ∧ i = .int .i64 j ∧ Hid (TakenAt wr w5.heap.size (fun k => (l.take j).any fun p => pl p.sector == k) ∧ Since w w5 wr c4 c4 D2))
      case atStart => exact ⟨0, by omega, by omega, rfl, Lib.hid ⟨by simpa using HT6.out, S6.out⟩⟩
      case round =>
        obtain ⟨j, hj, hm, rfl, HR⟩ := hrel
        by_cases hlt : j < n
        · have hjl : j < l.length := by have := hn.out; omega
          obtain ⟨p, hpp⟩ : ∃ p, l[j]? = some p := ⟨_, List.getElem?_eq_getElem hjl⟩
          have HT : Hid (l.take (j + 1) = l.take j ++ [p]) := Lib.hid (by rw [List.take_add_one, hpp]; rfl)
          obtain ⟨g, o, ea, hg, hcells⟩ := HL.out.get' hpp
          subst ea
          have k0 := (hcells _ HR.out.2.st.fr).1
          have hgq : g < wr.heap.size := by have := HR.out.2.st.fr.size; omega
          have hpl := pl_lt p.sector
          have hfz := HR.out.1.free (pl p.sector)
          have hcl := HR.out.1.cell hpl
          clear hcells hpp
          go_wp2_with fail
          refine (place_any _ _).mono ?_; rintro e w' ⟨rfl, rfl⟩
          go_wp2_with fail
          go_roundg (n - (j + 1))
          case rel =>
            refine ⟨j + 1, by omega, by omega, by go_num, Lib.hid ⟨?_, HR.out.2.set HTT.out.1 HTT.out.2.2.1 HTT.out.2.2.2 _ _⟩⟩
            have := HR.out.1.set (pl p.sector)
            rw [HT.out]
            refine this.congr fun k => ?_
            simp only [List.any_append, List.any_cons, List.any_nil, Bool.or_false]
            by_cases hk : k = pl p.sector
            · rw [if_pos hk, hk]; simp
            · rw [if_neg hk, show (pl p.sector == k) = false from by simpa using fun e => hk e.symm, Bool.or_false]
          case measure => omega
        · obtain rfl : n = j := by omega
          obtain ⟨T, hT⟩ : ∃ T : Nat → Bool, Hid (T = fun k => (l.take n).any fun p => pl p.sector == k) := ⟨_, Lib.hid rfl⟩
          have HR2 : Hid (TakenAt wr w5.heap.size T ∧ Since w w5 wr c4 c4 D2) := Lib.hid (by rw [hT.out]; exact HR.out)
          clear HR
          go_wp2_with fail
          go_loopg [14] kn (fun m i wr => ∃ j : Nat, j ≤ kn ∧ m + j = kn ∧ i = .int .i64 j ∧ Hid (TakenAt wr w5.heap.size T ∧ ∃ c D, Since w w5 wr c4 c D ∧ c ≠ w5.heap.size ∧ Away D D2 T j))
          case atStart => exact ⟨0, by omega, by omega, rfl, Lib.hid ⟨HR2.out.1, c4, D2, HR2.out.2, fun e => HTT.out.2.2.1 e.symm, ⟨HU2.out.1, HU2.out.2.1, by simp, by simp [HU2.out.2.2.1], by simp [HU2.out.2.2.1], rfl⟩⟩⟩
          case round =>
            clear HR2
            obtain ⟨j, hj, hm, rfl, HR⟩ := hrel
            by_cases hlt : j < kn
            · obtain ⟨hT3, c, D, hS3, hct, hA3⟩ := HR.out
              have hcell := hT3.cell (pl_lt (37 * (j : Int)))
              have hpl := pl_lt (37 * (j : Int))
              have htl := hT3.lt
              have S3 := Lib.hid hS3
              have A3 := Lib.hid hA3
              have T3 := Lib.hid hT3
              clear hT3 hS3 hA3
              by_cases hTs : T (pl (37 * (j : Int))) = true
              · rw [hTs] at hcell
                go_wp2_with fail
                refine (place_any _ _).mono ?_; rintro e w' ⟨rfl, rfl⟩
                go_wp2_with fail
                go_roundg (kn - (j + 1))
                case rel => exact ⟨j + 1, by omega, by omega, by go_num, Lib.hid ⟨T3.out, c, D, S3.out, hct, A3.out.later⟩⟩
                case measure => omega
              · rw [show T (pl (37 * (j : Int))) = false by simpa using hTs] at hcell
                go_wp2_with fail
                refine (place_any _ _).mono ?_; rintro e w' ⟨rfl, rfl⟩
                go_wp2_with fail
                rw [u8_mod]
                refine (full_any _ (UInt8.ofNat j)).mono ?_
                rintro e w7 ⟨gf, capf, rfl, hown7, hf7⟩
                have S7 := Lib.hid (S3.out.no hf7)
                have HO7 := Lib.hid hown7
                have T7 := Lib.hid (T3.out.fr hf7 id)
                have hgf : gf ≠ w.heap.size := by have := (own_base hown7).1; have := S3.out.st.size; omega
                clear hown7 hf7
                go_wp2_with fail
                refine (Write_own S7.out.st.disk (pl (37 * (j : Int))) hpl HO7.out hgf (by have := A3.out.acts; have := HU2.out.2.2.2.1; omega) (by have := A3.out.len; omega) _ 0 (write_up A3.out.down A3.out.armed _ _)).mono ?_
                rintro e w8 ⟨rfl, ⟨c8, hd8, hc8⟩, hf8⟩
                have htl7 := T7.out.lt
                have S8 := Lib.hid (S7.out.op hd8 (by omega) hf8)
                have T8 := Lib.hid (T7.out.fr hf8 (Two.not HTT.out.2.1 (Ne.symm hct)))
                clear hd8 hf8
                go_wp2_with fail
                go_roundg (kn - (j + 1))
                case rel => exact ⟨j + 1, by omega, by omega, by go_num, Lib.hid ⟨T8.out, c8, _, S8.out, by omega, A3.out.write _ _ (by simpa using hTs)⟩⟩
                case measure => omega
            · obtain rfl : kn = j := by omega
              obtain ⟨hT3, c, D, hS3, hct, hA3⟩ := HR.out
              have S3 := Lib.hid hS3
              have A3 := Lib.hid hA3
              clear hT3 hS3 hA3 HR
              go_wp2_with fail
              refine (flags_any _ (.slice ka kn kcap) (K.map Value.bool) (HK.out.no S3.out.st.fr) (fun v hv => by obtain ⟨x, _, rfl⟩ := List.mem_map.1 hv; rfl) (by rw [List.length_map, hkn.out]; omega)).mono ?_
              rintro e w7 ⟨v7, rfl, hown7, hf7⟩
              have S7 := Lib.hid (S3.out.no hf7)
              have HO7 := Lib.hid hown7
              clear hown7 hf7
              go_wp2_with fail
              refine (Crash_any S7.out.st.disk (by have := A3.out.len; omega) v7 K (fun w' hf => (LAt.of_own HO7.out).1.fr hf fun g hg hv => One.not (by have := (LAt.of_own HO7.out).2.2 g hv; have := S3.out.st.size; omega))).mono ?_
              rintro e w8 ⟨rfl, hd8, hf8⟩
              have S8 := Lib.hid (S7.out.op1 hd8 (.inr (.inl rfl)) hf8)
              have HM8 : Hid (∀ p ∈ l, (D.crash K).med (pl p.sector) = D1.read (pl p.sector)) := Lib.hid fun p hp => by
                rw [A3.out.crash K _ (by rw [hT.out]; exact List.any_eq_true.2 ⟨p, by rwa [List.take_of_length_le (by have := hn.out; omega)], by simp⟩)]
                exact HU2.out.2.2.2.2 _
              have HX8 := Lib.hid (S8.out.rows HX5.out)
              clear hd8 hf8
              go_wp2_with fail
              go_loopg [16] n (fun m i wr => ∃ j : Nat, j ≤ n ∧ m + j = n ∧ i = .int .i64 j ∧ Hid (Fr No w8 wr))
              case atStart => exact ⟨0, by omega, by omega, rfl, Lib.hid (Fr.refl _ _)⟩
              case round =>
                obtain ⟨j, hj, hm, rfl, HR⟩ := hrel
                by_cases hlt : j < n
                · have hjl : j < l.length := by have := hn.out; omega
                  obtain ⟨p, hpp⟩ : ∃ p, l[j]? = some p := ⟨_, List.getElem?_eq_getElem hjl⟩
                  have HM : Hid ((D.crash K).med (pl p.sector) = D1.read (pl p.sector)) := Lib.hid (HM8.out p (List.mem_of_getElem? hpp))
                  obtain ⟨g, o, ea, hg, hcells⟩ := HL.out.get' hpp
                  subst ea
                  have k0 := (hcells _ (S8.out.st.fr.trans HR.out)).1
                  have hgq : g < wr.heap.size := by have := S8.out.st.fr.size; have := HR.out.size; omega
                  obtain ⟨gr, or', g', er, hrow, hblk, _⟩ := HX8.out.get (j := j) (X := D1.read (pl p.sector)) (by rw [List.getElem?_map, hpp]; rfl)
                  subst er
                  have HROW := Lib.hid hrow
                  clear hcells hpp hrow hblk
                  go_wp2_with fail
                  refine (place_any _ _).mono ?_; rintro e w' ⟨rfl, rfl⟩
                  go_wp2_with fail
                  refine (Raw_any (S8.out.no HR.out).st.disk (pl p.sector) (pl_lt _)).mono ?_
                  rintro e w9 ⟨g1, rfl, hg1, hh1, hf1⟩
                  rw [HM.out] at hh1
                  have r1 := (HROW.out _ (HR.out.trans hf1)).1
                  have hgr : gr < w9.heap.size := World.block_lt_of_cell? w9 _ r1
                  have HG := Lib.hid (And.intro hg1 (And.intro hh1 hf1))
                  clear hg1 hh1 hf1
                  go_wp2_with fail
                  refine (same_blk HG.out.2.1 (read_length S2.out.disk.ok _) (HROW.out _ (HR.out.trans HG.out.2.2)).2).mono ?_
                  rintro e w' ⟨rfl, rfl⟩
                  rw [show (D1.read (pl p.sector) == D1.read (pl p.sector)) = true by simp]
                  go_wp2_with fail
                  go_roundg (n - (j + 1))
                  case rel => exact ⟨j + 1, by omega, by omega, by go_num, Lib.hid (HR.out.trans HG.out.2.2)⟩
                  case measure => omega
                · obtain rfl : n = j := by omega
                  go_wp2_with fail
                  go_ret
                  exact ⟨rfl, S8.out.st.fr.trans HR.out⟩
end Go.Proofs.Ytppllhdocajfiaa
