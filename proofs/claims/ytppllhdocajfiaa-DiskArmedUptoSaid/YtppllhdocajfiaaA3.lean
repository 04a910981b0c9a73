/- DiskArmed: the walk, less below 0. -/
import Derived.Test.YtppllhdocajfiaaA2
set_option linter.unusedSimpArgs false
set_option linter.unusedVariables false
namespace Go.Proofs.Ytppllhdocajfiaa
open Go.RowKit

set_option maxHeartbeats 8000000 in
set_option maxRecDepth 100000 in
theorem armed_neg (w : World) (vs vl : Value) (script : List OpD) (l : List PutD) (hs : OpsAt w vs script) (hl : PutsAt w vl l) (hsl : script.length ≤ 2097152) (hll : l.length ≤ 2097152) (less : Int) (hbad : less < 0) :
    Calls Try.prog 3 #[vs, vl, .int .i64 less] w fun e w' => e = .returned (.bool true) ∧ Fr No w w' := by
  have HB := Lib.hid (fresh_any w vs script hs hsl)
  obtain ⟨sa, scap, rfl, _⟩ := hs.1.len
  obtain ⟨a, cap, rfl, hcap, _⟩ := hl.len
  obtain ⟨n, hn⟩ : ∃ n, Hid (l.length = n) := ⟨_, Lib.hid rfl⟩
  obtain ⟨sn, hsn⟩ : ∃ n, Hid (script.length = n) := ⟨_, Lib.hid rfl⟩
  rw [hn.out] at hll hcap hl
  rw [hn.out]
  rw [hsn.out] at HB hsl ⊢
  have HL := Lib.hid hl
  clear hs hl
  have t1 : decide (less < 0) = true := by simpa using hbad

  go_enter Try.func3, Try.ntmps3
  go_wp2_with fail
  refine HB.out.mono ?_
  rintro e w1 ⟨rfl, c0, D0, S0, hu0, ha0⟩
  have S0 := Lib.hid S0
  have HU0 := Lib.hid hu0
  clear hu0 HB
  go_wp2_with fail

  refine (Arm_any S0.out.disk n (by omega) { D0 with armed := true, left := n } 0 (by have := HU0.out.down; simp [Dk.arm, this])).mono ?_
  rintro e w2 ⟨rfl, hd2, hf2⟩
  obtain ⟨A, hA⟩ : ∃ A, Hid (A = D0.acts) := ⟨_, Lib.hid rfl⟩
  have hA0 : 0 ≤ A ∧ A ≤ 2097153 := by have := S0.out.disk.ok.acts; have := hA.out; omega
  have HS2 : Hid (∃ c D, DSt w w2 c D ∧ ArmSt D n A 0) := Lib.hid ⟨_, _, S0.out.op1 hd2 (.inl rfl) hf2, ⟨rfl, by simp [HU0.out.cache], fun _ => ⟨HU0.out.down, by simp, by simp [hA.out]⟩, fun h => by omega⟩⟩
  clear hd2 hf2
  obtain ⟨c2, D2, S2, A2⟩ := HS2.out
  have S2' := Lib.hid S2
  have A2' := Lib.hid A2
  clear S2 A2 HS2 S0 ha0
  go_wp2_with fail
  refine (Acts_any S2'.out.disk).mono ?_
  rintro e w' ⟨rfl, rfl⟩
  rw [show D2.acts = A by have := (A2'.out.up (by omega)).2.2; simpa using this]
  go_wp2_with fail
  go_loopg [10] n (fun m i wr => ∃ j : Nat, j ≤ n ∧ m + j = n ∧ i = .int .i64 j ∧ Hid (∃ c D, DSt w wr c D ∧ ArmSt D n A j))
  case atStart => exact ⟨0, by omega, by omega, rfl, Lib.hid ⟨c2, D2, S2'.out, A2'.out⟩⟩
  case round =>
    obtain ⟨j, hj, hm, rfl, HR⟩ := hrel
    clear S2' A2'
    by_cases hlt : j < n
    · obtain ⟨c, D, hS, hSt⟩ := HR.out
      have hjl : j < l.length := by have := hn.out; omega
      obtain ⟨⟨sec, x⟩, hp⟩ : ∃ p, l[j]? = some p := ⟨_, List.getElem?_eq_getElem hjl⟩
      obtain ⟨g, o, ea, hg, hcells⟩ := HL.out.get' hp
      subst ea
      simp only at hcells
      have HC := Lib.hid hcells
      obtain ⟨k0, k1⟩ := hcells wr hS.fr
      have S := Lib.hid hS
      have ST := Lib.hid hSt
      have hcl : D.cache.length ≤ 2097152 := by have := hSt.cache; omega
      have hac : D.acts ≤ 4611686018427387904 := by
        by_cases h : j ≤ n
        · have := (hSt.up h).2.2; omega
        · have := (hSt.over (by omega)).2; omega
      clear hS hSt hcells hp
      by_cases hk : j < n
      · have dj : (j : Int) < (n : Int) := by omega
        by_cases hx : x = 0
        · subst hx
          obtain ⟨D', e1, e2⟩ := ST.out.flush_yes (by omega)
          have E2 := Lib.hid e2
          have E1 := Lib.hid e1
          clear e1 e2
          go_wp2_with fail
          refine (Flush_any S.out.disk hac (by omega) D' 0 E1.out).mono ?_
          rintro e w5 ⟨rfl, ⟨c5, hd5, hc5⟩, hf5⟩
          have S5 := Lib.hid (S.out.op1 hd5 (by omega) hf5)
          clear hd5 hc5 hf5
          go_wp2_with fail
          refine (Down_any S5.out.disk).mono ?_
          rintro e w' ⟨rfl, rfl⟩
          rw [(E2.out.up (by omega)).1]
          go_wp2_with fail
          go_roundg (n - (j + 1))
          case rel => exact ⟨j + 1, by omega, by omega, by go_num, Lib.hid ⟨c5, D', S5.out, E2.out⟩⟩
          case measure => omega
        · have hx' : ((x.toNat : Int) == 0) = false := by
            simp only [beq_eq_false_iff_ne, ne_eq]
            intro h
            exact hx (UInt8.toNat_inj.1 (by simpa using (by omega : x.toNat = 0)))
          obtain ⟨D', e1, e2⟩ := ST.out.write_yes (by omega) (pl sec) (List.replicate 128 x)
          have E2 := Lib.hid e2
          have E1 := Lib.hid e1
          clear e1 e2
          have hsz := S.out.size
          have hgr : g < wr.heap.size := by omega
          have hi0 : (0 : Int) ≤ (j : Int) := Int.natCast_nonneg _
          have hi1 : (j : Int) < (n : Int) := by omega
          have HK : Hid (∀ w1 w2, Fr No wr.drew w1 → Fr (Two w.heap.size c) w1 w2 → w2.cell? ⟨g, o + j * 2, none⟩ = some (.int .i64 sec) ∧ w2.cell? ⟨g, o + j * 2 + 1, none⟩ = some (.int .u8 (x.toNat : Int))) := Lib.hid fun w1 w2 hff hf2 =>
            HC.out w2 ((S.out.fr.drew.trans hff).then hf2 fun i hi h => by have := S.out.own; rcases h with h | h <;> omega)
          go_wp2_with fail
          go_region_held3 (fun w' => w'.cell? ⟨g, o + j * 2, none⟩ = some (.int .i64 sec) ∧ w'.cell? ⟨g, o + j * 2 + 1, none⟩ = some (.int .u8 (x.toNat : Int)))
            (first | go_keep | exact HK.out _ _ hff hf2 | exact HK.out _ _ hff (Fr.refl _ _))
            (first
              | (go_at_call 17; refine (place_any _ _).mono ?_; rintro e w' ⟨rfl, rfl⟩)
              | (go_at_call 18; refine (full_any _ x).mono ?_; rintro e w1 ⟨gf, capf, rfl, hown, hff⟩)
              | (go_at_call 16; refine (Write_own ((S.out.no (Fr.refl _ _).drew).no hff).disk (pl sec) (pl_lt _) hown (by have := (own_base hown).1; simp at this; omega) hac (by omega) D' 0 E1.out).mono ?_; rintro e w2 ⟨rfl, ⟨c2, hd2, hc2⟩, hf2⟩))
          all_goals
            have S5 := Lib.hid (((S.out.no (Fr.refl _ _).drew).no hff).op hd2 (by omega) hf2)
            clear hd2 hc2 hf2 hff hown
            go_wp2_with fail
            refine (Down_any S5.out.disk).mono ?_
            rintro e w' ⟨rfl, rfl⟩
            rw [(E2.out.up (by omega)).1]
            go_wp2_with fail
            go_roundg (n - (j + 1))
            case rel => exact ⟨j + 1, by omega, by omega, by go_num, Lib.hid ⟨c2, D', S5.out, E2.out⟩⟩
            case measure => omega
      · exfalso; omega
    · obtain rfl : n = j := by omega
      obtain ⟨c, D, hS, hSt⟩ := HR.out
      have S := Lib.hid hS
      have ST := Lib.hid hSt
      clear hS hSt
      have hjk : n ≤ n ∧ n ≤ n := by omega
      go_wp2_with fail
      refine (Down_any S.out.disk).mono ?_
      rintro e w' ⟨rfl, rfl⟩
      rw [(ST.out.up (by omega)).1]
      obtain ⟨D6, e1, e2⟩ := ST.out.flush_no (by omega)
      have E1 := Lib.hid e1
      have HD6 := Lib.hid (e2.over (by omega)).1
      have HA6 := Lib.hid (e2.over (by omega)).2
      have HC6 := Lib.hid e2.cache
      clear e1 e2
      go_wp2_with fail
      refine (Flush_any S.out.disk (by have := (ST.out.up (by omega)).2.2; omega) (by have := ST.out.cache; omega) D6 42 E1.out).mono ?_
      rintro e w6 ⟨rfl, ⟨c6, hd6, hc6⟩, hf6⟩
      have S6 := Lib.hid (S.out.op1 hd6 (by omega) hf6)
      clear hd6 hc6 hf6
      -- the disk is down
      go_wp2_with fail
      refine (Acts_any S6.out.disk).mono ?_
      rintro e w' ⟨rfl, rfl⟩
      rw [HA6.out]
      go_wp2_with fail
      refine (downed_any S6.out HD6.out (by rw [HA6.out]; omega) (by have := HC6.out; omega)).mono ?_
      rintro e w7 ⟨rfl, c7, hS7⟩
      have S7 := Lib.hid hS7
      clear hS7
      go_wp2_with fail
      refine (Acts_any S7.out.disk).mono ?_
      rintro e w' ⟨rfl, rfl⟩
      rw [HA6.out]
      go_wp2_with fail
      refine (Crash_any S7.out.disk (by have := HC6.out; omega) (.slice none 0 0) [] (fun _ _ => .inl ⟨rfl, rfl⟩)).mono ?_
      rintro e w8 ⟨rfl, hd8, hf8⟩
      obtain ⟨D8, hD8⟩ : ∃ D8, D8 = D6.crash [] := ⟨_, rfl⟩
      rw [← hD8] at hd8
      have HU8 : Hid (D8.down = false ∧ D8.armed = false ∧ D8.cache = [] ∧ D8.acts = A + n) := Lib.hid (by rw [hD8]; exact ⟨rfl, rfl, rfl, HA6.out⟩)
      have S8 := Lib.hid (S7.out.op1 hd8 (.inr (.inl rfl)) hf8)
      clear hD8 hd8 hf8
      go_wp2_with fail
      refine (Down_any S8.out.disk).mono ?_
      rintro e w' ⟨rfl, rfl⟩
      rw [HU8.out.1]
      go_wp2_with fail
      have hlaid := laid_ok S8.out.disk HU8.out.1 HU8.out.2.1 (.slice a n cap) l (fun w' hf => HL.out.no (S8.out.two hf)) (by rw [HU8.out.2.2.1, hn.out]; simp; omega) (by rw [HU8.out.2.2.2, hn.out]; omega)
      refine hlaid.mono ?_
      clear hlaid
      rintro e w9 ⟨rfl, ⟨c9, hd9, hc9⟩, hf9⟩
      rw [hn.out] at hd9
      obtain ⟨D9, hD9⟩ : ∃ D9 : Dk, D9 = { D8 with cache := D8.cache ++ l.map PutD.pend, acts := D8.acts + n } := ⟨_, rfl⟩
      rw [← hD9] at hd9
      have HU9 : Hid (D9.down = false ∧ D9.armed = false ∧ D9.cache.length ≤ n ∧ D9.acts = A + n + n) := Lib.hid (by
        obtain ⟨u1, u2, u3, u4⟩ := HU8.out
        rw [hD9]; exact ⟨u1, u2, by simp [u3, hn.out], by simp only; omega⟩)
      have S9 := Lib.hid (S8.out.op hd9 (by omega) hf9)
      clear hD9 hd9 hc9 hf9
      go_wp2_with fail
      refine (Flush_any S9.out.disk (by rw [HU9.out.2.2.2]; omega) (by have := HU9.out.2.2.1; omega) _ _ (flush_up HU9.out.1 HU9.out.2.1)).mono ?_
      rintro e w10 ⟨rfl, ⟨c10, hd10, hc10⟩, hf10⟩
      have S10 := Lib.hid (S9.out.op1 hd10 (by omega) hf10)
      clear hd10 hc10 hf10
      go_wp2_with fail
      refine (Acts_any S10.out.disk).mono ?_
      rintro e w' ⟨rfl, rfl⟩
      rw [show (({ D9 with acts := D9.acts + 1 } : Dk).drain fun _ => true).acts = A + n + n + 1 by show D9.acts + 1 = _; rw [HU9.out.2.2.2]]
      go_wp2_with fail
      go_ret
      exact ⟨by simp, S10.out.fr⟩


end Go.Proofs.Ytppllhdocajfiaa
