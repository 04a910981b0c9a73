/- lastKept. -/
import Derived.Test.YtppllhdocajfiaaH3
import Derived.Deep.QuietTactic
import Derived.BigQuiet
set_option linter.unusedSimpArgs false
set_option linter.unusedVariables false
namespace Go.Proofs.Ytppllhdocajfiaa
open Go.RowKit

def lastK (l : List PutD) (K : List Bool) (s : Nat) : Nat → Option Nat
  | 0 => none
  | j + 1 => if K.getD j false && ((l[j]?.map fun p => pl p.sector) == some s) then some j else lastK l K s j
def optI : Option Nat → Int
  | none => -1
  | some k => k
theorem lastK_lt (l : List PutD) (K : List Bool) (s : Nat) : ∀ j k, lastK l K s j = some k → k < j
  | 0, k, h => by cases h
  | j + 1, k, h => by
    rw [lastK] at h
    split at h
    · cases h; omega
    · have := lastK_lt l K s j k h; omega
theorem lastK_stop (l : List PutD) (K : List Bool) (s : Nat) {j : Nat} (hj : K.length ≤ j) : ∀ d, lastK l K s (j + d) = lastK l K s j
  | 0 => rfl
  | d + 1 => by
    rw [← Nat.add_assoc, lastK, show K.getD (j + d) false = false by rw [List.getD_eq_getElem?_getD, List.getElem?_eq_none (by omega)]; rfl]
    simpa using lastK_stop l K s hj d

set_option maxRecDepth 100000 in
set_option maxHeartbeats 4000000 in
theorem lastKept_any (w : World) (a ka : Option Addr) (cap kcap : Nat) (l : List PutD) (K : List Bool) (hl : PutsAt w (.slice a l.length cap) l) (hk : LAt w (.slice ka K.length kcap) (K.map Value.bool)) (hlen : l.length ≤ 4194304) (hkl : K.length ≤ 4194304) (i : Nat) (q : PutD) (hi : l[i]? = some q) :
    Calls Try.prog 33 #[.slice a l.length cap, .slice ka K.length kcap, .int .i64 i] w fun e w' => e = .returned (.int .i64 (optI (lastK l K (pl q.sector) l.length))) ∧ Fr No w w' := by
  obtain ⟨n, hn⟩ : ∃ n, Hid (l.length = n) := ⟨_, Lib.hid rfl⟩
  obtain ⟨kn, hkn⟩ : ∃ n, Hid (K.length = n) := ⟨_, Lib.hid rfl⟩
  rw [hn.out] at hlen hl
  rw [hkn.out] at hkl hk
  rw [hn.out, hkn.out]
  have HL := Lib.hid hl
  have HK := Lib.hid hk
  have HI := Lib.hid hi
  have hin : i < n := by have := (List.getElem?_eq_some_iff.1 hi).1; have := hn.out; omega
  clear hl hk hi
  go_enter Try.func33, Try.ntmps33
  go_wp2
  go_loopg [7, 8] n (fun m r i' wr => ∃ j : Nat, j ≤ n ∧ m + j = n ∧ i' = .int .i64 j ∧ r = .int .i64 (optI (lastK l K (pl q.sector) j)) ∧ Hid (Fr No w wr))
  case atStart => exact ⟨0, by omega, by omega, rfl, rfl, Lib.hid (Fr.refl _ _)⟩
  case round =>
    obtain ⟨j, hj, hm, rfl, rfl, HR⟩ := hrel
    by_cases hlt : j < n
    · by_cases hltk : j < kn
      · have hjl : j < l.length := by have := hn.out; omega
        obtain ⟨p, hpp⟩ : ∃ p, l[j]? = some p := ⟨_, List.getElem?_eq_getElem hjl⟩
        obtain ⟨x, hx⟩ : ∃ x, K[j]? = some x := ⟨_, List.getElem?_eq_getElem (by have := hkn.out; omega)⟩
        have HJ : Hid (lastK l K (pl q.sector) (j + 1) = if x && (pl p.sector == pl q.sector) then some j else lastK l K (pl q.sector) j) := Lib.hid (by
          rw [lastK, hpp, List.getD_eq_getElem?_getD, hx]; rfl)
        obtain ⟨g, o, ea, hg, hcells⟩ := HL.out.get' hpp
        subst ea
        obtain ⟨g2, o2, ea2, hg2, hcells2⟩ := HL.out.get' HI.out
        simp only [Option.some.injEq, Addr.mk.injEq, and_true] at ea2
        obtain ⟨rfl, rfl⟩ := ea2
        have hkc : ∃ kg ko, ka = some ⟨kg, ko, none⟩ ∧ kg < w.heap.size ∧ w.cell? ⟨kg, ko + j, none⟩ = some (.bool x) := by
          rcases HK.out with ⟨_, h⟩ | ⟨a', cap', h, _, hs⟩
          · rw [List.map_eq_nil_iff] at h; rw [h] at hx; cases hx
          · obtain ⟨kg, ko, rfl, hseg⟩ := hs (by rw [List.length_map]; have := hkn.out; omega)
            simp only [Value.slice.injEq] at h
            have hc := hseg j (.bool x) (by rw [List.getElem?_map, hx]; rfl)
            exact ⟨kg, ko, h.1, World.block_lt_of_cell? w _ hc, hc⟩
        obtain ⟨kg, ko, rfl, hkg, hkcell⟩ := hkc
        have HC : Hid (∀ w', Fr No w w' → w'.cell? ⟨kg, ko + j, none⟩ = some (.bool x) ∧ w'.cell? ⟨g, o + j * 2, none⟩ = some (.int .i64 p.sector) ∧ w'.cell? ⟨g, o + i * 2, none⟩ = some (.int .i64 q.sector)) := Lib.hid fun w' hf =>
          ⟨(hf.cell (p := ⟨kg, ko + j, none⟩) hkg id).trans hkcell, (hcells w' hf).1, (hcells2 w' hf).1⟩
        obtain ⟨k0, k1, k2⟩ := HC.out _ HR.out
        have hgq : g < wr.heap.size := by have := HR.out.size; omega
        have hkgq : kg < wr.heap.size := by have := HR.out.size; omega
        have hb := pl_lt p.sector
        have hb2 := pl_lt q.sector
        have hi0 : (0 : Int) ≤ (j : Int) := by omega
        have hi1 : (j : Int) < (n : Int) := by omega
        have hi2 : (j : Int) < (kn : Int) := by omega
        have hi3 : (0 : Int) ≤ (i : Int) := by omega
        have hi4 : (i : Int) < (n : Int) := by omega
        clear hcells hcells2 hpp hx hkcell
        cases x
        · go_wp2_with fail
          go_quiet (first | (go_at_call 17; refine Calls.quiet_of_same ((place_any _ _).mono fun _ _ h => ⟨h.1, h.2.symm⟩)))
          all_goals
            go_wp2_with fail
            go_roundg (n - (j + 1))
            case rel => exact ⟨j + 1, by omega, by omega, by go_num, by rw [HJ.out]; rfl, Lib.hid (HR.out.drewN _)⟩
            case measure => omega
        · by_cases hpq : pl p.sector = pl q.sector
          · have hpq' : ((pl p.sector : Int) == (pl q.sector : Int)) = true := by simp [hpq]
            go_wp2_with fail
            go_quiet (first | (go_at_call 17; refine Calls.quiet_of_same ((place_any _ _).mono fun _ _ h => ⟨h.1, h.2.symm⟩)))
            all_goals
              go_wp2_with fail
              go_roundg (n - (j + 1))
              case rel => exact ⟨j + 1, by omega, by omega, by go_num, by rw [HJ.out, hpq]; simp [optI], Lib.hid (HR.out.drewN _)⟩
              case measure => omega
          · have hpq' : ((pl p.sector : Int) == (pl q.sector : Int)) = false := by simp; omega
            go_wp2_with fail
            go_quiet (first | (go_at_call 17; refine Calls.quiet_of_same ((place_any _ _).mono fun _ _ h => ⟨h.1, h.2.symm⟩)))
            all_goals
              go_wp2_with fail
              go_roundg (n - (j + 1))
              case rel => exact ⟨j + 1, by omega, by omega, by go_num, by rw [HJ.out, show (pl p.sector == pl q.sector) = false by simpa using hpq]; rfl, Lib.hid (HR.out.drewN _)⟩
              case measure => omega
      · go_wp2
        go_ret
        obtain ⟨d, rfl⟩ : ∃ d, n = j + d := ⟨n - j, by omega⟩
        exact ⟨by rw [lastK_stop l K _ (by have := hkn.out; omega)]; rfl, HR.out⟩
    · obtain rfl : n = j := by omega
      go_wp2
      go_ret
      exact ⟨rfl, HR.out⟩
end Go.Proofs.Ytppllhdocajfiaa
