/- EnvQuotas: the walk. -/
import Derived.Test.YtdogpkcalflhbaaC30
set_option linter.unusedSimpArgs false
set_option linter.unusedVariables false
namespace Go.Proofs.Ytdogpkcalflhbaa
open Go.RowKit
set_option maxRecDepth 100000 in
set_option maxHeartbeats 16000000 in
theorem quotas_walk (w : World) (a : Option Addr) (cap : Nat) (l : List OpE) (hl : RAt w (.slice a l.length cap) l.length (l.flatMap fun o => (opcells o).toList)) (hlen : l.length ≤ 9223372036854775807) :
    Calls Try.prog 7 #[.slice a l.length cap] w fun e w' => e = .returned (.bool true) ∧ Fr No w w' := by
  obtain ⟨N, hN⟩ : ∃ N, Hid (l.length = N) := ⟨_, Lib.hid rfl⟩
  have HL : Hid (∀ j x, l[j]? = some x → ∃ g o, a = some ⟨g, o, none⟩ ∧ SegAt w g (o + j * 18) (opcells x).toList) := Lib.hid fun j x hx => by
    obtain ⟨g, o, cap', e, h⟩ := hl.seg j x hx
    simp only [Value.slice.injEq] at e
    exact ⟨g, o, e.1, h⟩
  rw [hN.out] at hlen ⊢
  clear hl
  go_enter Try.func7, Try.ntmps7
  go_wp2_with fail
  refine (first_ns w).mono ?_
  rintro e w1 ⟨b, L, bb, rfl, hb⟩
  have S1 := Lib.hid hb
  clear hb
  go_wp2_with fail
  go_loopg [5] N (fun m i wr => ∃ j : Nat, j ≤ N ∧ m + j = N ∧ i = .int .i64 j ∧ Hid (∃ L T, NS w b L T bb wr))
  case atStart => exact ⟨0, by omega, by omega, rfl, Lib.hid ⟨_, _, S1.out⟩⟩
  case round =>
    obtain ⟨j, hj, hm, rfl, HR⟩ := hrel
    by_cases hlt : j < N
    · obtain ⟨L, T, hst⟩ := HR.out
      obtain ⟨x, hx⟩ : ∃ x, l[j]? = some x := ⟨_, List.getElem?_eq_getElem (by rw [hN.out]; exact hlt)⟩
      obtain ⟨g, o, rfl, hcw⟩ := HL.out j x hx
      have HC := Lib.hid (hcw.fr hst.fr)
      have hgr : g < wr.heap.size := HC.out.lt (by simp [opcells])
      have HN := Lib.hid hst
      clear hst hx hcw HR
      go_wp2_with (with_reducible show wpList _ _ _ (Oper.mk (some 25) _ _ _ _ _ :: _) _ _; refine Stop.mk ?_)
      refine Stop.go ?_
      refine wpList_load_seg rfl (.tmp 24) 47 rfl 18 Try.isAgg47 Try.sizeOf47 g (o + j * 18) (opcells x).toList rfl rfl HC.out ?_
      rw [show (opcells x).toList.toArray = opcells x from rfl]
      go_wp2_with fail
      refine (noted_any HN.out x).mono ?_
      rintro e w' ⟨rfl, L', T', hn, _⟩
      have HN2 := Lib.hid hn
      clear hn
      go_wp2_with fail
      go_loopg [7] 16 (fun m i wr' => ∃ n : Nat, n ≤ 16 ∧ m + n = 16 ∧ i = .int .i64 n ∧ Hid (NS w b L' T' bb wr'))
      case atStart => exact ⟨0, by omega, by omega, rfl, HN2⟩
      case round =>
        obtain ⟨n, hn, hm2, rfl, HR⟩ := hrel
        by_cases hlt2 : n < 16
        · obtain ⟨paid, hb1, hb2⟩ := HR.out.book
          have HB1 := Lib.hid hb1
          have HB2 := Lib.hid hb2
          have k0 := hb1.live hlt2
          have klt := hb1.lt
          clear hb1 hb2
          cases hr : T'.live n with
          | none =>
            rw [hr] at k0
            have k1 : wr.cell? ⟨bb, n, none⟩ = some (.bool false) := k0
            clear k0 hr
            go_wp2_with fail
            go_roundg (16 - (n + 1))
            case rel => exact ⟨n + 1, by omega, by omega, by go_num, HR⟩
            case measure => omega
          | some r =>
            rw [hr] at k0
            have k1 : wr.cell? ⟨bb, n, none⟩ = some (.bool true) := k0
            have HRR := Lib.hid hr
            clear k0 hr
            go_wp2_with fail
            refine (adds_some HR.out.tab HB1.out HR.out.inv HRR.out (HB2.out n r HRR.out)).mono ?_
            rintro e w3 ⟨rfl, hf⟩
            have HF3 := Lib.hid hf
            clear hf
            go_wp2_with fail
            go_roundg (16 - (n + 1))
            case rel => exact ⟨n + 1, by omega, by omega, by go_num, Lib.hid (HR.out.no HF3.out)⟩
            case measure => omega
        · obtain rfl : n = 16 := by omega
          go_wp2_with fail
          go_roundg (N - (j + 1))
          case rel => exact ⟨j + 1, by omega, by omega, by go_num, Lib.hid ⟨_, _, HR.out⟩⟩
          case measure => omega
    · obtain ⟨L, T, hst⟩ := HR.out
      have HFR := Lib.hid hst.fr
      obtain rfl : j = N := by omega
      clear hst HR HL S1
      go_wp2_with fail
      go_ret
      exact ⟨rfl, HFR.out⟩
end Go.Proofs.Ytdogpkcalflhbaa
