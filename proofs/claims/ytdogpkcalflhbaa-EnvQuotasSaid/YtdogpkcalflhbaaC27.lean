/- Any step is noted; the first table. -/
import Derived.Test.YtdogpkcalflhbaaC26
import Derived.Test.YtdogpkcalflhbaaN1
set_option linter.unusedSimpArgs false
set_option linter.unusedVariables false
namespace Go.Proofs.Ytdogpkcalflhbaa
open Go.RowKit
theorem T0_inv : Inv T0 := by
  have e0 : T0.live 0 = some (Rec.new 1 (-1) ⟨40, 24, 8⟩) := rfl
  have one : ∀ n r, T0.live n = some r → n = 0 ∧ r = Rec.new 1 (-1) ⟨40, 24, 8⟩ := by
    intro n r h
    by_cases h0 : n = 0
    · subst h0; rw [e0] at h; exact ⟨rfl, by simpa using h.symm⟩
    · have e : T0.live n = none := by
        show (if n = 0 then _ else none) = none
        rw [if_neg h0]
      rw [e] at h; cases h
  have hl : T0.low = 0 := rfl
  have hla : T0.last = 1 := rfl
  refine ⟨fun n r h => by have := (one n r h).1; omega, fun n h => by omega, by omega, ⟨_, e0⟩, fun n r h => ?_, fun p rp c h hc => ?_, fun p rp h => ?_, fun n r h => ?_, by omega, fun n r h => ?_, fun n r h => ?_, fun n r h => ?_⟩
  all_goals obtain ⟨rfl, rfl⟩ := one _ _ h
  · exact .inl ⟨rfl, rfl⟩
  · simp [Rec.new] at hc
  · simp [Rec.new]
  · rw [hla]; simp [Rec.new]
  · exact (T0_ok 0 _ e0).1
  · simp [Qle, Qt.plus, Rec.new, Qt.zero]
  · rfl
theorem inv_create {T : Tb} (hI : Inv T) (p s : Int) (q : Qt) (h : (T.create p s q).2.2 = 0) : Inv (T.create p s q).1 := by
  rcases create_cases hI p s q with ⟨h1, _⟩ | ⟨n, nn, r, _, _, _, _, _, hc, hI2⟩
  · exact absurd h h1
  · rw [hc]; exact hI2
theorem T2_inv : Inv T2 := inv_create (inv_create T0_inv 0 2 ⟨20, 7, 3⟩ (by rw [create1])) 1 3 ⟨6, 2, 1⟩ (by show (T1.create 1 3 ⟨6, 2, 1⟩).2.2 = 0; rw [create2])
theorem T2_book {w : World} {bb : Nat} (h : BookAt w bb (fun n => decide (n < 3)) (fun _ => Qt.zero) 3) : BookOf w bb T2 := by
  have key : ∀ n, (T2.live n).isSome = decide (n < 3) ∧ ∀ r, T2.live n = some r → r.paid = Qt.zero := by
    intro n
    by_cases h0 : n = 0
    · subst h0
      have e : T2.live 0 = some { Rec.new 1 (-1) ⟨40, 24, 8⟩ with carved := ⟨20, 8, 3⟩, kids := [1] } := rfl
      rw [e]; exact ⟨rfl, fun r hr => by obtain rfl : _ = r := by simpa using hr
                                         rfl⟩
    · by_cases h1 : n = 1
      · subst h1
        have e : T2.live 1 = some { Rec.new 2 0 ⟨20, 7, 3⟩ with carved := ⟨6, 3, 1⟩, kids := [2] } := rfl
        rw [e]; exact ⟨rfl, fun r hr => by obtain rfl : _ = r := by simpa using hr
                                           rfl⟩
      · by_cases h2 : n = 2
        · subst h2
          have e : T2.live 2 = some (Rec.new 3 1 ⟨6, 2, 1⟩) := rfl
          rw [e]; exact ⟨rfl, fun r hr => by obtain rfl : _ = r := by simpa using hr
                                             rfl⟩
        · have e : T2.live n = none := by
            show (if n = 1 then _ else if n = 2 then _ else if n = 0 then _ else if n = 1 then _ else if n = 0 then _ else none) = none
            rw [if_neg h1, if_neg h2, if_neg h0, if_neg h1, if_neg h0]
          rw [e]; exact ⟨by simp; omega, fun r hr => by cases hr⟩
  exact ⟨fun _ => Qt.zero, (show T2.last = 3 from rfl) ▸ h.congr (fun n _ => (key n).1) (fun _ _ => rfl), fun n r hr => ((key n).2 r hr).symm⟩
theorem first_ns (w : World) : Calls Try.prog 8 #[] w fun e w' => ∃ b L bb, e = .returned (.tuple #[.pointer (some ⟨b, 0, none⟩), .pointer (some ⟨bb, 0, none⟩)]) ∧ NS w b L T2 bb w' := by
  refine (first_any w).mono ?_
  rintro e w' ⟨b, L, bb, rfl, h⟩
  exact ⟨b, L, bb, rfl, h.tab, T2_book h.book, h.fr, h.own, h.hbb, h.ne, T2_inv⟩
section
variable {w0 w : World} {b bb : Nat} {L : Lay} {T : Tb}
theorem noted_any (N : NS w0 b L T bb w) (o : OpE) : Calls Try.prog 15 #[.pointer (some ⟨bb, 0, none⟩), .pointer (some ⟨b, 0, none⟩), .agg (opcells o)] w (Noted w0 b T o bb) := by
  by_cases h2 : o.kind = 2
  · exact noted_create N o h2
  by_cases h3 : o.kind = 3
  · exact noted_destroy N o h3
  by_cases h5 : o.kind = 5
  · exact noted_regs N o h5
  by_cases h6 : o.kind = 6
  · exact noted_state N o h6
  by_cases h7 : o.kind = 7
  · exact noted_bits N o h7
  by_cases h8 : o.kind = 8
  · exact noted_notify N o h8
  by_cases h9 : o.kind = 9
  · exact noted_wait N o h9
  by_cases h10 : o.kind = 10
  · exact noted_freeze N o h10
  by_cases h11 : o.kind = 11
  · exact noted_pay N o h11
  by_cases h12 : o.kind = 12
  · exact noted_refund N o h12
  exact noted_other N o h2 h3 h5 h6 h7 h8 h9 h10 h11 h12
end
end Go.Proofs.Ytdogpkcalflhbaa
