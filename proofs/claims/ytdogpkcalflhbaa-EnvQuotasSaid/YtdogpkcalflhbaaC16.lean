/- Runs. -/
import Derived.Test.YtdogpkcalflhbaaC4
set_option linter.unusedSimpArgs false
set_option linter.unusedVariables false
namespace Go.Proofs.Ytdogpkcalflhbaa
open Go.RowKit
/-- The way up from a number. -/
inductive Up (T : Tb) : Int → List Rec → Prop
  | stop {e : Int} : T.at e = none → Up T e []
  | step {e : Int} {r : Rec} {l : List Rec} : T.at e = some r → Up T r.parent l → Up T e (r :: l)
def runsB (l : List Rec) : Bool := match l with
  | [] => false
  | r :: l => decide (r.state = 1) && (r :: l).all fun r => !r.frozen
section
variable {w : World} {b : Nat} {L : Lay} {T : Tb}
set_option maxHeartbeats 4000000 in
theorem Runs_any (h : TabAt w b L T) (e : Int) (l : List Rec) (hu : Up T e l) : Calls Try.prog 12 #[.pointer (some ⟨b, 0, none⟩), .int .i64 e] w fun v w' => v = .returned (.bool (runsB l)) ∧ Fr No w w' := by
  have h1 := h.head
  have H := Lib.hid h
  cases hu with
  | stop hr =>
    have HB := Lib.hid (at_none h hr)
    clear h hr
    unfold runsB
    go_enter Try.func12, Try.ntmps12
    go_wp2_with fail
    refine HB.out.mono ?_
    rintro r w1 ⟨rfl, hf⟩
    have HF := Lib.hid hf
    clear hf
    go_wp2_with fail
    go_ret
    exact ⟨rfl, HF.out⟩
  | @step _ r l hr hu =>
    obtain ⟨n, rfl, hn, h16⟩ := h.some_at hr
    have HB := Lib.hid (at_some h hn)
    have HN := Lib.hid hn
    have HU := Lib.hid hu
    clear h hr hn hu
    by_cases hs : r.state = 1
    · have hs' : (r.state != 1) = false := by simpa using hs
      have e1 : runsB (r :: l) = (r :: l).all fun r => !r.frozen := by unfold runsB; simp [hs]
      rw [e1]
      obtain ⟨X, hX⟩ : ∃ X, Hid (((r :: l).all fun r => !r.frozen) = X) := ⟨_, Lib.hid rfl⟩
      rw [hX.out]
      clear e1 hs
      go_enter Try.func12, Try.ntmps12
      go_wp2_with fail
      refine HB.out.mono ?_
      rintro v w1 ⟨rfl, hf⟩
      have c2 := (H.out.no hf).c2 HN.out
      have lt := (H.out.no hf).ltRec HN.out
      have HF := Lib.hid hf
      clear hf
      go_wp2_with fail
      go_loopg [5] (l.length + 1) (fun m p wr => ∃ (e : Int) (l' : List Rec), m = l'.length ∧ p = ptrAt L T e ∧ Hid (Up T e l') ∧ Hid ((l'.all fun r => !r.frozen) = X) ∧ Hid (Fr No w wr))
      case atStart => exact ⟨(n : Int), r :: l, rfl, by unfold ptrAt; rw [T.at_nat, HN.out]; rfl, Lib.hid (.step (by rw [T.at_nat]; exact HN.out) HU.out), Lib.hid hX.out, Lib.hid HF.out⟩
      case round =>
        obtain ⟨e, l', hm, rfl, HU2, HX2, HFR⟩ := hrel
        have hh := H.out.no HFR.out
        have hhd := hh.head
        cases hu2 : HU2.out with
        | stop hr2 =>
          have e2 : ptrAt L T e = .pointer none := by unfold ptrAt; rw [hr2]; rfl
          have HXT : Hid (true = X) := Lib.hid HX2.out
          rw [e2]
          clear hr2 hu2 HU2 HX2 hm hh e2
          go_wp2_with fail
          go_ret
          exact ⟨congrArg (fun z => Ending.returned (.bool z)) HXT.out, HFR.out⟩
        | @step _ r2 l2 hr2 hu3 =>
          obtain ⟨n2, rfl, hn2, h162⟩ := hh.some_at hr2
          have e2 : ptrAt L T (n2 : Int) = .pointer (some ⟨L.rb n2, 0, none⟩) := by unfold ptrAt; rw [hr2]; rfl
          rw [e2]
          have c1 := hh.c1 hn2
          have c5 := hh.c5 hn2
          have lt2 := hh.ltRec hn2
          have HN2 := Lib.hid hn2
          have HU3 := Lib.hid hu3
          have KC : Hid (∀ w', Fr No wr w' → w'.cell? ⟨b, 0, none⟩ = some (.pointer (some ⟨L.tb, 0, none⟩)) ∧ w'.cell? ⟨L.rb n2, 1, none⟩ = some (.int .i64 r2.parent)) := Lib.hid fun w' hf => ⟨((H.out.no HFR.out).no hf).head, ((H.out.no HFR.out).no hf).c1 HN2.out⟩
          have KT : Hid (∀ w', Fr No wr w' → TabAt w' b L T) := Lib.hid fun w' hf => (H.out.no HFR.out).no hf
          cases hz : r2.frozen with
          | true =>
            have HXT : Hid (false = X) := Lib.hid (by rw [← HX2.out]; simp [hz])
            rw [hz] at c5
            clear hr2 hu2 HU2 HX2 hm hh e2 hn2 hu3 hz
            go_wp2_with fail
            go_ret
            exact ⟨congrArg (fun z => Ending.returned (.bool z)) HXT.out, HFR.out⟩
          | false =>
            have HXT : Hid ((l2.all fun r => !r.frozen) = X) := Lib.hid (by rw [← HX2.out]; simp [hz])
            have HM : Hid (gk = l2.length + 1) := Lib.hid (by rw [hm]; rfl)
            rw [hz] at c5
            clear hr2 hu2 HU2 HX2 hm hh e2 hn2 hu3 hz
            go_wp2_with fail
            go_region_held3 (fun w' => w'.cell? ⟨b, 0, none⟩ = some (.pointer (some ⟨L.tb, 0, none⟩)) ∧ w'.cell? ⟨L.rb n2, 1, none⟩ = some (.int .i64 r2.parent))
              (first | (with_reducible exact KC.out _ (Fr.refl _ _).drew) | (with_reducible exact KC.out _ ((Fr.refl _ _).drew.trans hf3)) | go_keep)
              (first
                | ((with_reducible refine (at_any (KT.out _ (Fr.refl _ _).drew) r2.parent).mono ?_); rintro e w3 ⟨rfl, hf3⟩))
            go_wp2_with fail
            go_roundg l2.length
            case rel => exact ⟨r2.parent, l2, rfl, rfl, HU3, HXT, Lib.hid (HFR.out.trans ((Fr.refl _ _).drew.trans hf3))⟩
            case measure => have := HM.out; omega
    · have hs' : (r.state != 1) = true := by simpa using hs
      have e1 : runsB (r :: l) = false := by unfold runsB; simp [hs]
      rw [e1]
      clear e1 hs
      go_enter Try.func12, Try.ntmps12
      go_wp2_with fail
      refine HB.out.mono ?_
      rintro v w1 ⟨rfl, hf⟩
      have c2 := (H.out.no hf).c2 HN.out
      have lt := (H.out.no hf).ltRec HN.out
      have HF := Lib.hid hf
      clear hf
      go_wp2_with fail
      go_ret
      exact ⟨rfl, HF.out⟩
end
end Go.Proofs.Ytdogpkcalflhbaa
