/- Tree, Children. -/
import Derived.Test.YtdogpkcalflhbaaC27
import Derived.Test.YtdogpkcalflhbaaP3
set_option linter.unusedSimpArgs false
set_option linter.unusedVariables false
namespace Go.Proofs.Ytdogpkcalflhbaa
open Go.RowKit
section
variable {w w' : World} {b : Nat} {L : Lay} {T : Tb}
theorem Tree_some (h : TabAt w b L T) {n : Nat} {r : Rec} {t : List Nat} (hn : T.live n = some r) (ht : Forest T [n] t) (h16 : t.length ≤ 16) : Calls Try.prog 22 #[.pointer (some ⟨b, 0, none⟩), .int .i64 (n : Int)] w fun e w' => ∃ v, e = .returned (.tuple #[v, .int .i64 0]) ∧ w'.ownsRow w.heap.size 3 1 v t.length (kidv t) ∧ Fr No w w' := by
  have h1 := h.head
  have hbw : b < w.heap.size := lt_of_block h.hb
  have HB := Lib.hid (at_some h hn)
  have H := Lib.hid h
  have HT := Lib.hid ht
  clear h hn ht
  go_enter Try.func22, Try.ntmps22
  go_wp2_with fail
  refine HB.out.mono ?_
  rintro r w1 ⟨rfl, hf⟩
  have HF := Lib.hid hf
  clear hf
  go_wp2_with fail
  refine (walk_any 16 w1 n t (.slice none 0 0) [] w1.heap.size (H.out.no HF.out) HT.out h16 (World.ownsRow_nil _ _ _ _) (Nat.le_refl _) (fun g hg => by cases hg) (by simp; omega)).mono ?_
  rintro e w2 ⟨v, rfl, hw⟩
  have HW : Hid (w2.ownsRow w1.heap.size 3 1 v t.length (kidv t) ∧ Fr No w1 w2) := Lib.hid ⟨by simpa using hw.own, hw.fr.mono fun k _ hk => by simp [Value.ownBlock] at hk⟩
  clear hw
  go_wp2_with fail
  go_ret2
  exact ⟨_, rfl, own_mono HW.out.1 HF.out.size, HF.out.trans HW.out.2⟩
end
end Go.Proofs.Ytdogpkcalflhbaa
