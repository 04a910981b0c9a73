/- slices.Clone, Children. -/
import Derived.Test.YtdogpkcalflhbaaC28
import Derived.Shelf.Lay
import Derived.Shelf.Slices.Clone
import Derived.Ground.Names2Prog
set_option linter.unusedSimpArgs false
set_option linter.unusedVariables false
namespace Go.Proofs.Ytdogpkcalflhbaa
open Go.RowKit Go.Shelf
shelf_lay Lays2.n15 Nm2 15 at Try as Try.laysNm215
section
variable {w w' : World} {b : Nat} {L : Lay} {T : Tb}
theorem Clone_any {v : Value} {l : List Nat} (hv : w.ownsRow 0 3 1 v l.length (kidv l)) (h16 : l.length ≤ 16) : Calls Try.prog 53 #[v] w fun e w' => ∃ v', e = .returned v' ∧ w'.ownsRow w.heap.size 3 1 v' l.length (kidv l) ∧ Fr No w w' := by
  have e1 : ((l.map fun (n : Nat) => (n : Int)).take l.length).map (Value.int .i64) = kidv l := by
    rw [List.take_of_length_le (by simp), List.map_map]
    rfl
  rcases hv.2 with ⟨rfl, h0⟩ | ⟨g, cap, cur, rfl, hg, hh, hnc, hm, hs, hx⟩
  · refine (Any.slices_Clone_int_nil Try.laysNm215 0 0 w).mono ?_
    rintro e w' ⟨rfl, rfl⟩
    exact ⟨_, rfl, ⟨hv.1, .inl ⟨rfl, h0⟩⟩, Fr.refl _ _⟩
  · refine (Any.slices_Clone_int Try.laysNm215 g 0 l.length cap (l.map fun (n : Nat) => (n : Int)) w (by simp) (by omega) (fun j hj => ?_)).mono ?_
    · simp only [List.length_map] at hj
      rw [Nat.zero_add]
      refine own_cell hv ?_
      unfold kidv
      simp [hj, List.getD]
    · rintro e w' ⟨v', rfl, h1, _, h2⟩
      rw [e1] at h1
      exact ⟨v', rfl, h1, Fr.of_below h2⟩
theorem Children_some (h : TabAt w b L T) {n : Nat} {r : Rec} (hn : T.live n = some r) (h16 : r.kids.length ≤ 16) : Calls Try.prog 43 #[.pointer (some ⟨b, 0, none⟩), .int .i64 (n : Int)] w fun e w' => ∃ v, e = .returned (.tuple #[v, .int .i64 0]) ∧ w'.ownsRow w.heap.size 3 1 v r.kids.length (kidv r.kids) ∧ Fr No w w' := by
  have h1 := h.head
  have hbw : b < w.heap.size := lt_of_block h.hb
  have HB := Lib.hid (at_some h hn)
  have H := Lib.hid h
  have HNN := Lib.hid hn
  clear h hn
  go_enter Try.func43, Try.ntmps43
  go_wp2_with fail
  refine HB.out.mono ?_
  rintro r w1 ⟨rfl, hf⟩
  have HF := Lib.hid hf
  have HT := Lib.hid (H.out.no hf)
  have HK := Lib.hid (HT.out.hkb n _ HNN.out)
  obtain ⟨ak, capk, hkv, hk0⟩ := own_slice HK.out
  have c30 := HT.out.c30 HNN.out
  have lt2 := HT.out.ltRec HNN.out
  rw [hkv] at HK c30
  clear hf hkv hk0
  go_wp2_with fail
  refine (Clone_any HK.out h16).mono ?_
  rintro e w2 ⟨v, rfl, hw, hf2⟩
  have HW : Hid (w2.ownsRow w1.heap.size 3 1 v _ _ ∧ Fr No w1 w2) := Lib.hid ⟨hw, hf2⟩
  clear hw hf2
  go_wp2_with fail
  go_ret2
  exact ⟨_, rfl, own_mono HW.out.1 HF.out.size, HF.out.trans HW.out.2⟩
end
end Go.Proofs.Ytdogpkcalflhbaa
