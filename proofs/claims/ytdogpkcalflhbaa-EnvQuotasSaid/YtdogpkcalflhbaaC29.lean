/- slices.Clone, Children. -/
import Derived.Test.YtdogpkcalflhbaaC28
import Derived.Lib.SliceRun
import Derived.Laws.AppendOwn
set_option linter.unusedSimpArgs false
set_option linter.unusedVariables false
namespace Go.Proofs.Ytdogpkcalflhbaa
open Go.RowKit
section
variable {w w' : World} {b : Nat} {L : Lay} {T : Tb}
set_option maxRecDepth 100000 in
set_option maxHeartbeats 2000000 in
theorem Clone_any {v : Value} {l : List Nat} (hv : w.ownsRow 0 3 1 v l.length (kidv l)) (h16 : l.length ≤ 16) : Calls Try.prog 53 #[v] w fun e w' => ∃ v', e = .returned v' ∧ w'.ownsRow w.heap.size 3 1 v' l.length (kidv l) ∧ Fr No w w' := by
  obtain ⟨i3, hi3, hz30, hz31, hz32⟩ := info_parts Try.info3
  have q22 : ∀ (w : World) (a : Option Addr) (n c : Nat), (binOp .eql 22 (.slice a n c) (.slice none 0 0)).run Try.prog w = .ok (.bool a.isNone) w := fun w a n c => Lib.run_eql_slice_nil w _ _ a n c 0 0 Try.underlying22
  have HV := Lib.hid hv
  obtain ⟨n, hn⟩ : ∃ n, l.length = n := ⟨_, rfl⟩
  rw [hn] at h16 HV ⊢
  have HN := Lib.hid hn
  rcases hv.2 with ⟨rfl, h0⟩ | ⟨g, cap, cur, rfl, hg, hh, hnc, hm, hs, hx⟩
  · clear hv hn h0
    go_enter Try.func53, Try.ntmps53
    go_wp2_with fail
    go_ret
    exact ⟨_, rfl, ⟨HV.out.1, .inl ⟨rfl, by rcases HV.out.2 with ⟨_, h⟩ | ⟨g, c, cu, h, _⟩; exact h; cases h⟩⟩, Fr.refl _ _⟩
  · have hgl := lt_of_block hh
    rw [hn] at HV ⊢
    clear hv hn hh hx hs hm hnc hg
    go_enter Try.func53, Try.ntmps53
    go_wp2_with (with_reducible show wpList _ _ _ (Oper.mk (some 7) _ _ _ _ _ :: _) _ _; refine Stop.mk ?_)
    refine Stop.go ?_
    refine wpList_append_own _ rfl (.tmp 5) (.tmp 6) 22 rfl w.heap.size 3 i3 (.int .i64 0) 1 8 Try.underlying22 hi3 hz30 hz31 hz32 rfl (by omega) (.slice (some ⟨w.heap.size, 0, none⟩) 0 0) 0 [] rfl (World.ownsRow_made w #[] 0 (Nat.le_refl _) (Nat.zero_le _) rfl) ⟨g, 0, none⟩ n cap (kidv l) rfl (by unfold kidv; rw [List.length_map, HN.out]; omega) ?_ ?_ (by unfold maxLen; omega) (by omega) (by simp) ?_
    · intro j u hu
      rw [addr_add, Nat.zero_add]
      exact own_cell (own_fr HV.out ((Fr.refl No w).alloc _) fun _ _ => id) hu
    · intro u hu
      unfold kidv at hu
      obtain ⟨x, _, rfl⟩ := List.mem_map.1 hu
      rfl
    · intro v' w1 hown hgrow _
      have HO : Hid (w1.ownsRow w.heap.size 3 1 v' n (kidv l)) := Lib.hid (by simpa using hown)
      have HF : Hid (Fr No w w1) := Lib.hid (Fr.grown ((Fr.refl No w).alloc _) hgrow fun k hk => by simp only [Value.ownBlock, Option.some.injEq] at hk; exact .inr (by omega))
      clear hown hgrow
      go_wp2_with fail
      go_ret
      exact ⟨_, rfl, HO.out, HF.out⟩
theorem Children_some (h : TabAt w b L T) {n : Nat} {r : Rec} (hn : T.live n = some r) (h16 : r.kids.length ≤ 16) : Calls Try.prog 43 #[.pointer (some ⟨b, 0, none⟩), .int .i64 (n : Int)] w fun e w' => ∃ v, e = .returned (.tuple #[v, .int .i64 0]) ∧ w'.ownsRow w.heap.size 3 1 v r.kids.length (kidv r.kids) ∧ Fr No w w' := by
  have h1 := h.head
  have hbw : b < w.heap.size := lt_of_block h.hb
  have HB := Lib.hid (at_some h hn)
  have H := Lib.hid h
  have HNN := Lib.hid hn
  clear h hn
  go_enter Try.func43, Try.ntmps43
  go_wp2_with fail
  refine HB.out.mono ?_
  rintro r w1 ⟨rfl, hf⟩
  have HF := Lib.hid hf
  have HT := Lib.hid (H.out.no hf)
  have HK := Lib.hid (HT.out.hkb n _ HNN.out)
  obtain ⟨ak, capk, hkv, hk0⟩ := own_slice HK.out
  have c30 := HT.out.c30 HNN.out
  have lt2 := HT.out.ltRec HNN.out
  rw [hkv] at HK c30
  clear hf hkv hk0
  go_wp2_with fail
  refine (Clone_any HK.out h16).mono ?_
  rintro e w2 ⟨v, rfl, hw, hf2⟩
  have HW : Hid (w2.ownsRow w1.heap.size 3 1 v _ _ ∧ Fr No w1 w2) := Lib.hid ⟨hw, hf2⟩
  clear hw hf2
  go_wp2_with fail
  go_ret2
  exact ⟨_, rfl, own_mono HW.out.1 HF.out.size, HF.out.trans HW.out.2⟩
end
end Go.Proofs.Ytdogpkcalflhbaa
