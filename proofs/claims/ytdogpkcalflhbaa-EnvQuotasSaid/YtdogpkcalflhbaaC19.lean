/- Drop. -/
import Derived.Test.YtdogpkcalflhbaaC18
set_option linter.unusedSimpArgs false
set_option linter.unusedVariables false
namespace Go.Proofs.Ytdogpkcalflhbaa
open Go.RowKit
section
variable {w w' : World} {b : Nat} {L : Lay} {T : Tb}
theorem TabAt.drop (h : TabAt w b L T) {n : Nat} (hn : n < 16) {low : Nat} (hlow : low = Nat.min T.low n) (htb : ∃ cnt, w'.heap[L.tb]? = some (.cells #[.slice (some ⟨L.cb, 0, none⟩) 16 16, .int .i64 cnt, .int .i64 (low : Int)] 98 (0, 0)))
    (hcb : ∀ C, w.heap[L.cb]? = some (.cells C 100 (0, 0)) → w'.heap[L.cb]? = some (.cells ((C.setIfInBounds (n * 2) (.bool false)).setIfInBounds (n * 2 + 1) (.pointer none)) 100 (0, 0))) (hf : Fr (Two L.tb L.cb) w w') : TabAt w' b L (T.drop n) := by
  have ne2 : ∀ {k t}, L.F k = some t → t ≠ .slots → t ≠ .cells → ¬ Two L.tb L.cb k := fun {k t} e h1 h2 hx => by
    rcases hx with rfl | rfl
    · rw [h.ftb] at e; exact h1 (by simpa using e.symm)
    · rw [h.fcb] at e; exact h2 (by simpa using e.symm)
  have old : ∀ {m s}, (T.drop n).live m = some s → m ≠ n ∧ T.live m = some s := fun {m s} hm => by
    simp only [Tb.drop] at hm
    by_cases e : m = n
    · rw [if_pos e] at hm; cases hm
    · rw [if_neg e] at hm; exact ⟨e, hm⟩
  obtain ⟨C, hC, hsz, hc⟩ := h.hcb
  subst hlow
  refine ⟨h.fb, h.ftb, h.fcb, fun m s hm => h.frb m s (old hm).2, fun m s g hm hg => h.fkb m s g (old hm).2 hg, fun k hk => Nat.lt_of_lt_of_le (h.flt k hk) hf.size, hf.heap h.hb (ne2 h.fb (by simp) (by simp)), htb, ⟨_, hcb C hC, by simpa using hsz, fun m hm => ?_⟩,
    fun m s hm => hf.heap (h.hrb m s (old hm).2) (ne2 (h.frb m s (old hm).2) (by simp) (by simp)), fun m s hm => own_fr (h.hkb m s (old hm).2) hf fun g hg => ne2 (h.fkb m s g (old hm).2 hg) (by simp) (by simp), fun m s hm => h.lt16 m s (old hm).2, Nat.le_trans (Nat.min_le_left _ _) h.low16⟩
  obtain ⟨c1, c2⟩ := hc m hm
  by_cases e : m = n
  · subst e
    refine ⟨?_, ?_⟩
    · rw [Array.getElem?_setIfInBounds_ne (by omega), Array.getElem?_setIfInBounds_self_of_lt (by omega)]
      simp [Tb.drop]
    · rw [Array.getElem?_setIfInBounds_self_of_lt (by simp; omega)]
      simp [recptr, Tb.drop]
  · refine ⟨?_, ?_⟩
    · rw [Array.getElem?_setIfInBounds_ne (by omega), Array.getElem?_setIfInBounds_ne (by omega), c1]
      simp [Tb.drop, e]
    · rw [Array.getElem?_setIfInBounds_ne (by omega), Array.getElem?_setIfInBounds_ne (by omega), c2]
      simp [recptr, Tb.drop, e]
theorem dropped_world {w : World} {tb cb n : Nat} {cnt low x y : Int} {C : Array Value} (hne : tb ≠ cb) (htb : w.heap[tb]? = some (.cells #[.slice (some ⟨cb, 0, none⟩) 16 16, .int .i64 cnt, .int .i64 low] 98 (0, 0))) (hcb : w.heap[cb]? = some (.cells C 100 (0, 0))) :
    ((((w.setCell ⟨cb, n * 2, none⟩ (.bool false)).setCell ⟨cb, n * 2 + 1, none⟩ (.pointer none)).setCell ⟨tb, 1, none⟩ (.int .i64 x)).setCell ⟨tb, 2, none⟩ (.int .i64 y)).heap[tb]? = some (.cells #[.slice (some ⟨cb, 0, none⟩) 16 16, .int .i64 x, .int .i64 y] 98 (0, 0)) ∧
    (∀ C, w.heap[cb]? = some (.cells C 100 (0, 0)) → ((((w.setCell ⟨cb, n * 2, none⟩ (.bool false)).setCell ⟨cb, n * 2 + 1, none⟩ (.pointer none)).setCell ⟨tb, 1, none⟩ (.int .i64 x)).setCell ⟨tb, 2, none⟩ (.int .i64 y)).heap[cb]? = some (.cells ((C.setIfInBounds (n * 2) (.bool false)).setIfInBounds (n * 2 + 1) (.pointer none)) 100 (0, 0))) ∧
    Fr (Two tb cb) w ((((w.setCell ⟨cb, n * 2, none⟩ (.bool false)).setCell ⟨cb, n * 2 + 1, none⟩ (.pointer none)).setCell ⟨tb, 1, none⟩ (.int .i64 x)).setCell ⟨tb, 2, none⟩ (.int .i64 y)) := by
  have h1 := heap_setCell_same ((w.setCell ⟨cb, n * 2, none⟩ (.bool false)).setCell ⟨cb, n * 2 + 1, none⟩ (.pointer none)) tb 1 _ _ (.int .i64 x) ((Fr.set1 _ _ _ _).heap ((Fr.set1 _ _ _ _).heap htb (One.not hne)) (One.not hne))
  have h2 := heap_setCell_same (((w.setCell ⟨cb, n * 2, none⟩ (.bool false)).setCell ⟨cb, n * 2 + 1, none⟩ (.pointer none)).setCell ⟨tb, 1, none⟩ (.int .i64 x)) tb 2 _ _ (.int .i64 y) h1
  refine ⟨h2, fun C' hC' => ?_, ((((Fr.refl (Two tb cb) w).put (.inl (Two.right _ _)) _ _).put (.inl (Two.right _ _)) _ _).put (.inl (Two.left _ _)) _ _).put (.inl (Two.left _ _)) _ _⟩
  exact (Fr.set1 _ _ _ _).heap ((Fr.set1 _ _ _ _).heap (heap_setCell_same _ _ _ _ _ _ (heap_setCell_same _ _ _ _ _ _ hC')) (One.not (Ne.symm hne))) (One.not (Ne.symm hne))
set_option maxHeartbeats 1000000 in
theorem Drop_any (h : TabAt w b L T) {n : Nat} {r : Rec} (hn : T.live n = some r) : Calls Try.prog 42 #[.pointer (some ⟨L.tb, 0, none⟩), .int .i64 (n : Int)] w fun e w' => (∃ v, e = .returned v) ∧ Left w b L (T.drop n) w' := by
  have h16 := h.lt16 n r hn
  have HB := Lib.hid (has_any h (n : Int))
  rw [T.at_nat, hn] at HB
  have H := Lib.hid h
  obtain ⟨cnt, htb⟩ := h.htb
  have t0 : w.cell? ⟨L.tb, 0, none⟩ = some (.slice (some ⟨L.cb, 0, none⟩) 16 16) := cell_blk htb rfl
  have t1 : w.cell? ⟨L.tb, 1, none⟩ = some (.int .i64 cnt) := cell_blk htb rfl
  have t2 : w.cell? ⟨L.tb, 2, none⟩ = some (.int .i64 (T.low : Int)) := cell_blk htb rfl
  have tf1 := free_blk htb 1
  have tf2 := free_blk htb 2
  have ltt := lt_of_block htb
  obtain ⟨C, hC, hsz, hc⟩ := h.hcb
  have d0 := cell_blk hC (hc n h16).1
  have d1 := cell_blk hC (hc n h16).2
  have df0 := free_blk hC (n * 2)
  have df1 := free_blk hC (n * 2 + 1)
  have ltc := lt_of_block hC
  have hne := h.tbcb
  have HTB := Lib.hid htb
  have HC := Lib.hid hC
  have hlow := h.low16
  obtain ⟨low, hl⟩ : ∃ low, Hid (T.low = low) := ⟨_, Lib.hid rfl⟩
  rw [hl.out] at t2 hlow
  obtain ⟨z0, hz0⟩ : ∃ z, Value.bool (T.live n).isSome = z := ⟨_, rfl⟩
  obtain ⟨z1, hz1⟩ : ∃ z, recptr L T n = z := ⟨_, rfl⟩
  rw [hz0] at d0
  rw [hz1] at d1
  have HO : Hid (∀ w', Fr (Two L.tb L.cb) w w' → Fr (Own L) w w') := Lib.hid fun w' hf => h.two_own hf
  clear h hn htb hC hc hsz hz0 hz1
  go_enter Try.func42, Try.ntmps42
  go_wp2_with fail
  refine HB.out.mono ?_
  rintro e w' ⟨rfl, rfl⟩
  go_wp2_with fail
  · go_ret2
    have hw := dropped_world hne HTB.out HC.out (x := wrap64 (cnt - 1)) (y := (n : Int)) (n := n)
    exact ⟨⟨_, rfl⟩, H.out.drop h16 (by rw [hl.out]; exact (Nat.min_eq_right (by omega)).symm) ⟨_, hw.1⟩ (fun C' hC' => hw.2.1 C' hC') hw.2.2, HO.out _ hw.2.2⟩
  · go_ret2
    have hw := dropped_world hne HTB.out HC.out (x := wrap64 (cnt - 1)) (y := (low : Int)) (n := n)
    exact ⟨⟨_, rfl⟩, H.out.drop h16 (by rw [hl.out]; exact (Nat.min_eq_left (by omega)).symm) ⟨_, hw.1⟩ (fun C' hC' => hw.2.1 C' hC') hw.2.2, HO.out _ hw.2.2⟩
end
end Go.Proofs.Ytdogpkcalflhbaa
