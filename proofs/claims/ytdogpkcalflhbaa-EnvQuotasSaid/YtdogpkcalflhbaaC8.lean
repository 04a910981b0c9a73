/- lay, Put. -/
import Derived.Test.YtdogpkcalflhbaaC2
set_option linter.unusedSimpArgs false
set_option linter.unusedVariables false
namespace Go.Proofs.Ytdogpkcalflhbaa
open Go.RowKit

/-- A value lies at place n of the slots. -/
structure Laid (w : World) (L : Lay) (n : Nat) (v : Value) (w' : World) : Prop where
  tb : ∃ cnt, w'.heap[L.tb]? = some (.cells #[.slice (some ⟨L.cb, 0, none⟩) 16 16, .int .i64 cnt, .int .i64 (n : Int)] 98 (0, 0))
  cb : ∀ C, w.heap[L.cb]? = some (.cells C 100 (0, 0)) → w'.heap[L.cb]? = some (.cells ((C.setIfInBounds (n * 2) (.bool true)).setIfInBounds (n * 2 + 1) v) 100 (0, 0))
  fr : Fr (Two L.tb L.cb) w w'

section
variable {w : World} {b : Nat} {L : Lay} {T : Tb}
theorem TabAt.tbcb (h : TabAt w b L T) : L.tb ≠ L.cb := fun e => by
  have h1 := h.ftb
  have h2 := h.fcb
  rw [e, h2] at h1
  simp at h1
theorem lay_raw {w : World} {tb cb n : Nat} {cnt low : Int} {C : Array Value} {p : Option Addr} (hne : tb ≠ cb) (htb : w.heap[tb]? = some (.cells #[.slice (some ⟨cb, 0, none⟩) 16 16, .int .i64 cnt, .int .i64 low] 98 (0, 0)))
    (hcb : w.heap[cb]? = some (.cells C 100 (0, 0))) (hC : C.size = 32) (hn : n < 16) :
    Calls Try.prog 50 #[.pointer (some ⟨tb, 0, none⟩), .int .i64 (n : Int), .pointer p] w fun e w' => e = .returned (.tuple #[]) ∧ (∃ cnt', w'.heap[tb]? = some (.cells #[.slice (some ⟨cb, 0, none⟩) 16 16, .int .i64 cnt', .int .i64 low] 98 (0, 0))) ∧
      w'.heap[cb]? = some (.cells ((C.setIfInBounds (n * 2) (.bool true)).setIfInBounds (n * 2 + 1) (.pointer p)) 100 (0, 0)) ∧ Fr (Two tb cb) w w' := by
  have t0 : w.cell? ⟨tb, 0, none⟩ = some (.slice (some ⟨cb, 0, none⟩) 16 16) := cell_blk htb rfl
  have t1 : w.cell? ⟨tb, 1, none⟩ = some (.int .i64 cnt) := cell_blk htb rfl
  have tf := free_blk htb 1
  obtain ⟨z0, hz0⟩ : ∃ z, C[n * 2]? = some z := ⟨_, Array.getElem?_eq_getElem (by omega)⟩
  obtain ⟨z1, hz1⟩ : ∃ z, C[n * 2 + 1]? = some z := ⟨_, Array.getElem?_eq_getElem (by omega)⟩
  have c0 := cell_blk hcb hz0
  have c1 := cell_blk hcb hz1
  have f0 := free_blk hcb (n * 2)
  have f1 := free_blk hcb (n * 2 + 1)
  have lt1 := lt_of_block htb
  have lt2 := lt_of_block hcb
  have H := Lib.hid (And.intro htb hcb)
  clear htb hcb hz0 hz1
  go_enter Try.func50, Try.ntmps50
  go_wp2
  go_end0
  have hne' : cb ≠ tb := Ne.symm hne
  refine ⟨rfl, ⟨wrap64 (cnt + 1), ?_⟩, ?_, ((((Fr.refl (Two tb cb) w).put (.inl (Two.right _ _)) _ _).put (.inl (Two.right _ _)) _ _).put (.inl (Two.left _ _)) _ _)⟩
  · have := heap_setCell_same ((w.setCell ⟨cb, n * 2, none⟩ (.bool true)).setCell ⟨cb, n * 2 + 1, none⟩ (.pointer p)) tb 1 _ _ (.int .i64 (wrap64 (cnt + 1))) ((Fr.set1 _ _ _ _).heap ((Fr.set1 _ _ _ _).heap H.out.1 (One.not hne)) (One.not hne))
    exact this
  · exact (Fr.set1 _ _ _ _).heap (heap_setCell_same _ _ _ _ _ _ (heap_setCell_same _ _ _ _ _ _ H.out.2)) (One.not hne')

set_option maxHeartbeats 1000000 in
theorem Put_ok (h : TabAt w b L T) (n : Nat) (hlow : T.low ≤ n) (hn : n < 16) (hfree : T.live n = none) (htk : ∀ m, T.low ≤ m → m < n → (T.live m).isSome = true) (p : Option Addr) :
    Calls Try.prog 38 #[.pointer (some ⟨L.tb, 0, none⟩), .pointer p] w fun e w' => e = .returned (.tuple #[.int .i64 (n : Int), .int .i64 0]) ∧ Laid w L n (.pointer p) w' := by
  have hne := h.tbcb
  obtain ⟨cnt, htb⟩ := h.htb
  obtain ⟨C, hC, hsz, hc⟩ := h.hcb
  have HS : Hid (∀ m, m < 16 → C[m * 2]? = some (.bool (T.live m).isSome)) := Lib.hid fun m hm => (hc m hm).1
  have HC := Lib.hid hC
  have HT := Lib.hid htk
  have HF := Lib.hid hfree
  have H0 : Hid (w.heap[L.tb]? = some (.cells #[.slice (some ⟨L.cb, 0, none⟩) 16 16, .int .i64 cnt, .int .i64 (T.low : Int)] 98 (0, 0))) := Lib.hid htb
  obtain ⟨low, hl⟩ : ∃ low, T.low = low := ⟨_, rfl⟩
  rw [hl] at H0 HT hlow
  clear h hC hc htk hfree htb hl
  go_enter Try.func38, Try.ntmps38
  go_wp2_with fail
  go_loopg [] (n - low) (fun m wr => ∃ k : Nat, low ≤ k ∧ k ≤ n ∧ m + k = n ∧ Hid (wr.heap[L.tb]? = some (.cells #[.slice (some ⟨L.cb, 0, none⟩) 16 16, .int .i64 cnt, .int .i64 (k : Int)] 98 (0, 0)) ∧ wr.heap[L.cb]? = some (.cells C 100 (0, 0)) ∧ Fr (Two L.tb L.cb) w wr))
  case atStart => exact ⟨low, by omega, by omega, by omega, Lib.hid ⟨H0.out, HC.out, Fr.refl _ _⟩⟩
  case round =>
    obtain ⟨k, hk1, hk2, hm, HR⟩ := hrel
    have t0 : wr.cell? ⟨L.tb, 0, none⟩ = some (.slice (some ⟨L.cb, 0, none⟩) 16 16) := cell_blk HR.out.1 rfl
    have t2 : wr.cell? ⟨L.tb, 2, none⟩ = some (.int .i64 (k : Int)) := cell_blk HR.out.1 rfl
    have tf := free_blk HR.out.1 2
    have lt1 := lt_of_block HR.out.1
    have hk16 : k < 16 := by omega
    have hkd : decide ((k : Int) < 16) = true := by simp; omega
    have hkz : (0 : Int) ≤ (k : Int) := by omega
    have hkI : (k : Int) < 16 := by omega
    have hke : ((k : Int) == 16) = false := by simp; omega
    by_cases hlt : k < n
    · have c0 : wr.cell? ⟨L.cb, k * 2, none⟩ = some (.bool true) := by
        have := cell_blk HR.out.2.1 (HS.out k hk16)
        rw [HT.out k hk1 hlt] at this
        exact this
      go_wp2_with fail
      go_quiet (fail)
      go_wp2_with fail
      go_roundg (n - (k + 1))
      case rel =>
        refine ⟨k + 1, by omega, by omega, by omega, Lib.hid ⟨?_, (Fr.set1 _ _ _ _).heap (Fr.heap ((Fr.refl No wr).drewN nq) HR.out.2.1 id) (One.not (Ne.symm hne)), (HR.out.2.2.drewN _).put (.inl (Two.left _ _)) _ _⟩⟩
        exact heap_setCell_same _ _ _ _ _ _ (Fr.heap ((Fr.refl No wr).drewN nq) HR.out.1 id)
      case measure => omega
    · obtain rfl : k = n := by omega
      have c0 : wr.cell? ⟨L.cb, k * 2, none⟩ = some (.bool false) := by
        have := cell_blk HR.out.2.1 (HS.out k hk16)
        rw [HF.out] at this
        exact this
      go_wp2_with fail
      go_quiet (fail)
      go_wp2_with fail
      go_quiet (fail)
      go_wp2_with fail
      refine (lay_raw hne (Fr.heap ((Fr.refl No wr).drewN _) HR.out.1 id) (Fr.heap ((Fr.refl No wr).drewN _) HR.out.2.1 id) hsz hk16).mono ?_
      rintro e w2 ⟨rfl, hcnt, hcb, hf⟩
      have H2 : Hid (Laid w L k (.pointer p) w2) := Lib.hid ⟨hcnt, fun C' hC' => by
        have := HC.out
        rw [this] at hC'
        simp only [Option.some.injEq, Obj.cells.injEq] at hC'
        rw [← hC'.1]
        exact hcb, (HR.out.2.2.drewN _).trans hf⟩
      clear hcnt hcb hf
      go_wp2_with fail
      go_ret2
      exact ⟨rfl, H2.out⟩

set_option maxHeartbeats 1000000 in
theorem Put_full (h : TabAt w b L T) (htk : ∀ m, T.low ≤ m → m < 16 → (T.live m).isSome = true) (p : Option Addr) :
    Calls Try.prog 38 #[.pointer (some ⟨L.tb, 0, none⟩), .pointer p] w fun e w' => e = .returned (.tuple #[.int .i64 (-1), .int .i64 2]) ∧ (∃ cnt, w'.heap[L.tb]? = some (.cells #[.slice (some ⟨L.cb, 0, none⟩) 16 16, .int .i64 cnt, .int .i64 16] 98 (0, 0))) ∧ Fr (One L.tb) w w' := by
  have hne := h.tbcb
  have hlow := h.low16
  obtain ⟨cnt, htb⟩ := h.htb
  obtain ⟨C, hC, hsz, hc⟩ := h.hcb
  have HS : Hid (∀ m, m < 16 → C[m * 2]? = some (.bool (T.live m).isSome)) := Lib.hid fun m hm => (hc m hm).1
  have HC := Lib.hid hC
  have HT := Lib.hid htk
  have H0 : Hid (w.heap[L.tb]? = some (.cells #[.slice (some ⟨L.cb, 0, none⟩) 16 16, .int .i64 cnt, .int .i64 (T.low : Int)] 98 (0, 0))) := Lib.hid htb
  obtain ⟨low, hl⟩ : ∃ low, T.low = low := ⟨_, rfl⟩
  rw [hl] at H0 HT hlow
  clear h hC hc htk htb hl
  go_enter Try.func38, Try.ntmps38
  go_wp2_with fail
  go_loopg [] (16 - low) (fun m wr => ∃ k : Nat, low ≤ k ∧ k ≤ 16 ∧ m + k = 16 ∧ Hid (wr.heap[L.tb]? = some (.cells #[.slice (some ⟨L.cb, 0, none⟩) 16 16, .int .i64 cnt, .int .i64 (k : Int)] 98 (0, 0)) ∧ wr.heap[L.cb]? = some (.cells C 100 (0, 0)) ∧ Fr (One L.tb) w wr))
  case atStart => exact ⟨low, by omega, by omega, by omega, Lib.hid ⟨H0.out, HC.out, Fr.refl _ _⟩⟩
  case round =>
    obtain ⟨k, hk1, hk2, hm, HR⟩ := hrel
    have t0 : wr.cell? ⟨L.tb, 0, none⟩ = some (.slice (some ⟨L.cb, 0, none⟩) 16 16) := cell_blk HR.out.1 rfl
    have t2 : wr.cell? ⟨L.tb, 2, none⟩ = some (.int .i64 (k : Int)) := cell_blk HR.out.1 rfl
    have tf := free_blk HR.out.1 2
    have lt1 := lt_of_block HR.out.1
    have hkz : (0 : Int) ≤ (k : Int) := by omega
    by_cases hlt : k < 16
    · have hkd : decide ((k : Int) < 16) = true := by simp; omega
      have hkI : (k : Int) < 16 := by omega
      have c0 : wr.cell? ⟨L.cb, k * 2, none⟩ = some (.bool true) := by
        have := cell_blk HR.out.2.1 (HS.out k hlt)
        rw [HT.out k hk1 hlt] at this
        exact this
      go_wp2_with fail
      go_quiet (fail)
      go_wp2_with fail
      go_roundg (16 - (k + 1))
      case rel =>
        refine ⟨k + 1, by omega, by omega, by omega, Lib.hid ⟨?_, (Fr.set1 _ _ _ _).heap (Fr.heap ((Fr.refl No wr).drewN nq) HR.out.2.1 id) (One.not (Ne.symm hne)), (HR.out.2.2.drewN _).put (.inl rfl) _ _⟩⟩
        exact heap_setCell_same _ _ _ _ _ _ (Fr.heap ((Fr.refl No wr).drewN nq) HR.out.1 id)
      case measure => omega
    · obtain rfl : k = 16 := by omega
      have hkd : decide ((((16 : Nat) : Int)) < 16) = false := by simp
      go_wp2_with fail
      go_quiet (fail)
      go_wp2_with fail
      go_quiet (fail)
      go_wp2_with fail
      go_ret2
      exact ⟨rfl, ⟨cnt, Fr.heap (((Fr.refl No wr).drewN _).drewN _) HR.out.1 id⟩, (HR.out.2.2.drewN _).drewN _⟩

def Lay.add (L : Lay) (n g : Nat) : Lay := { L with rb := fun m => if m = n then g else L.rb m, kv := fun m => if m = n then .slice none 0 0 else L.kv m, F := fun k => if k = g then some (.record n) else L.F k }
def Tb.add (T : Tb) (n : Nat) (r : Rec) : Tb := { T.set n r with low := n }
theorem TabAt.add {w' : World} (h : TabAt w b L T) {n g : Nat} {r : Rec} (hno : L.F g = none) (hl : Laid w L n (.pointer (some ⟨g, 0, none⟩)) w') (hg : w'.heap[g]? = some (.cells (reccells r (.slice none 0 0)) 80 (0, 0))) (hr : r.kids = []) (hfree : T.live n = none) (hn : n < 16) :
    TabAt w' b (L.add n g) (T.add n r) := by
  have F1 : ∀ {k t}, L.F k = some t → (L.add n g).F k = some t := fun {k t} e => by
    simp only [Lay.add]
    rw [if_neg (fun e2 => by rw [e2, hno] at e; cases e)]
    exact e
  have ne2 : ∀ {k t}, L.F k = some t → t ≠ .slots → t ≠ .cells → ¬ Two L.tb L.cb k := fun {k t} e h1 h2 hx => by
    rcases hx with rfl | rfl
    · rw [h.ftb] at e; exact h1 (by simpa using e.symm)
    · rw [h.fcb] at e; exact h2 (by simpa using e.symm)
  have hnn : ∀ {m s}, T.live m = some s → m ≠ n := fun {m s} hm e => by rw [e, hfree] at hm; cases hm
  obtain ⟨C, hC, hsz, hc⟩ := h.hcb
  refine ⟨F1 h.fb, F1 h.ftb, F1 h.fcb, fun m s hm => ?_, fun m s q hm hq => ?_, fun k hk => ?_, hl.fr.heap h.hb (ne2 h.fb (by simp) (by simp)), hl.tb, ⟨_, hl.cb C hC, by simpa using hsz, fun m hm => ?_⟩, fun m s hm => ?_, fun m s hm => ?_, fun m s hm => ?_, by simp only [Tb.add]; omega⟩
  · rcases Tb.set_get hm with ⟨rfl, rfl⟩ | ⟨e, hm⟩
    · simp only [Lay.add, if_true]
    · have := F1 (h.frb m s hm)
      simp only [Lay.add] at this ⊢
      rw [if_neg e]
      exact this
  · rcases Tb.set_get hm with ⟨rfl, rfl⟩ | ⟨e, hm⟩
    · simp only [Lay.add, if_true, Value.ownBlock] at hq; cases hq
    · simp only [Lay.add] at hq
      rw [if_neg e] at hq
      exact F1 (h.fkb m s q hm hq)
  · by_cases e : k = g
    · subst e; exact lt_of_block hg
    · have : Own L k := by unfold Own at hk ⊢; simp only [Lay.add] at hk; rw [if_neg e] at hk; exact hk
      exact Nat.lt_of_lt_of_le (h.flt k this) hl.fr.size
  · obtain ⟨c1, c2⟩ := hc m hm
    by_cases e : m = n
    · subst e
      refine ⟨?_, ?_⟩
      · rw [Array.getElem?_setIfInBounds_ne (by omega), Array.getElem?_setIfInBounds_self_of_lt (by omega)]
        simp [Tb.add, Tb.set]
      · rw [Array.getElem?_setIfInBounds_self_of_lt (by simp; omega)]
        simp [recptr, Tb.add, Tb.set, Lay.add]
    · refine ⟨?_, ?_⟩
      · rw [Array.getElem?_setIfInBounds_ne (by omega), Array.getElem?_setIfInBounds_ne (by omega), c1]
        simp [Tb.add, Tb.set, e]
      · rw [Array.getElem?_setIfInBounds_ne (by omega), Array.getElem?_setIfInBounds_ne (by omega), c2]
        simp [recptr, Tb.add, Tb.set, Lay.add, e]
  · rcases Tb.set_get hm with ⟨rfl, rfl⟩ | ⟨e, hm⟩
    · simp only [Lay.add, if_true]; exact hg
    · simp only [Lay.add]
      rw [if_neg e, if_neg e]
      exact hl.fr.heap (h.hrb m s hm) (ne2 (h.frb m s hm) (by simp) (by simp))
  · rcases Tb.set_get hm with ⟨rfl, rfl⟩ | ⟨e, hm⟩
    · simp only [Lay.add, if_true]; rw [hr]; exact ⟨rfl, .inl ⟨rfl, rfl⟩⟩
    · simp only [Lay.add]
      rw [if_neg e]
      exact own_fr (h.hkb m s hm) hl.fr fun q hq => ne2 (h.fkb m s q hm hq) (by simp) (by simp)
  · rcases Tb.set_get hm with ⟨rfl, rfl⟩ | ⟨e, hm⟩
    · exact hn
    · exact h.lt16 m s hm
/-- Only the lowest free place's hint has moved. -/
theorem TabAt.hint {w' : World} (h : TabAt w b L T) (low : Nat) (hlo : low ≤ 16) (htb : ∃ cnt, w'.heap[L.tb]? = some (.cells #[.slice (some ⟨L.cb, 0, none⟩) 16 16, .int .i64 cnt, .int .i64 (low : Int)] 98 (0, 0))) (hf : Fr (One L.tb) w w') :
    TabAt w' b L { T with low := low } := by
  have ne : ∀ {k t}, L.F k = some t → t ≠ .slots → ¬ One L.tb k := fun {k t} e h1 hx => by
    have e2 : k = L.tb := hx
    rw [e2, h.ftb] at e; exact h1 (by simpa using e.symm)
  obtain ⟨C, hC, hsz, hc⟩ := h.hcb
  exact ⟨h.fb, h.ftb, h.fcb, h.frb, h.fkb, fun k hk => Nat.lt_of_lt_of_le (h.flt k hk) hf.size, hf.heap h.hb (ne h.fb (by simp)), htb, ⟨C, hf.heap hC (ne h.fcb (by simp)), hsz, hc⟩,
    fun n r hn => hf.heap (h.hrb n r hn) (ne (h.frb n r hn) (by simp)), fun n r hn => own_fr (h.hkb n r hn) hf fun g hg => ne (h.fkb n r g hn hg) (by simp), h.lt16, hlo⟩
end
end Go.Proofs.Ytdogpkcalflhbaa
