/- has, Get, at: the environment of a number. -/
import Derived.Test.YtdogpkcalflhbaaT
set_option linter.unusedSimpArgs false
set_option linter.unusedVariables false
namespace Go.Proofs.Ytdogpkcalflhbaa
open Go.RowKit

def Tb.at (T : Tb) (e : Int) : Option Rec := if 0 ≤ e then T.live e.toNat else none
theorem Tb.at_nat (T : Tb) (n : Nat) : T.at (n : Int) = T.live n := by unfold Tb.at; rw [if_pos (by omega)]; rfl
theorem Tb.at_neg (T : Tb) {e : Int} (h : e < 0) : T.at e = none := by unfold Tb.at; rw [if_neg (by omega)]
def ptrAt (L : Lay) (T : Tb) (e : Int) : Value := .pointer ((T.at e).map fun _ => ⟨L.rb e.toNat, 0, none⟩)

section
variable {w : World} {b : Nat} {L : Lay} {T : Tb}
theorem TabAt.cell (h : TabAt w b L T) {n : Nat} (hn : n < 16) : w.cell? ⟨L.cb, n * 2, none⟩ = some (.bool (T.live n).isSome) ∧ w.cell? ⟨L.cb, n * 2 + 1, none⟩ = some (recptr L T n) := by
  obtain ⟨C, hC, _, hc⟩ := h.hcb
  exact ⟨cell_blk hC (hc n hn).1, cell_blk hC (hc n hn).2⟩
theorem TabAt.slice (h : TabAt w b L T) : w.cell? ⟨L.tb, 0, none⟩ = some (.slice (some ⟨L.cb, 0, none⟩) 16 16) := by
  obtain ⟨cnt, h⟩ := h.htb
  exact cell_blk h rfl
theorem TabAt.big (h : TabAt w b L T) {e : Int} (he : 16 ≤ e) : T.at e = none := by
  obtain ⟨n, rfl⟩ : ∃ n : Nat, e = n := ⟨e.toNat, by omega⟩
  rw [T.at_nat]
  cases hn : T.live n with
  | none => rfl
  | some r => have := h.lt16 n r hn; omega

theorem has_any (h : TabAt w b L T) (e : Int) : Calls Try.prog 52 #[.pointer (some ⟨L.tb, 0, none⟩), .int .i64 e] w fun r w' => r = .returned (.bool (T.at e).isSome) ∧ w = w' := by
  have h1 := h.slice
  by_cases h0 : 0 ≤ e
  · by_cases h16 : e < 16
    · obtain ⟨n, rfl⟩ : ∃ n : Nat, e = n := ⟨e.toNat, by omega⟩
      have hn : n < 16 := by omega
      have h2 := (h.cell hn).1
      rw [T.at_nat]
      obtain ⟨z, hz⟩ : ∃ z, (T.live n).isSome = z := ⟨_, rfl⟩
      rw [hz] at h2 ⊢
      clear h hz
      go_enter Try.func52, Try.ntmps52
      go_wp2
      go_ret
      exact ⟨rfl, rfl⟩
    · rw [h.big (by omega)]
      clear h
      go_enter Try.func52, Try.ntmps52
      go_wp2
      go_ret
      exact ⟨rfl, rfl⟩
  · have h0' : decide (0 ≤ e) = false := by simpa using h0
    rw [T.at_neg (by omega)]
    clear h
    go_enter Try.func52, Try.ntmps52
    go_wp2
    go_ret
    exact ⟨rfl, rfl⟩

theorem Get_any (h : TabAt w b L T) (e : Int) : Calls Try.prog 46 #[.pointer (some ⟨L.tb, 0, none⟩), .int .i64 e] w fun r w' => r = .returned (.tuple #[ptrAt L T e, .bool (T.at e).isSome]) ∧ w = w' := by
  have h1 := h.slice
  have HB := Lib.hid (has_any h e)
  cases hr : T.at e with
  | none =>
    rw [hr] at HB
    simp only [ptrAt, hr, Option.map_none, Option.isSome_none] at HB ⊢
    clear hr h
    go_enter Try.func46, Try.ntmps46
    go_wp2_with fail
    refine HB.out.mono ?_
    rintro r w' ⟨rfl, rfl⟩
    go_wp2_with fail
    go_ret2
    exact ⟨rfl, rfl⟩
  | some r =>
    have h0 : 0 ≤ e := by
      by_cases h0 : 0 ≤ e
      · exact h0
      · rw [T.at_neg (by omega)] at hr; cases hr
    obtain ⟨n, rfl⟩ : ∃ n : Nat, e = n := ⟨e.toNat, by omega⟩
    rw [hr] at HB
    simp only [ptrAt, hr, Option.map_some, Option.isSome_some, Int.toNat_natCast] at HB ⊢
    rw [T.at_nat] at hr
    have hn := h.lt16 n r hr
    have h2 := (h.cell hn).2
    simp only [recptr, hr, Option.map_some] at h2
    clear hr h
    go_enter Try.func46, Try.ntmps46
    go_wp2_with fail
    refine HB.out.mono ?_
    rintro r w' ⟨rfl, rfl⟩
    go_wp2_with fail
    go_ret2
    exact ⟨rfl, rfl⟩

theorem at_any (h : TabAt w b L T) (e : Int) : Calls Try.prog 28 #[.agg #[.pointer (some ⟨L.tb, 0, none⟩)], .int .i64 e] w fun r w' => r = .returned (ptrAt L T e) ∧ Fr No w w' := by
  obtain ⟨W, hW⟩ : ∃ W, Hid (W = w.alloc (.cells #[.pointer (some ⟨L.tb, 0, none⟩)] 73)) := ⟨_, Lib.hid rfl⟩
  have HF : Hid (Fr No w W) := Lib.hid (by rw [hW.out]; exact (Fr.refl _ w).alloc _)
  have hc : W.cell? ⟨w.heap.size, 0, none⟩ = some (.pointer (some ⟨L.tb, 0, none⟩)) := by rw [hW.out]; exact cell_blk (heap_alloc_new w _) rfl
  have hlt : w.heap.size < W.heap.size := by rw [hW.out]; simp
  have HB := Lib.hid (Get_any (h.no HF.out) e)
  clear h
  go_enter Try.func28, Try.ntmps28
  go_wp2_with fail
  rw [← hW.out]
  go_wp2_with fail
  refine HB.out.mono ?_
  rintro r w' ⟨rfl, rfl⟩
  go_wp2_with fail
  go_ret
  exact ⟨rfl, HF.out⟩
end
end Go.Proofs.Ytdogpkcalflhbaa
