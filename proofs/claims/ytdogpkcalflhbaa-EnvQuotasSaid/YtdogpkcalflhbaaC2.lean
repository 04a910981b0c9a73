/- isWord; the calls that set a field. -/
import Derived.Test.YtdogpkcalflhbaaC1
set_option linter.unusedSimpArgs false
set_option linter.unusedVariables false
namespace Go.Proofs.Ytdogpkcalflhbaa
open Go.RowKit

def word (n : Int) : Bool := decide (0 ≤ n ∧ n ≤ 4294967295)
theorem isWord_any (n : Int) (w : World) : Calls Try.prog 29 #[.int .i64 n] w fun e w' => e = .returned (.bool (word n)) ∧ w = w' := by
  by_cases h0 : 0 ≤ n
  · by_cases h1 : n ≤ 4294967295
    all_goals
      go_enter Try.func29, Try.ntmps29
      go_wp2
      go_ret
      exact ⟨by unfold word; first | (simp; done) | (simp; omega), rfl⟩
  · have h1' : decide (0 ≤ n) = false := by simpa using h0
    go_enter Try.func29, Try.ntmps29
    go_wp2
    go_ret
    exact ⟨by unfold word; first | (simp; done) | (simp; omega), rfl⟩

/-- A call that changes one environment, or is refused. -/
def Tb.on (T : Tb) (e : Int) (f : Rec → Rec) : Tb := match T.at e with
  | none => T
  | some r => T.set e.toNat (f r)
/-- What such a call leaves. -/
structure Left (w : World) (b : Nat) (L : Lay) (T' : Tb) (w' : World) : Prop where
  tab : TabAt w' b L T'
  fr : Fr (Own L) w w'

section
variable {w : World} {b : Nat} {L : Lay} {T : Tb}
theorem TabAt.head (h : TabAt w b L T) : w.cell? ⟨b, 0, none⟩ = some (.pointer (some ⟨L.tb, 0, none⟩)) := cell_blk h.hb rfl
theorem TabAt.some_at (h : TabAt w b L T) {e : Int} {r : Rec} (hr : T.at e = some r) : ∃ n : Nat, e = n ∧ T.live n = some r ∧ n < 16 := by
  have h0 : 0 ≤ e := by
    by_cases h0 : 0 ≤ e
    · exact h0
    · rw [T.at_neg (by omega)] at hr; cases hr
  obtain ⟨n, rfl⟩ : ∃ n : Nat, e = n := ⟨e.toNat, by omega⟩
  rw [T.at_nat] at hr
  exact ⟨n, rfl, hr, h.lt16 n r hr⟩
theorem at_none (h : TabAt w b L T) {e : Int} (hr : T.at e = none) : Calls Try.prog 28 #[.agg #[.pointer (some ⟨L.tb, 0, none⟩)], .int .i64 e] w fun r w' => r = .returned (.pointer none) ∧ Fr No w w' :=
  (at_any h e).mono fun r w' ⟨h1, h2⟩ => ⟨by rw [h1]; unfold ptrAt; rw [hr]; rfl, h2⟩
theorem at_some (h : TabAt w b L T) {n : Nat} {r : Rec} (hr : T.live n = some r) : Calls Try.prog 28 #[.agg #[.pointer (some ⟨L.tb, 0, none⟩)], .int .i64 (n : Int)] w fun v w' => v = .returned (.pointer (some ⟨L.rb n, 0, none⟩)) ∧ Fr No w w' :=
  (at_any h n).mono fun v w' ⟨h1, h2⟩ => ⟨by rw [h1]; unfold ptrAt; rw [T.at_nat, hr]; rfl, h2⟩
theorem TabAt.c0 (h : TabAt w b L T) {n : Nat} {r : Rec} (hr : T.live n = some r) : w.cell? ⟨L.rb n, 0, none⟩ = some (.int .i64 r.serial) := cell_blk (h.hrb n r hr) rfl
theorem TabAt.c1 (h : TabAt w b L T) {n : Nat} {r : Rec} (hr : T.live n = some r) : w.cell? ⟨L.rb n, 1, none⟩ = some (.int .i64 r.parent) := cell_blk (h.hrb n r hr) rfl
theorem TabAt.c2 (h : TabAt w b L T) {n : Nat} {r : Rec} (hr : T.live n = some r) : w.cell? ⟨L.rb n, 2, none⟩ = some (.int .i64 r.state) := cell_blk (h.hrb n r hr) rfl
theorem TabAt.c3 (h : TabAt w b L T) {n : Nat} {r : Rec} (hr : T.live n = some r) : w.cell? ⟨L.rb n, 3, none⟩ = some (.int .i64 r.code) := cell_blk (h.hrb n r hr) rfl
theorem TabAt.c4 (h : TabAt w b L T) {n : Nat} {r : Rec} (hr : T.live n = some r) : w.cell? ⟨L.rb n, 4, none⟩ = some (.int .i64 r.bits) := cell_blk (h.hrb n r hr) rfl
theorem TabAt.c5 (h : TabAt w b L T) {n : Nat} {r : Rec} (hr : T.live n = some r) : w.cell? ⟨L.rb n, 5, none⟩ = some (.bool r.frozen) := cell_blk (h.hrb n r hr) rfl
theorem TabAt.c6 (h : TabAt w b L T) {n : Nat} {r : Rec} (hr : T.live n = some r) : w.cell? ⟨L.rb n, 6, none⟩ = some (.int .u32 r.regs.r0) := cell_blk (h.hrb n r hr) rfl
theorem TabAt.c7 (h : TabAt w b L T) {n : Nat} {r : Rec} (hr : T.live n = some r) : w.cell? ⟨L.rb n, 7, none⟩ = some (.int .u32 r.regs.r1) := cell_blk (h.hrb n r hr) rfl
theorem TabAt.c8 (h : TabAt w b L T) {n : Nat} {r : Rec} (hr : T.live n = some r) : w.cell? ⟨L.rb n, 8, none⟩ = some (.int .u32 r.regs.r2) := cell_blk (h.hrb n r hr) rfl
theorem TabAt.c9 (h : TabAt w b L T) {n : Nat} {r : Rec} (hr : T.live n = some r) : w.cell? ⟨L.rb n, 9, none⟩ = some (.int .u32 r.regs.r3) := cell_blk (h.hrb n r hr) rfl
theorem TabAt.c10 (h : TabAt w b L T) {n : Nat} {r : Rec} (hr : T.live n = some r) : w.cell? ⟨L.rb n, 10, none⟩ = some (.int .u32 r.regs.r4) := cell_blk (h.hrb n r hr) rfl
theorem TabAt.c11 (h : TabAt w b L T) {n : Nat} {r : Rec} (hr : T.live n = some r) : w.cell? ⟨L.rb n, 11, none⟩ = some (.int .u32 r.regs.r5) := cell_blk (h.hrb n r hr) rfl
theorem TabAt.c12 (h : TabAt w b L T) {n : Nat} {r : Rec} (hr : T.live n = some r) : w.cell? ⟨L.rb n, 12, none⟩ = some (.int .u32 r.regs.r6) := cell_blk (h.hrb n r hr) rfl
theorem TabAt.c13 (h : TabAt w b L T) {n : Nat} {r : Rec} (hr : T.live n = some r) : w.cell? ⟨L.rb n, 13, none⟩ = some (.int .u32 r.regs.r7) := cell_blk (h.hrb n r hr) rfl
theorem TabAt.c14 (h : TabAt w b L T) {n : Nat} {r : Rec} (hr : T.live n = some r) : w.cell? ⟨L.rb n, 14, none⟩ = some (.int .u32 r.regs.pc) := cell_blk (h.hrb n r hr) rfl
theorem TabAt.c15 (h : TabAt w b L T) {n : Nat} {r : Rec} (hr : T.live n = some r) : w.cell? ⟨L.rb n, 15, none⟩ = some (.int .i64 0) := cell_blk (h.hrb n r hr) rfl
theorem TabAt.c16 (h : TabAt w b L T) {n : Nat} {r : Rec} (hr : T.live n = some r) : w.cell? ⟨L.rb n, 16, none⟩ = some (.int .i64 0) := cell_blk (h.hrb n r hr) rfl
theorem TabAt.c17 (h : TabAt w b L T) {n : Nat} {r : Rec} (hr : T.live n = some r) : w.cell? ⟨L.rb n, 17, none⟩ = some (.int .i64 0) := cell_blk (h.hrb n r hr) rfl
theorem TabAt.c18 (h : TabAt w b L T) {n : Nat} {r : Rec} (hr : T.live n = some r) : w.cell? ⟨L.rb n, 18, none⟩ = some (.int .i64 0) := cell_blk (h.hrb n r hr) rfl
theorem TabAt.c19 (h : TabAt w b L T) {n : Nat} {r : Rec} (hr : T.live n = some r) : w.cell? ⟨L.rb n, 19, none⟩ = some (.int .i64 0) := cell_blk (h.hrb n r hr) rfl
theorem TabAt.c20 (h : TabAt w b L T) {n : Nat} {r : Rec} (hr : T.live n = some r) : w.cell? ⟨L.rb n, 20, none⟩ = some (.int .i64 0) := cell_blk (h.hrb n r hr) rfl
theorem TabAt.c21 (h : TabAt w b L T) {n : Nat} {r : Rec} (hr : T.live n = some r) : w.cell? ⟨L.rb n, 21, none⟩ = some (.int .i64 r.whole.f) := cell_blk (h.hrb n r hr) rfl
theorem TabAt.c22 (h : TabAt w b L T) {n : Nat} {r : Rec} (hr : T.live n = some r) : w.cell? ⟨L.rb n, 22, none⟩ = some (.int .i64 r.whole.e) := cell_blk (h.hrb n r hr) rfl
theorem TabAt.c23 (h : TabAt w b L T) {n : Nat} {r : Rec} (hr : T.live n = some r) : w.cell? ⟨L.rb n, 23, none⟩ = some (.int .i64 r.whole.x) := cell_blk (h.hrb n r hr) rfl
theorem TabAt.c24 (h : TabAt w b L T) {n : Nat} {r : Rec} (hr : T.live n = some r) : w.cell? ⟨L.rb n, 24, none⟩ = some (.int .i64 r.paid.f) := cell_blk (h.hrb n r hr) rfl
theorem TabAt.c25 (h : TabAt w b L T) {n : Nat} {r : Rec} (hr : T.live n = some r) : w.cell? ⟨L.rb n, 25, none⟩ = some (.int .i64 r.paid.e) := cell_blk (h.hrb n r hr) rfl
theorem TabAt.c26 (h : TabAt w b L T) {n : Nat} {r : Rec} (hr : T.live n = some r) : w.cell? ⟨L.rb n, 26, none⟩ = some (.int .i64 r.paid.x) := cell_blk (h.hrb n r hr) rfl
theorem TabAt.c27 (h : TabAt w b L T) {n : Nat} {r : Rec} (hr : T.live n = some r) : w.cell? ⟨L.rb n, 27, none⟩ = some (.int .i64 r.carved.f) := cell_blk (h.hrb n r hr) rfl
theorem TabAt.c28 (h : TabAt w b L T) {n : Nat} {r : Rec} (hr : T.live n = some r) : w.cell? ⟨L.rb n, 28, none⟩ = some (.int .i64 r.carved.e) := cell_blk (h.hrb n r hr) rfl
theorem TabAt.c29 (h : TabAt w b L T) {n : Nat} {r : Rec} (hr : T.live n = some r) : w.cell? ⟨L.rb n, 29, none⟩ = some (.int .i64 r.carved.x) := cell_blk (h.hrb n r hr) rfl
theorem TabAt.c30 (h : TabAt w b L T) {n : Nat} {r : Rec} (hr : T.live n = some r) : w.cell? ⟨L.rb n, 30, none⟩ = some (L.kv n) := cell_blk (h.hrb n r hr) rfl
theorem TabAt.free (h : TabAt w b L T) {n : Nat} {r : Rec} (hr : T.live n = some r) (j : Nat) : w.frozen? ⟨L.rb n, j, none⟩ = false := free_blk (h.hrb n r hr) j
theorem TabAt.ltRec (h : TabAt w b L T) {n : Nat} {r : Rec} (hr : T.live n = some r) : L.rb n < w.heap.size := lt_of_block (h.hrb n r hr)

/-! SetState -/
def Tb.setState (T : Tb) (e s c : Int) : Tb × Int := match T.at e with
  | none => (T, 90)
  | some r => if s < 0 ∨ 4 < s ∨ word c = false then (T, 1) else (T.set e.toNat { r with state := s, code := c }, 0)
theorem SetState_any (h : TabAt w b L T) (e s c : Int) : Calls Try.prog 9 #[.pointer (some ⟨b, 0, none⟩), .int .i64 e, .int .i64 s, .int .i64 c] w fun r w' => r = .returned (.int .i64 (T.setState e s c).2) ∧ Left w b L (T.setState e s c).1 w' := by
  have h1 := h.head
  unfold Tb.setState
  cases hr : T.at e with
  | none =>
    have HB := Lib.hid (at_none h hr)
    have H := Lib.hid h
    clear h hr
    go_enter Try.func9, Try.ntmps9
    go_wp2_with fail
    refine HB.out.mono ?_
    rintro r w1 ⟨rfl, hf⟩
    have HF := Lib.hid hf
    clear hf
    go_wp2_with fail
    go_ret
    exact ⟨rfl, H.out.no HF.out, HF.out.mono fun _ _ h => h.elim⟩
  | some r =>
    obtain ⟨n, rfl, hn, h16⟩ := h.some_at hr
    simp only [Int.toNat_natCast]
    have HB := Lib.hid (at_some h hn)
    have H := Lib.hid h
    have HN := Lib.hid hn
    have HW := Lib.hid (fun w => isWord_any c w)
    obtain ⟨z, hz⟩ : ∃ z, word c = z := ⟨_, rfl⟩
    rw [hz] at HW ⊢
    clear h hr hn hz
    by_cases hs0 : s < 0
    · rw [if_pos (.inl hs0)]
      go_enter Try.func9, Try.ntmps9
      go_wp2_with fail
      refine HB.out.mono ?_
      rintro r w1 ⟨rfl, hf⟩
      have HF := Lib.hid hf
      clear hf
      go_wp2_with fail
      go_ret
      exact ⟨rfl, H.out.no HF.out, HF.out.mono fun _ _ h => h.elim⟩
    by_cases hs4 : 4 < s
    · rw [if_pos (.inr (.inl hs4))]
      go_enter Try.func9, Try.ntmps9
      go_wp2_with fail
      refine HB.out.mono ?_
      rintro r w1 ⟨rfl, hf⟩
      have HF := Lib.hid hf
      clear hf
      go_wp2_with fail
      go_ret
      exact ⟨rfl, H.out.no HF.out, HF.out.mono fun _ _ h => h.elim⟩
    cases z with
    | false =>
      rw [if_pos (.inr (.inr rfl))]
      go_enter Try.func9, Try.ntmps9
      go_wp2_with fail
      refine HB.out.mono ?_
      rintro r w1 ⟨rfl, hf⟩
      have HF := Lib.hid hf
      clear hf
      go_wp2_with (refine (HW.out _).mono ?_; rintro r w' ⟨rfl, rfl⟩)
      go_ret
      exact ⟨rfl, H.out.no HF.out, HF.out.mono fun _ _ h => h.elim⟩
    | true =>
      rw [if_neg (by simp; omega)]
      go_enter Try.func9, Try.ntmps9
      go_wp2_with fail
      refine HB.out.mono ?_
      rintro v w1 ⟨rfl, hf⟩
      have HT := Lib.hid (H.out.no hf)
      have c2 := HT.out.c2 HN.out
      have c3 := HT.out.c3 HN.out
      have f2 := HT.out.free HN.out 2
      have f3 := HT.out.free HN.out 3
      have lt := HT.out.ltRec HN.out
      have HF := Lib.hid hf
      clear hf
      go_wp2_with (refine (HW.out _).mono ?_; rintro r w' ⟨rfl, rfl⟩)
      go_ret
      refine ⟨rfl, ?_, ((HF.out.mono fun _ _ h => h.elim).own (HT.out.ownRec HN.out)).own (HT.out.ownRec HN.out)⟩
      have := ((HT.out.setRec HN.out rfl 2 (.int .i64 s) (r' := { r with state := s }) rfl).setRec (Tb.set_same _ _ _) rfl 3 (.int .i64 c) (r' := { r with state := s, code := c }) rfl)
      rw [Tb.set_set] at this
      exact this
end
end Go.Proofs.Ytdogpkcalflhbaa
