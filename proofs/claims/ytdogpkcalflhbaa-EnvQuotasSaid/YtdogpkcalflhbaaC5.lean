/- minus, left, Info. -/
import Derived.Test.YtdogpkcalflhbaaC3
import Derived.Deep.RegionHeld3
import Derived.IntWalk
set_option linter.unusedSimpArgs false
set_option linter.unusedVariables false
namespace Go.Proofs.Ytdogpkcalflhbaa
open Go.RowKit

def qv (q : Qt) : Value := .agg #[.int .i64 q.f, .int .i64 q.e, .int .i64 q.x]
def Qt.minus (a b : Qt) : Qt := ⟨a.f - b.f, a.e - b.e, a.x - b.x⟩
def Qt.plus (a b : Qt) : Qt := ⟨a.f + b.f, a.e + b.e, a.x + b.x⟩
def in64 (x : Int) : Prop := -9223372036854775808 ≤ x ∧ x ≤ 9223372036854775807
def Qt.in64 (a : Qt) : Prop := Ytdogpkcalflhbaa.in64 a.f ∧ Ytdogpkcalflhbaa.in64 a.e ∧ Ytdogpkcalflhbaa.in64 a.x

theorem minus_any (a c : Qt) (w : World) (h : (a.minus c).in64) : Calls Try.prog 47 #[qv a, qv c] w fun e w' => e = .returned (qv (a.minus c)) ∧ Fr No w w' := by
  obtain ⟨a0, a1, a2⟩ := a
  obtain ⟨c0, c1, c2⟩ := c
  simp only [Qt.minus, Qt.in64, in64] at h
  obtain ⟨⟨h0, h1⟩, ⟨h2, h3⟩, ⟨h4, h5⟩⟩ := h
  unfold qv Qt.minus
  go_enter Try.func47, Try.ntmps47
  go_wp2
  exact bodyPost_ret (v := .agg #[.int .i64 (a0 - c0), .int .i64 (a1 - c1), .int .i64 (a2 - c2)]) (by simp [results, Try.results47, go_sem]) rfl ⟨rfl, by
    repeat (first | exact Fr.refl _ _ | apply Fr.alloc | refine Fr.put ?_ (.inr (by simp)) _ _)⟩
theorem minus_raw (a0 a1 a2 c0 c1 c2 : Int) (w : World) (h : (Qt.minus ⟨a0, a1, a2⟩ ⟨c0, c1, c2⟩).in64) : Calls Try.prog 47 #[.agg #[.int .i64 a0, .int .i64 a1, .int .i64 a2], .agg #[.int .i64 c0, .int .i64 c1, .int .i64 c2]] w fun e w' => e = .returned (.agg #[.int .i64 (a0 - c0), .int .i64 (a1 - c1), .int .i64 (a2 - c2)]) ∧ Fr No w w' :=
  minus_any ⟨a0, a1, a2⟩ ⟨c0, c1, c2⟩ w h

def Qok (q : Qt) : Prop := (0 ≤ q.f ∧ q.f ≤ 4611686018427387903) ∧ (0 ≤ q.e ∧ q.e ≤ 4611686018427387903) ∧ (0 ≤ q.x ∧ q.x ≤ 4611686018427387903)
structure Rok (r : Rec) : Prop where
  bits : word r.bits = true
  whole : Qok r.whole
  paid : Qok r.paid
  carved : Qok r.carved
def Rec.left (r : Rec) : Qt := (r.whole.minus r.paid).minus r.carved

set_option maxHeartbeats 1000000 in
theorem left_any {w : World} {g : Nat} {r : Rec} {kv : Value} (hh : w.heap[g]? = some (.cells (reccells r kv) 80 (0, 0))) (ok : Rok r) :
    Calls Try.prog 30 #[.pointer (some ⟨g, 21, none⟩)] w fun e w' => e = .returned (qv r.left) ∧ Fr No w w' := by
  obtain ⟨W, hW⟩ : ∃ W, Hid (W = w.alloc (.cells #[.int .i64 0, .int .i64 0, .int .i64 0] 39)) := ⟨_, Lib.hid rfl⟩
  have HFW : Hid (Fr No w W) := Lib.hid (by rw [hW.out]; exact (Fr.refl _ w).alloc _)
  have HBW : Hid (W.heap[w.heap.size]? = some (.cells #[.int .i64 0, .int .i64 0, .int .i64 0] 39 (0, 0))) := Lib.hid (by rw [hW.out]; exact heap_alloc_new w _)
  obtain ⟨_, ok1, ok2, ok3⟩ := ok
  unfold Qok at ok1 ok2 ok3
  have KC : Hid (∀ w', Fr No w w' → w'.cell? ⟨g, 21, none⟩ = some (.int .i64 r.whole.f) ∧ w'.cell? ⟨g, 22, none⟩ = some (.int .i64 r.whole.e) ∧ w'.cell? ⟨g, 23, none⟩ = some (.int .i64 r.whole.x) ∧
      w'.cell? ⟨g, 24, none⟩ = some (.int .i64 r.paid.f) ∧ w'.cell? ⟨g, 25, none⟩ = some (.int .i64 r.paid.e) ∧ w'.cell? ⟨g, 26, none⟩ = some (.int .i64 r.paid.x) ∧
      w'.cell? ⟨g, 27, none⟩ = some (.int .i64 r.carved.f) ∧ w'.cell? ⟨g, 28, none⟩ = some (.int .i64 r.carved.e) ∧ w'.cell? ⟨g, 29, none⟩ = some (.int .i64 r.carved.x)) := Lib.hid fun w' hf => by
    have hb := hf.heap hh id
    exact ⟨cell_blk hb rfl, cell_blk hb rfl, cell_blk hb rfl, cell_blk hb rfl, cell_blk hb rfl, cell_blk hb rfl, cell_blk hb rfl, cell_blk hb rfl, cell_blk hb rfl⟩
  have HM1 : Hid ((Qt.minus ⟨r.whole.f, r.whole.e, r.whole.x⟩ ⟨r.paid.f, r.paid.e, r.paid.x⟩).in64) := Lib.hid (by simp only [Qt.minus, Qt.in64, in64]; omega)
  have HM2 : Hid ((Qt.minus ⟨r.whole.f - r.paid.f, r.whole.e - r.paid.e, r.whole.x - r.paid.x⟩ ⟨r.carved.f, r.carved.e, r.carved.x⟩).in64) := Lib.hid (by simp only [Qt.minus, Qt.in64, in64]; omega)
  have KB : Hid (∀ w', Fr No W w' → w'.heap[w.heap.size]? = some (.cells #[.int .i64 0, .int .i64 0, .int .i64 0] 39 (0, 0))) := Lib.hid fun w' hf => hf.heap HBW.out id
  unfold Rec.left qv Qt.minus
  obtain ⟨b0, b1, b2, b3, b4, b5, b6, b7, b8⟩ := KC.out _ HFW.out
  have lt : g < W.heap.size := World.block_lt_of_cell? _ _ b0
  clear hh
  go_enter Try.func30, Try.ntmps30
  go_wp2_with fail
  rw [← hW.out]
  go_region_held3 (fun w' => w'.cell? ⟨g, 21, none⟩ = some (.int .i64 r.whole.f) ∧ w'.cell? ⟨g, 22, none⟩ = some (.int .i64 r.whole.e) ∧ w'.cell? ⟨g, 23, none⟩ = some (.int .i64 r.whole.x) ∧
      w'.cell? ⟨g, 24, none⟩ = some (.int .i64 r.paid.f) ∧ w'.cell? ⟨g, 25, none⟩ = some (.int .i64 r.paid.e) ∧ w'.cell? ⟨g, 26, none⟩ = some (.int .i64 r.paid.x) ∧
      w'.cell? ⟨g, 27, none⟩ = some (.int .i64 r.carved.f) ∧ w'.cell? ⟨g, 28, none⟩ = some (.int .i64 r.carved.e) ∧ w'.cell? ⟨g, 29, none⟩ = some (.int .i64 r.carved.x))
    (first | go_keep | exact KC.out _ HFW.out.drew | exact KC.out _ (HFW.out.drew.trans hf1) | exact KC.out _ ((HFW.out.drew.trans hf1).trans hf2) | exact KC.out _ (((((HFW.out.drew.trans hf1).trans hf2).put (.inr (Nat.le_refl _)) _ _).put (.inr (Nat.le_refl _)) _ _).put (.inr (Nat.le_refl _)) _ _))
    (first
      | ((with_reducible refine (minus_raw r.whole.f r.whole.e r.whole.x r.paid.f r.paid.e r.paid.x _ HM1.out).mono ?_); rintro e w1 ⟨rfl, hf1⟩)
      | ((with_reducible refine (minus_raw (r.whole.f - r.paid.f) (r.whole.e - r.paid.e) (r.whole.x - r.paid.x) r.carved.f r.carved.e r.carved.x _ HM2.out).mono ?_); rintro e w2 ⟨rfl, hf2⟩; have hb := KB.out _ (((Fr.refl _ W).drew.trans hf1).trans hf2); have d0 : w2.cell? ⟨w.heap.size, 0, none⟩ = some (.int .i64 0) := cell_blk hb rfl; have d1 : w2.cell? ⟨w.heap.size, 1, none⟩ = some (.int .i64 0) := cell_blk hb rfl; have d2 : w2.cell? ⟨w.heap.size, 2, none⟩ = some (.int .i64 0) := cell_blk hb rfl; have e0 := free_blk hb 0; have e1 := free_blk hb 1; have e2 := free_blk hb 2; have lt2 := lt_of_block hb; clear hb))
  go_wp2_with fail
  exact bodyPost_ret (v := .agg #[.int .i64 (r.whole.f - r.paid.f - r.carved.f), .int .i64 (r.whole.e - r.paid.e - r.carved.e), .int .i64 (r.whole.x - r.paid.x - r.carved.x)]) (by simp [results, Try.results30, go_sem, lt2, d0, d1, d2]) rfl ⟨rfl, ((((HFW.out.drew.trans hf1).trans hf2).put (.inr (Nat.le_refl _)) _ _).put (.inr (Nat.le_refl _)) _ _).put (.inr (Nat.le_refl _)) _ _⟩
end Go.Proofs.Ytdogpkcalflhbaa
