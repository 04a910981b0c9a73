/- R3: a Touch, a Put by value, read. -/
import Derived.Test.YtppllhdocajfiaaR
set_option linter.unusedSimpArgs false
set_option linter.unusedVariables false
namespace Go.Proofs.Ytppllhdocajfiaa
open Go.RowKit Go.Deep Go.ChangeShapes
section
variable {H : Type} {enc : TypeId × Value → H} {w : World} {base : Nat} {spare : Nat → Bool} {held : Bool}
theorem array5 {α : Type} {cs : Array α} (h : cs.size = 5) : ∃ c0 c1 c2 c3 c4, cs = #[c0, c1, c2, c3, c4] := by
  obtain ⟨l⟩ := cs
  match l, h with
  | [c0, c1, c2, c3, c4], _ => exact ⟨c0, c1, c2, c3, c4, rfl⟩
theorem open_put {n : Nat} {u0 u1 : Value} {y : DataW H × List MemPlace} (hy : DataW.trod enc Try.prog w base spare held n 30 [u0, u1] = some y) : ∃ (z0 : Int) (z1 : UInt8), u0 = .int .i64 z0 ∧ u1 = .int .u8 (z1.toNat : Int) := by
  obtain ⟨y0, y1, m, _, _, g0, g1⟩ := ChangeShapes.trod_struct2 Try.underlying30 hy
  have c3 : Try.prog.cellsOf 3 = 1 := by kernel_rfl
  have c5 : Try.prog.cellsOf 5 = 1 := by kernel_rfl
  simp only [c3, c5, List.drop_zero, List.drop_succ_cons, List.take_succ_cons, List.take_zero] at g0 g1
  obtain ⟨z0, e0, _, _⟩ := DataW.trod_int Try.underlying3 g0
  obtain ⟨z1, e1⟩ := open_byte g1
  simp only [List.cons.injEq, and_true] at e0 e1
  exact ⟨z0, z1, e0, e1⟩
theorem open_touch {fuel : Nat} {u0 u1 u2 u3 u4 : Value} {x : DataW H × List MemPlace} (h : DataW.trod enc Try.prog w base spare held fuel 51 [u0, u1, u2, u3, u4] = some x) (hb : Rows.uptoBulk x.1 ≤ 1048576) :
    ∃ (script : List OpD) (sec at' : Int) (b : UInt8) (L : List UInt8), u1 = .int .i64 sec ∧ u2 = .int .u8 (b.toNat : Int) ∧ u3 = .int .i64 at' ∧ OpsAt w u0 script ∧ script.length ≤ 2097152 ∧ LAt w u4 (L.map bv) ∧ L.length ≤ 2097152 := by
  obtain ⟨y0, y1, y2, y3, n, hx, _, g0, g1, g2, g3⟩ := Go.Joins.trod_struct4 Try.underlying51 h
  rw [hx] at hb
  have c3 : Try.prog.cellsOf 3 = 1 := by kernel_rfl
  have c22 : Try.prog.cellsOf 22 = 1 := by kernel_rfl
  have c30 : Try.prog.cellsOf 30 = 2 := by kernel_rfl
  have c34 : Try.prog.cellsOf 34 = 1 := by kernel_rfl
  simp only [c3, c22, c30, c34, List.drop_zero, List.drop_succ_cons, List.take_succ_cons, List.take_zero] at g0 g1 g2 g3
  simp only [Rows.uptoBulk, Rows.uptoBulkAll] at hb
  obtain ⟨script, hl0, hs⟩ := open_ops g0 (by omega)
  obtain ⟨sec, b, rfl, rfl⟩ := open_put g1
  obtain ⟨at', e2, _, _⟩ := DataW.trod_int Try.underlying3 g2
  obtain ⟨L, hl3, hL⟩ := open_bytes g3
  simp only [List.cons.injEq, and_true] at e2
  subst e2
  have h1 : script.length ≤ 2097152 := by omega
  have h2 : L.length ≤ 2097152 := by omega
  exact ⟨script, sec, at', b, L, rfl, rfl, rfl, hs, h1, hL, h2⟩
end
end Go.Proofs.Ytppllhdocajfiaa
