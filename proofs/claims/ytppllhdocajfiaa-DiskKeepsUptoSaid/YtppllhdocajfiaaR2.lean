/- R2: more of the Disk laws' arguments: ints. -/
import Derived.Test.YtppllhdocajfiaaR
set_option linter.unusedSimpArgs false
set_option linter.unusedVariables false
namespace Go.Proofs.Ytppllhdocajfiaa
open Go.RowKit Go.Deep Go.ChangeShapes
section
variable {H : Type} {enc : TypeId × Value → H} {w : World} {base : Nat} {spare : Nat → Bool} {held : Bool}
theorem open_ints45 {fuel : Nat} {v : Value} {x : DataW H × List MemPlace} (h : DataW.trod enc Try.prog w base spare held fuel 45 [v] = some x) :
    ∃ l : List Int, l.length ≤ Rows.uptoBulk x.1 ∧ LAt w v (l.map (Value.int .i64)) ∧ ∀ z ∈ l, -9223372036854775808 ≤ z ∧ z ≤ 9223372036854775807 := by
  obtain ⟨l, h1, h2, h3⟩ := open_list (α := Int) (fun z => [Value.int .i64 z]) 1 (fun z => -9223372036854775808 ≤ z ∧ z ≤ 9223372036854775807) (by omega) (fun _ => rfl) Try.underlying45 (by kernel_rfl) h
    (fun n cs' y hy _ _ => by obtain ⟨z, rfl, _, hw⟩ := DataW.trod_int Try.underlying3 hy; exact ⟨z, rfl, wf64 hw⟩)
  rw [flat_one] at h2
  exact ⟨l, h1, RAt.one (by rw [List.length_map]; exact h2), h3⟩
end
end Go.Proofs.Ytppllhdocajfiaa
