/- DiskEdits: the row. -/
import Derived.Test.YtppllhdocajfiaaR3
import Derived.Test.YtppllhdocajfiaaE1
import Derived.WalkKit
import Derived.ProofKit
import Derived.OpenShut
import Derived.JoinedCond
set_option linter.unusedSimpArgs false
set_option linter.unusedVariables false
namespace Go.Proofs.Ytppllhdocajfiaa.diskEdits
open Go.ChangeShapes Go.WideShapes Go.ChangeAt Go.RowKit

theorem own : ownKnob Try.prog.godebug = none := by kernel_rfl
theorem laidOut : laidOutB Try.prog = true := by kernel_rfl

set_option maxRecDepth 100000 in
theorem contract (H : Type) (enc : TypeId × Value → H) (W : World) (base : Nat) (args : Array Value) (ds gs : List (DataW H)) (before : List MemPlace)
    (hval : ∀ (j : Nat) t v, Try.f5.params[j]? = some t → args[j]? = some v → Value.okWide Try.prog W .any base t v)
    (hk : Rows.uptoSmall H (ds ++ gs) = true)
    (hW : DataW.Whole enc Try.prog Try.f5.params.toList Rows.diskEditsSpec.vars false W args.toList ds gs before) :
    Calls Try.prog 5 args W fun e W' => ∃ v, e = .returned v ∧ Rows.diskEditsSpec.post enc Try.prog Try.f5 false true false false W args v W' := by
  have hW' := hW
  obtain ⟨p, q, hA0, hV, rfl, hfz, hnd⟩ := hW
  have hA : DataW.TrodAll enc Try.prog W 0 (fun _ => true) true Try.f5.params.toList args.toList ds p := hA0
  rw [Try.params5] at hA hval
  obtain ⟨v0, vs0, d0, ds0, p0, q0, hargs, rfl, rfl, h0, r0⟩ := trodAll_cons hA
  obtain ⟨rfl, rfl, rfl⟩ := trodAll_nil r0
  obtain rfl : args = #[v0] := by cases args; simp_all
  obtain ⟨rfl, rfl⟩ := trodVars_none hV
  have c51 : Try.prog.cellsOf 51 = 5 := by kernel_rfl
  obtain ⟨cs, rfl, hcs⟩ := okWide_struct Try.underlying51 (hval 0 51 v0 rfl rfl)
  rw [c51] at hcs
  obtain ⟨u0, u1, u2, u3, u4, rfl⟩ := array5 hcs
  have h0k := h0
  obtain ⟨n0, f0⟩ := h0
  clear hA0 hA r0
  simp only [List.append_nil] at hW'
  have hlt : ∀ x, x ∈ p0 → x.block < W.heap.size := fun x hx => hW'.lt x (by simpa using hx)
  have hb := bulks.bound hk
  simp only [List.cons_append, List.nil_append, List.append_nil, Rows.uptoBulkAll] at hb
  have f1 : DataW.trod enc Try.prog W 0 (fun _ => true) true n0 51 [u0, u1, u2, u3, u4] = some (d0, p0) := f0
  obtain ⟨script, sec, at', b, L, rfl, rfl, rfl, hs, hsl, hL, hLl⟩ := open_touch f1 (by simp only []; omega)
  refine (edits_walk W u0 u4 script sec at' b L hs hL hsl hLl).mono fun e W' ⟨he, hg⟩ => ?_
  subst he
  have hB : Below W.heap.size W W' := hg.to_below (Nat.le_refl _) fun _ _ => id
  refine ⟨_, rfl, ?_⟩
  refine ⟨_, _, _, [] ++ [], p0 ++ ([]), [], hW', ?_, ?_, rfl, hB.frame _, fun h => by cases h⟩
  · exact trodAll_mk1 (shut_bool Try.underlying4 _)
  · exact (trodAll_cons_mk (Below.trod laidOut (by kernel_rfl) (of_decide_eq_true (by kernel_rfl)) h0k hB fun x hx => hlt x hx) trodAll_mk0)

set_option maxRecDepth 100000 in
theorem lifted (os : Os) (started : os.Started) (H : Type) (enc : TypeId × Value → H) (F : Stop.Interp) :
    ReturnsInHanded {} Try.checked os 5 .any ((Rows.OpenSpec.upto Rows.diskEditsSpec).pre6 enc Try.prog Try.f5 Rows.diskEditsUptoRow.domain false) (((Rows.OpenSpec.upto Rows.diskEditsSpec).at F).post enc Try.prog Try.f5 false true false false) := by
  refine returnsInHanded_of_cond (C := Try.checked) (s := Rows.OpenSpec.upto Rows.diskEditsSpec) (k := Rows.uptoSmall) rfl own started (by kernel_rfl) Try.func5
    (OpenSpec.witness (enc := enc) (C := Try.checked) (s := Rows.OpenSpec.upto Rows.diskEditsSpec) (k := Rows.uptoSmall) rfl false ⟨#[], #[.agg #[.slice none 0 0, .int .i64 0, .int .u8 0, .int .i64 0, .slice none 0 0]], []⟩ 8 (by kernel_rfl) (by kernel_rfl) (by kernel_rfl)
      (x := ([.agg [.nil, .agg [.lit (.int .i64 0), .lit (.int .u8 0)], .lit (.int .i64 0), .nil]], [], [])) (by kernel_rfl) rfl (by kernel_rfl)) ?_
  intro W base args ds gs before hval hW _ hk _
  exact contract H enc W base args ds gs before hval hk hW

theorem over : Rows.diskEditsUptoRow.holds Try.pinned (Rows.OpenSpec.upto Rows.diskEditsSpec) :=
  OpenClaim.holds_of_cond 5 Try.f5 rfl rfl rfl rfl rfl rfl rfl ⟨rfl, rfl, rfl, rfl, rfl⟩ rfl rfl rfl rfl rfl (by kernel_rfl) Try.func5 (by kernel_rfl)
    (of_decide_eq_true (by kernel_rfl)) (by unfold Func.isWrapper; first | (rw [if_pos (by decide +kernel)]; kernel_rfl) | (rw [if_neg (by decide +kernel)]; exact ⟨rfl, rfl⟩))
    (fun os started H enc _ F => lifted os started H enc F)

theorem proved : Rows.DiskEditsUptoSaid :=
  over
#print axioms proved
end Go.Proofs.Ytppllhdocajfiaa.diskEdits
