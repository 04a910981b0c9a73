/- DiskApart: the row. -/
import Derived.Test.YtppllhdocajfiaaR3
import Derived.Test.YtppllhdocajfiaaP1
import Derived.WalkKit
import Derived.ProofKit
import Derived.OpenShut
import Derived.JoinedCond
set_option linter.unusedSimpArgs false
set_option linter.unusedVariables false
namespace Go.Proofs.Ytppllhdocajfiaa.diskApart
open Go.ChangeShapes Go.WideShapes Go.ChangeAt Go.RowKit

theorem own : ownKnob Try.prog.godebug = none := by kernel_rfl
theorem laidOut : laidOutB Try.prog = true := by kernel_rfl

set_option maxRecDepth 100000 in
theorem contract (H : Type) (enc : TypeId × Value → H) (W : World) (base : Nat) (args : Array Value) (ds gs : List (DataW H)) (before : List MemPlace)
    (hval : ∀ (j : Nat) t v, Try.f8.params[j]? = some t → args[j]? = some v → Value.okWide Try.prog W .any base t v)
    (hk : Rows.uptoSmall H (ds ++ gs) = true)
    (hW : DataW.Whole enc Try.prog Try.f8.params.toList Rows.diskApartSpec.vars false W args.toList ds gs before) :
    Calls Try.prog 8 args W fun e W' => ∃ v, e = .returned v ∧ Rows.diskApartSpec.post enc Try.prog Try.f8 false true false false W args v W' := by
  have hW' := hW
  obtain ⟨p, q, hA0, hV, rfl, hfz, hnd⟩ := hW
  have hA : DataW.TrodAll enc Try.prog W 0 (fun _ => true) true Try.f8.params.toList args.toList ds p := hA0
  rw [Try.params8] at hA hval
  obtain ⟨v0, vs0, d0, ds0, p0, q0, hargs, rfl, rfl, h0, r0⟩ := trodAll_cons hA
  obtain ⟨v1, vs1, d1, ds1, p1, q1, rfl, rfl, rfl, h1, r1⟩ := trodAll_cons r0
  obtain ⟨rfl, rfl, rfl⟩ := trodAll_nil r1
  obtain rfl : args = #[v0, v1] := by cases args; simp_all
  obtain ⟨rfl, rfl⟩ := trodVars_none hV
  have c30 : Try.prog.cellsOf 30 = 2 := by kernel_rfl
  obtain ⟨b0, l0, c0, rfl⟩ := okWide_slice Try.underlying22 (hval 0 22 v0 rfl rfl)
  obtain ⟨cs, rfl, hcs⟩ := okWide_struct Try.underlying30 (hval 1 30 v1 rfl rfl)
  rw [c30] at hcs
  obtain ⟨u0, u1, rfl⟩ : ∃ u0 u1, cs = #[u0, u1] := by
    obtain ⟨l⟩ := cs
    match l, hcs with
    | [a, b], _ => exact ⟨a, b, rfl⟩
  have h0k := h0
  have h1k := h1
  obtain ⟨n0, f0⟩ := h0
  obtain ⟨n1, f1⟩ := h1
  clear hA0 hA r0 r1
  simp only [List.append_nil] at hW'
  have hlt : ∀ x, x ∈ p0 ++ p1 → x.block < W.heap.size := fun x hx => hW'.lt x (by simpa using hx)
  have hb := bulks.bound hk
  simp only [List.cons_append, List.nil_append, List.append_nil, Rows.uptoBulkAll] at hb
  obtain ⟨script, hsl, hs⟩ := open_ops f0 (by simp only []; omega)
  simp only [] at hsl
  have f2 : DataW.trod enc Try.prog W 0 (fun _ => true) true n1 30 [u0, u1] = some (d1, p1) := f1
  obtain ⟨sec, x, rfl, rfl⟩ := open_put f2
  refine (apart_walk W _ script sec x hs (by omega)).mono fun e W' ⟨he, hg⟩ => ?_
  subst he
  have hB : Below W.heap.size W W' := hg.to_below (Nat.le_refl _) fun _ _ => id
  refine ⟨_, rfl, ?_⟩
  refine ⟨_, _, _, [] ++ [], p0 ++ (p1 ++ ([])), [], hW', ?_, ?_, rfl, hB.frame _, fun h => by cases h⟩
  · exact trodAll_mk1 (shut_bool Try.underlying4 _)
  · exact (trodAll_cons_mk (Below.trod laidOut (by kernel_rfl) (of_decide_eq_true (by kernel_rfl)) h0k hB fun x hx => hlt x (List.mem_append_left _ hx)) (trodAll_cons_mk (Below.trod laidOut (by kernel_rfl) (of_decide_eq_true (by kernel_rfl)) h1k hB fun x hx => hlt x (List.mem_append_right _ hx)) trodAll_mk0))

set_option maxRecDepth 100000 in
theorem lifted (os : Os) (started : os.Started) (H : Type) (enc : TypeId × Value → H) (F : Stop.Interp) :
    ReturnsInHanded {} Try.checked os 8 .any ((Rows.OpenSpec.upto Rows.diskApartSpec).pre6 enc Try.prog Try.f8 Rows.diskApartUptoRow.domain false) (((Rows.OpenSpec.upto Rows.diskApartSpec).at F).post enc Try.prog Try.f8 false true false false) := by
  refine returnsInHanded_of_cond (C := Try.checked) (s := Rows.OpenSpec.upto Rows.diskApartSpec) (k := Rows.uptoSmall) rfl own started (by kernel_rfl) Try.func8
    (OpenSpec.witness (enc := enc) (C := Try.checked) (s := Rows.OpenSpec.upto Rows.diskApartSpec) (k := Rows.uptoSmall) rfl false ⟨#[], #[.slice none 0 0, .agg #[.int .i64 0, .int .u8 0]], []⟩ 8 (by kernel_rfl) (by kernel_rfl) (by kernel_rfl)
      (x := ([.nil, .agg [.lit (.int .i64 0), .lit (.int .u8 0)]], [], [])) (by kernel_rfl) rfl (by kernel_rfl)) ?_
  intro W base args ds gs before hval hW _ hk _
  exact contract H enc W base args ds gs before hval hk hW

theorem over : Rows.diskApartUptoRow.holds Try.pinned (Rows.OpenSpec.upto Rows.diskApartSpec) :=
  OpenClaim.holds_of_cond 8 Try.f8 rfl rfl rfl rfl rfl rfl rfl ⟨rfl, rfl, rfl, rfl, rfl⟩ rfl rfl rfl rfl rfl (by kernel_rfl) Try.func8 (by kernel_rfl)
    (of_decide_eq_true (by kernel_rfl)) (by unfold Func.isWrapper; first | (rw [if_pos (by decide +kernel)]; kernel_rfl) | (rw [if_neg (by decide +kernel)]; exact ⟨rfl, rfl⟩))
    (fun os started H enc _ F => lifted os started H enc F)

theorem proved : Rows.DiskApartUptoSaid :=
  over
#print axioms proved
end Go.Proofs.Ytppllhdocajfiaa.diskApart
