/- DiskArmed: the row. -/
import Derived.Test.YtppllhdocajfiaaR
import Derived.Test.YtppllhdocajfiaaA3
import Derived.Test.YtppllhdocajfiaaA4
import Derived.Test.YtppllhdocajfiaaA5
import Derived.Test.YtppllhdocajfiaaA6
import Derived.WalkKit
import Derived.ProofKit
import Derived.OpenShut
import Derived.JoinedCond
set_option linter.unusedSimpArgs false
set_option linter.unusedVariables false
namespace Go.Proofs.Ytppllhdocajfiaa.diskArmed
open Go.ChangeShapes Go.WideShapes Go.ChangeAt Go.RowKit

theorem own : ownKnob Try.prog.godebug = none := by kernel_rfl
theorem laidOut : laidOutB Try.prog = true := by kernel_rfl

theorem walk (w : World) (vs vl : Value) (script : List OpD) (l : List PutD) (hs : OpsAt w vs script) (hl : PutsAt w vl l) (hsl : script.length ≤ 2097152) (hll : l.length ≤ 2097152) (less : Int) :
    Calls Try.prog 3 #[vs, vl, .int .i64 less] w fun e w' => e = .returned (.bool true) ∧ Fr No w w' := by
  by_cases h0 : less < 0
  · exact armed_neg w vs vl script l hs hl hsl hll less h0
  by_cases h1 : (l.length : Int) < less
  · exact armed_big w vs vl script l hs hl hsl hll less (by omega) h1
  obtain ⟨m, rfl⟩ : ∃ m : Nat, less = m := ⟨less.toNat, by omega⟩
  cases m with
  | zero => exact armed_zero w vs vl script l hs hl hsl hll
  | succ m => exact armed_some w vs vl script l hs hl hsl hll (m + 1) (l.length - (m + 1)) (by omega) (by omega)

set_option maxRecDepth 100000 in
theorem contract (H : Type) (enc : TypeId × Value → H) (W : World) (base : Nat) (args : Array Value) (ds gs : List (DataW H)) (before : List MemPlace)
    (hval : ∀ (j : Nat) t v, Try.f3.params[j]? = some t → args[j]? = some v → Value.okWide Try.prog W .any base t v)
    (hk : Rows.uptoSmall H (ds ++ gs) = true)
    (hW : DataW.Whole enc Try.prog Try.f3.params.toList Rows.diskArmedSpec.vars false W args.toList ds gs before) :
    Calls Try.prog 3 args W fun e W' => ∃ v, e = .returned v ∧ Rows.diskArmedSpec.post enc Try.prog Try.f3 false true false false W args v W' := by
  have hW' := hW
  obtain ⟨p, q, hA0, hV, rfl, hfz, hnd⟩ := hW
  have hA : DataW.TrodAll enc Try.prog W 0 (fun _ => true) true Try.f3.params.toList args.toList ds p := hA0
  rw [Try.params3] at hA hval
  obtain ⟨v0, vs0, d0, ds0, p0, q0, hargs, rfl, rfl, h0, r0⟩ := trodAll_cons hA
  obtain ⟨v1, vs1, d1, ds1, p1, q1, rfl, rfl, rfl, h1, r1⟩ := trodAll_cons r0
  obtain ⟨v2, vs2, d2, ds2, p2, q2, rfl, rfl, rfl, h2, r2⟩ := trodAll_cons r1
  obtain ⟨rfl, rfl, rfl⟩ := trodAll_nil r2
  obtain rfl : args = #[v0, v1, v2] := by cases args; simp_all
  obtain ⟨rfl, rfl⟩ := trodVars_none hV
  obtain ⟨a2, rfl, rfl, rfl, w2⟩ := open_int Try.underlying3 (hval 2 3 v2 rfl rfl) h2
  obtain ⟨b0, l0, c0, rfl⟩ := okWide_slice Try.underlying22 (hval 0 22 v0 rfl rfl)
  obtain ⟨b1, l1, c1, rfl⟩ := okWide_slice Try.underlying23 (hval 1 23 v1 rfl rfl)
  have h0k := h0
  have h1k := h1
  obtain ⟨n0, f0⟩ := h0
  obtain ⟨n1, f1⟩ := h1
  clear hA0 hA r0 r1 r2
  simp only [List.append_nil] at hW'
  have hlt : ∀ x ∈ p0 ++ p1, x.block < W.heap.size := fun x hx => hW'.lt x hx
  have hb := bulks.bound hk
  simp only [List.cons_append, List.nil_append, List.append_nil, Rows.uptoBulkAll] at hb
  obtain ⟨script, hsl, hs⟩ := open_ops f0 (by simp only []; omega)
  obtain ⟨l, hll, hl⟩ := open_puts f1
  simp only [] at hsl hll
  refine (walk W _ _ script l hs hl (by omega) (by omega) a2).mono fun e W' ⟨he, hg⟩ => ?_
  subst he
  have hB : Below W.heap.size W W' := hg.to_below (Nat.le_refl _) fun _ _ => id
  refine ⟨_, rfl, ?_⟩
  refine ⟨_, _, _, [] ++ [], p0 ++ (p1 ++ ([] ++ [])), [], hW', ?_, ?_, rfl, hB.frame _, fun h => by cases h⟩
  · exact trodAll_mk1 (shut_bool Try.underlying4 _)
  · exact trodAll_cons_mk (Below.trod laidOut (by kernel_rfl) (of_decide_eq_true (by kernel_rfl)) h0k hB fun x hx => hlt x (List.mem_append_left _ hx))
      (trodAll_cons_mk (Below.trod laidOut (by kernel_rfl) (of_decide_eq_true (by kernel_rfl)) h1k hB fun x hx => hlt x (List.mem_append_right _ hx)) (trodAll_cons_mk (shut_int Try.underlying3 w2) trodAll_mk0))

set_option maxRecDepth 100000 in
theorem lifted (os : Os) (started : os.Started) (H : Type) (enc : TypeId × Value → H) (F : Stop.Interp) :
    ReturnsInHanded {} Try.checked os 3 .any ((Rows.OpenSpec.upto Rows.diskArmedSpec).pre6 enc Try.prog Try.f3 Rows.diskArmedUptoRow.domain false) (((Rows.OpenSpec.upto Rows.diskArmedSpec).at F).post enc Try.prog Try.f3 false true false false) := by
  refine returnsInHanded_of_cond (C := Try.checked) (s := Rows.OpenSpec.upto Rows.diskArmedSpec) (k := Rows.uptoSmall) rfl own started (by kernel_rfl) Try.func3
    (OpenSpec.witness (enc := enc) (C := Try.checked) (s := Rows.OpenSpec.upto Rows.diskArmedSpec) (k := Rows.uptoSmall) rfl false ⟨#[], #[.slice none 0 0, .slice none 0 0, .int .i64 0], []⟩ 8 (by kernel_rfl) (by kernel_rfl) (by kernel_rfl)
      (x := ([.nil, .nil, .lit (.int .i64 0)], [], [])) (by kernel_rfl) rfl (by kernel_rfl)) ?_
  intro W base args ds gs before hval hW _ hk _
  exact contract H enc W base args ds gs before hval hk hW

theorem over : Rows.diskArmedUptoRow.holds Try.pinned (Rows.OpenSpec.upto Rows.diskArmedSpec) :=
  OpenClaim.holds_of_cond 3 Try.f3 rfl rfl rfl rfl rfl rfl rfl ⟨rfl, rfl, rfl, rfl, rfl⟩ rfl rfl rfl rfl rfl (by kernel_rfl) Try.func3 (by kernel_rfl)
    (of_decide_eq_true (by kernel_rfl)) (by unfold Func.isWrapper; first | (rw [if_pos (by decide +kernel)]; kernel_rfl) | (rw [if_neg (by decide +kernel)]; exact ⟨rfl, rfl⟩))
    (fun os started H enc _ F => lifted os started H enc F)

theorem proved : Rows.DiskArmedUptoSaid :=
  over
#print axioms proved
end Go.Proofs.Ytppllhdocajfiaa.diskArmed
