/- Plain: what a tree has paid. No program in sight. -/
import Derived.Test.YtdogpkcalflhbaaP2
set_option linter.unusedSimpArgs false
set_option linter.unusedVariables false
namespace Go.Proofs.Ytdogpkcalflhbaa
def paidOf (T : Tb) (c : Nat) : Qt := match T.live c with
  | some r => r.paid
  | none => Qt.zero
def sumPaid (T : Tb) : List Nat → Qt
  | [] => Qt.zero
  | c :: cs => (paidOf T c).plus (sumPaid T cs)
section
variable {T : Tb}
theorem sumPaid_append (T : Tb) : ∀ (l m : List Nat), sumPaid T (l ++ m) = (sumPaid T l).plus (sumPaid T m)
  | [], m => by simp only [List.nil_append, sumPaid, Qt.plus, Qt.zero]; ext <;> simp
  | c :: l, m => by
    simp only [List.cons_append, sumPaid]
    rw [sumPaid_append T l m]
    simp only [Qt.plus]
    ext <;> simp <;> omega
theorem paidOf_nn (hI : Inv T) (c : Nat) : Qnn (paidOf T c) := by
  unfold paidOf
  cases h : T.live c with
  | none => simp [Qnn, Qt.zero]
  | some r =>
    have := (hI.ok c r h).paid
    unfold Qok at this
    unfold Qnn
    simp only
    omega
theorem sumPaid_nn (hI : Inv T) : ∀ l, Qnn (sumPaid T l)
  | [] => by simp [sumPaid, Qnn, Qt.zero]
  | c :: l => by
    have h1 := paidOf_nn hI c
    have h2 := sumPaid_nn hI l
    unfold Qnn at h1 h2 ⊢
    simp only [sumPaid, Qt.plus]
    omega
theorem sumPaid_take (hI : Inv T) (l : List Nat) (j : Nat) : Qle (sumPaid T (l.take j)) (sumPaid T l) := by
  have h := sumPaid_append T (l.take j) (l.drop j)
  rw [List.take_append_drop] at h
  rw [h]
  have h2 := sumPaid_nn hI (l.drop j)
  unfold Qnn at h2
  unfold Qle Qt.plus
  simp only
  omega
theorem sumPaid_succ (T : Tb) {l : List Nat} {j c : Nat} (h : l[j]? = some c) : sumPaid T (l.take (j + 1)) = (sumPaid T (l.take j)).plus (paidOf T c) := by
  rw [List.take_add_one, h, Option.toList_some, sumPaid_append]
  simp only [sumPaid, Qt.plus, Qt.zero]
  ext <;> simp
theorem sum_forest (hI : Inv T) {es l : List Nat} (h : Forest T es l) : Qle ((sumPaid T l).plus ⟨0, l.length, 0⟩) (carvedOf T es) := by
  induction h with
  | nil => simp [sumPaid, carvedOf, Qle, Qt.plus, Qt.zero]
  | @cons e r es a c he h1 h2 ih1 ih2 =>
    have hc := hI.carved e r he
    have hl := hI.left e r he
    rw [hc] at hl
    have e1 : sumPaid T (e :: (a ++ c)) = r.paid.plus ((sumPaid T a).plus (sumPaid T c)) := by
      simp only [sumPaid]
      rw [sumPaid_append]
      unfold paidOf
      rw [he]
    have e2 : carvedOf T (e :: es) = r.whole.child.plus (carvedOf T es) := by
      simp only [carvedOf]
      unfold wholeOf
      rw [he]
    rw [e1, e2]
    unfold Qle Qt.plus Qt.child at *
    simp only [List.length_cons, List.length_append] at *
    omega
theorem sum_tree (hI : Inv T) {e : Nat} {r : Rec} {t : List Nat} (he : T.live e = some r) (ht : Forest T [e] t) : Qle (sumPaid T t) r.whole ∧ (t.length : Int) - 1 ≤ r.whole.e ∧ 0 < t.length := by
  have h := sum_forest hI ht
  have hn := sumPaid_nn hI t
  have e2 : carvedOf T [e] = r.whole.child.plus Qt.zero := by
    simp only [carvedOf]
    unfold wholeOf
    rw [he]
  have hp : 0 < t.length := List.length_pos_of_mem (ht.head e (by simp))
  rw [e2] at h
  unfold Qle Qt.plus Qt.child Qt.zero at *
  unfold Qnn at hn
  simp only at *
  omega
end
end Go.Proofs.Ytdogpkcalflhbaa
