/- DiskEdits: the plain part. -/
import Derived.Test.YtppllhdocajfiaaK2
import Derived.Test.YtppllhdocajfiaaS2
set_option linter.unusedSimpArgs false
set_option linter.unusedVariables false
namespace Go.Proofs.Ytppllhdocajfiaa
open Go.RowKit

theorem blk_LAt {w : World} {g : Nat} {X : List UInt8} (hg : w.heap[g]? = some (.cells (X.map bv).toArray 5 (0, 0))) (hX : X.length = 128) : LAt w (.slice (some ⟨g, 0, none⟩) 128 128) (X.map bv) :=
  .inr ⟨⟨g, 0, none⟩, 128, by rw [List.length_map, hX], by rw [List.length_map, hX]; exact Nat.le_refl _, fun _ => ⟨g, 0, rfl, SegAt.of_block hg fun i u hu => by simpa using hu⟩⟩
theorem LAt.segOf {w : World} {a : Option Addr} {n cap : Nat} {L : List Value} (h : LAt w (.slice a n cap) L) : SegOf w a L := by
  intro h0
  rcases h with ⟨h, h1⟩ | ⟨a', cap', h, _, hs⟩
  · rw [h1] at h0; simp at h0
  · obtain ⟨g, o, rfl, hseg⟩ := hs h0
    simp only [Value.slice.injEq] at h
    exact ⟨g, o, h.1, hseg⟩
theorem DSt.other {w wr w' : World} {c g : Nat} {D : Dk} (h : DSt w wr c D) (hf : Fr (One g) wr w') (hb : g ≠ w.heap.size) (hc : g ≠ c) (hg : w.heap.size ≤ g) : DSt w w' c D :=
  ⟨h.disk.keep hf (One.not (Ne.symm hb)) (One.not (Ne.symm hc)), h.own, h.fr.then hf fun i hi hx => by have : i = g := hx; omega⟩
theorem splice_take (M X : List UInt8) (k j : Nat) (y : UInt8) (hj : X[j]? = some y) (hk : k + X.length ≤ M.length) : splice M k (X.take (j + 1)) = (splice M k (X.take j)).set (k + j) y := by
  have hjl := (List.getElem?_eq_some_iff.1 hj).1
  have e : X.take (j + 1) = X.take j ++ [y] := by rw [List.take_add_one, hj]; rfl
  have h1 : (X.take j).length = j := by rw [List.length_take]; omega
  have h2 : (X.take j ++ [y]).length = j + 1 := by rw [List.length_append, h1]; rfl
  apply List.ext_getElem?
  intro i
  rw [e, List.getElem?_set, get_splice _ _ _ _ (by rw [h2]; omega), get_splice _ _ _ _ (by rw [h1]; omega), length_splice _ _ _ (by rw [h1]; omega), h1, h2]
  by_cases hi : k + j = i
  · subst hi
    rw [if_pos (by omega), if_pos rfl, if_pos (by omega), List.getElem?_append_right (by rw [h1]; omega), h1, show k + j - k - j = 0 by omega]
    rfl
  · rw [if_neg hi]
    by_cases h3 : k ≤ i ∧ i < k + j
    · rw [if_pos h3, if_pos (by omega), List.getElem?_append_left (by rw [h1]; omega)]
    · rw [if_neg h3, if_neg (by omega)]
theorem splice_zero (M X : List UInt8) (k : Nat) (hk : k ≤ M.length) : splice M k (X.take 0) = M := by
  unfold splice
  simp
theorem edit_same (D : Dk) (s k : Nat) (X : List UInt8) : (D.edit s k X).med s = splice (D.med s) k X := by simp [Dk.edit]
theorem edit_other (D : Dk) (s k s2 : Nat) (X : List UInt8) (h : s2 ≠ s) : (D.edit s k X).med s2 = D.med s2 := by simp [Dk.edit, h]
theorem crash_none (D : Dk) : (D.crash []).med = D.med := by
  show laidOn (fun i => ([] : List Bool).getD i false) 0 D.cache D.med = _
  have : ∀ (l : List (Nat × List UInt8)) (i : Nat) (m : Nat → List UInt8), laidOn (fun i => ([] : List Bool).getD i false) i l m = m := by
    intro l
    induction l with
    | nil => intro i m; rfl
    | cons p l ih => intro i m; rw [laidOn, ih]; simp
  exact this _ _ _
theorem kept_none : ∀ (l : List (Nat × List UInt8)) (i : Nat), keptOf (fun i => ([] : List Bool).getD i false) i l = 0
  | [], _ => rfl
  | p :: l, i => by rw [keptOf, kept_none l]; simp
end Go.Proofs.Ytppllhdocajfiaa
