/- DiskCarried: append of puts; two disks side by side. -/
import Derived.Test.YtppllhdocajfiaaM1
import Derived.Test.YtppllhdocajfiaaV1
set_option linter.unusedSimpArgs false
set_option linter.unusedVariables false
namespace Go.Proofs.Ytppllhdocajfiaa
open Go.RowKit

theorem puts_one : ∀ (l : List PutD), ∀ u ∈ l.flatMap putcells, u.oneCell' = true := by
  intro l u hu
  obtain ⟨p, _, hp⟩ := List.mem_flatMap.1 hu
  simp [putcells] at hp
  rcases hp with rfl | rfl <;> rfl

theorem append_puts {w : World} {ops : Array Oper} {rest : List Oper} {o : Oper} {a : Act} {Q : Exit → Act → World → Prop} (hgd : o.guard = none) (s x : Operand)
    (ho : o.op = .call { callee := .builtin .append, args := #[s, x], argTypes := #[23, 23] }) (base : Nat) (v : Value) (l1 l2 : List PutD) (u : Value) (hs : a.eval s = v) (hown : w.ownsRow base 30 2 v l1.length (l1.flatMap putcells))
    (hx : a.eval x = u) (hu : PutsAt w u l2) (hlen : l1.length + l2.length ≤ 1073741824) (hbase : base ≤ w.heap.size)
    (h : ∀ v' w', w'.ownsRow base 30 2 v' (l1 ++ l2).length ((l1 ++ l2).flatMap putcells) → w.grownBy w' v.ownBlock → wpList Try.prog ops Q rest (a.put o.dst v') w') : wpList Try.prog ops Q (o :: rest) a w := by
  obtain ⟨i0, hi, hz0, hz1, hz2⟩ := info_parts (show (Try.prog.info? 30).map (fun i => (i.zero, i.size, i.bytes)) = some (some (.agg #[.int .i64 0, .int .u8 0]), 2, 16) by kernel_rfl)
  rcases hu with ⟨rfl, h0⟩ | ⟨ad, cap, rfl, hcap, hseg⟩
  · obtain rfl := List.eq_nil_of_length_eq_zero h0
    refine wpList_append_own_none hgd s x 23 ho base 30 i0 2 Try.underlying23 hi v l1.length _ hs hown hx (h v w (by simpa using hown) ⟨rfl, rfl, rfl, Nat.le_refl _, fun _ _ _ => rfl⟩)
  · refine wpList_append_own _ hgd s x 23 ho base 30 i0 (.agg #[.int .i64 0, .int .u8 0]) 2 16 Try.underlying23 hi hz0 hz1 hz2 rfl (by omega) v l1.length _ hs hown ad l2.length cap (l2.flatMap putcells) hx (flat_length putcells 2 l2 fun _ _ => rfl) ?_ (puts_one l2) (by unfold maxLen; omega) (by omega) hbase ?_
    · intro j q hq
      have hj := (List.getElem?_eq_some_iff.1 hq).1
      rw [flat_length putcells 2 l2 fun _ _ => rfl] at hj
      obtain ⟨g, o', rfl, hs'⟩ := hseg (by omega)
      rw [addr_add]
      exact hs' j q hq
    · intro v' w' h1 h2 _
      exact h v' w' (by rw [List.length_append, List.flatMap_append]; exact h1) h2

/-! ### Two disks -/
structure Duo (w : World) (b2 : Nat) (wr : World) (c : Nat) (D : Dk) (c2 : Nat) (U : Dk) : Prop where
  one : DiskAt wr w.heap.size c D
  two : DiskAt wr b2 c2 U
  hc1 : w.heap.size ≤ c
  hb2 : w.heap.size < b2
  bc : b2 ≠ c
  cb : c2 ≠ w.heap.size
  cc : c2 ≠ c
  hc2 : w.heap.size ≤ c2
  fr : Fr No w wr
section
variable {w wr w' : World} {b2 c c' c2 : Nat} {D D' U : Dk}
theorem Duo.no (h : Duo w b2 wr c D c2 U) (hf : Fr No wr w') : Duo w b2 w' c D c2 U :=
  ⟨h.one.keep hf id id, h.two.keep hf id id, h.hc1, h.hb2, h.bc, h.cb, h.cc, h.hc2, h.fr.trans hf⟩
theorem Duo.op1 (h : Duo w b2 wr c D c2 U) (hd : DiskAt w' w.heap.size c' D') (hc : c' = c ∨ c' = w.heap.size ∨ wr.heap.size ≤ c') (hf : Fr (Two w.heap.size c) wr w') : Duo w b2 w' c' D' c2 U := by
  have h1 := h.two.lt
  have h2 := h.hb2; have h3 := h.bc; have h4 := h.cb; have h5 := h.cc; have h6 := h.hc1; have h7 := h.fr.size
  exact ⟨hd, h.two.keep hf (Two.not (by omega) h3) (Two.not h4 h5), by omega, h2, by omega, h4, by omega, h.hc2, h.fr.then hf fun i hi hx => by rcases hx with hx | hx <;> omega⟩
theorem Duo.op2 (h : Duo w b2 wr c D c2 U) {U' : Dk} {c2' : Nat} (hd : DiskAt w' b2 c2' U') (hc : c2' = c2 ∨ c2' = b2 ∨ wr.heap.size ≤ c2') (hf : Fr (Two b2 c2) wr w') : Duo w b2 w' c D c2' U' := by
  have h1 := h.one.lt
  have h2 := h.hb2; have h3 := h.bc; have h4 := h.cb; have h5 := h.cc; have h6 := h.hc1; have h7 := h.fr.size; have h8 := h.hc2
  exact ⟨h.one.keep hf (Two.not (by omega) (by omega)) (Two.not (by omega) (by omega)), hd, h6, h2, h3, by omega, by omega, by omega, h.fr.then hf fun i hi hx => by rcases hx with hx | hx <;> omega⟩
theorem Duo.other (h : Duo w b2 wr c D c2 U) {g : Nat} (hf : Fr (One g) wr w') (h1 : g ≠ w.heap.size) (h2 : g ≠ c) (h3 : g ≠ b2) (h4 : g ≠ c2) (hg : w.heap.size ≤ g) : Duo w b2 w' c D c2 U :=
  ⟨h.one.keep hf (One.not (Ne.symm h1)) (One.not (Ne.symm h2)), h.two.keep hf (One.not (Ne.symm h3)) (One.not (Ne.symm h4)), h.hc1, h.hb2, h.bc, h.cb, h.cc, h.hc2, h.fr.then hf fun i hi hx => by have : i = g := hx; omega⟩
end
end Go.Proofs.Ytppllhdocajfiaa
