/- Loads and stores of whole structs at an operation of the walk. -/
import Derived.Test.YtdogpkcalflhbaaB
set_option linter.unusedSimpArgs false
set_option linter.unusedVariables false
namespace Go.Proofs.Ytdogpkcalflhbaa
open Go.RowKit
section
variable {P : Program}
theorem wpList_store_seg {w : World} {ops : Array Oper} {rest : List Oper} {o : Oper} {a : Act} {Q : Exit → Act → World → Prop} (hgd : o.guard = none) (hd : o.dst = none) (x y : Operand) (t : TypeId) (ho : o.op = .store t x y) (n : Nat)
    (hsize : ∀ w, (sizeOf t).run P w = .ok n w) (g off : Nat) (L : List Value) (hx : a.eval x = .pointer (some ⟨g, off, none⟩)) (hy : a.eval y = .agg L.toArray) (hl : L.length = n) (h1 : OneL L) (hr : RoomAt w g off n)
    (h : wpList P ops Q rest a (World.setSeg w g off L)) : wpList P ops Q (o :: rest) a w := by
  refine wpList_plain hgd fun K hK => ?_
  have hrun := storeNow_seg (P := P) hsize hl h1 hr
  have he : Sem.run P (execOp a.eval o) w = storeNow P w t (a.eval x) (a.eval y) := by
    obtain ⟨d, op, ty, pos, aft, gd⟩ := o
    subst ho
    rfl
  rw [hx, hy, hrun] at he
  have e2 : a.put o.dst undef = a := by rw [hd]; rfl
  unfold Oper.wp
  simp only [he]
  refine hK _ _ ?_
  rw [e2]
  exact h
theorem wpList_load_seg {w : World} {ops : Array Oper} {rest : List Oper} {o : Oper} {a : Act} {Q : Exit → Act → World → Prop} (hgd : o.guard = none) (x : Operand) (t : TypeId) (ho : o.op = .load t x) (n : Nat)
    (hagg : ∀ w, (isAgg t).run P w = .ok true w) (hsize : ∀ w, (sizeOf t).run P w = .ok n w) (g off : Nat) (L : List Value) (hx : a.eval x = .pointer (some ⟨g, off, none⟩)) (hl : L.length = n) (hr : SegAt w g off L)
    (h : wpList P ops Q rest (a.put o.dst (.agg L.toArray)) w) : wpList P ops Q (o :: rest) a w := by
  refine wpList_plain hgd fun K hK => ?_
  have hrun := loadNow_seg (P := P) hagg hsize hl hr
  have he : Sem.run P (execOp a.eval o) w = loadNow P w t (a.eval x) := by
    obtain ⟨d, op, ty, pos, aft, gd⟩ := o
    subst ho
    rfl
  rw [hx, hrun] at he
  unfold Oper.wp
  simp only [he]
  exact hK _ _ h
theorem results_cell {fn : Func} {t : Tmp} {ty : TypeId} (h : fn.results = #[.cell t ty]) {tmps : Array Value} {w : World} {g off n : Nat} {L : List Value} (hagg : ∀ w, (isAgg ty).run P w = .ok true w) (hsize : ∀ w, (sizeOf ty).run P w = .ok n w)
    (ht : tmps.getD t undef = .pointer (some ⟨g, off, none⟩)) (hl : L.length = n) (hr : SegAt w g off L) : Sem.run P (results fn tmps) w = .ok (.agg L.toArray) w := by
  have hr' := run_loadCells_list (P := P) w ⟨g, off, none⟩ L (fun j v hv => by
    have : (⟨g, off, none⟩ : Addr).add j = ⟨g, off + j, none⟩ := by unfold Addr.add; split <;> simp_all
    rw [this]; exact hr j v hv)
  subst hl
  rw [Array.getD_eq_getD_getElem?] at ht
  simp [results, h, ht, asAddr, loadVar, hagg, hsize, hr']
theorem results_cell_tmp {fn : Func} {t u : Tmp} {ty : TypeId} (h : fn.results = #[.cell t ty, .tmp u]) {tmps : Array Value} {w : World} {g off n : Nat} {L : List Value} (hagg : ∀ w, (isAgg ty).run P w = .ok true w) (hsize : ∀ w, (sizeOf ty).run P w = .ok n w)
    (ht : tmps.getD t undef = .pointer (some ⟨g, off, none⟩)) (hl : L.length = n) (hr : SegAt w g off L) : Sem.run P (results fn tmps) w = .ok (.tuple #[.agg L.toArray, tmps.getD u undef]) w := by
  have hr' := run_loadCells_list (P := P) w ⟨g, off, none⟩ L (fun j v hv => by
    have : (⟨g, off, none⟩ : Addr).add j = ⟨g, off + j, none⟩ := by unfold Addr.add; split <;> simp_all
    rw [this]; exact hr j v hv)
  subst hl
  rw [Array.getD_eq_getD_getElem?] at ht
  simp [results, h, ht, asAddr, loadVar, hagg, hsize, hr']
end
/-- A whole block is laid anew. -/
theorem heap_seg_all {w : World} {g : Nat} {cur : Array Value} {t : TypeId} {f : Nat × Nat} {L : List Value} (h : w.heap[g]? = some (.cells cur t f)) (hl : L.length = cur.size) : (World.setSeg w g 0 L).heap[g]? = some (.cells L.toArray t f) := by
  rw [World.heap_setSeg_same w g 0 L h]
  congr 3
  unfold splice
  rw [List.take_zero, List.nil_append, List.drop_eq_nil_of_le (by simp; omega), List.append_nil]
theorem Fr.seg {S : Nat → Prop} {a w : World} (h : Fr S a w) {b : Nat} (hb : S b ∨ a.heap.size ≤ b) (o : Nat) (L : List Value) : Fr S a (World.setSeg w b o L) :=
  ⟨h.os, h.tape, h.output, by simp; exact h.size, fun k hk hs => by
    rw [World.heap_setSeg_other _ _ _ _ (fun e => by rcases hb with hb | hb; exact hs (e ▸ hb); omega)]; exact h.block k hk hs⟩
end Go.Proofs.Ytdogpkcalflhbaa
