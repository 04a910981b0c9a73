/- Loads and stores of whole structs and arrays, at any place of any block, for the walk; no program in sight. -/
import Derived.WalkKit
import Derived.Laws.CopyOwn
import Derived.StillTailTactics
set_option linter.unusedSimpArgs false
set_option linter.unusedVariables false
namespace Go.Proofs.Ytdogpkcalflhbaa
open Go.RowKit

/-- The cells of L lie from place off of block g on. -/
def SegAt (w : World) (g off : Nat) (L : List Value) : Prop := ∀ j v, L[j]? = some v → w.cell? ⟨g, off + j, none⟩ = some v
/-- There is a block g, free to be written, with n cells from place off on. -/
def RoomAt (w : World) (g off n : Nat) : Prop := ∃ cur t, w.heap[g]? = some (.cells cur t (0, 0)) ∧ off + n ≤ cur.size
/-- Each is the value of one cell. -/
def OneL (L : List Value) : Prop := ∀ v ∈ L, v.oneCell' = true

/-- L laid over block g from place off on. -/
def World.setSeg (w : World) (g off : Nat) (L : List Value) : World :=
  { w with heap := w.heap.modify g fun
      | .cells c e f => .cells (splice c.toList off L).toArray e f
      | o => o }

section
variable (w : World) (g off : Nat) (L : List Value)
@[simp] theorem World.size_setSeg : (World.setSeg w g off L).heap.size = w.heap.size := by simp [World.setSeg]
theorem World.heap_setSeg_same {cur : Array Value} {t : TypeId} {f : Nat × Nat} (h : w.heap[g]? = some (.cells cur t f)) : (World.setSeg w g off L).heap[g]? = some (.cells (splice cur.toList off L).toArray t f) := by
  have hlt : g < w.heap.size := (Array.getElem?_eq_some_iff.1 h).1
  have hv : w.heap[g] = .cells cur t f := (Array.getElem?_eq_some_iff.1 h).2
  unfold World.setSeg
  rw [Array.getElem?_eq_getElem (by simpa using hlt), Array.getElem_modify]
  simp [hv]
theorem World.heap_setSeg_other {k : Nat} (h : k ≠ g) : (World.setSeg w g off L).heap[k]? = w.heap[k]? := by
  simp [World.setSeg, Array.getElem?_modify, Ne.symm h]
@[go_sem] theorem World.cell?_setSeg_other (n i : Nat) (h : n ≠ g) : (World.setSeg w g off L).cell? ⟨n, i, none⟩ = w.cell? ⟨n, i, none⟩ :=
  World.cell?_of_block (World.heap_setSeg_other w g off L h)
@[go_sem] theorem World.frozen?_setSeg (a : Addr) : (World.setSeg w g off L).frozen? a = w.frozen? a := by
  by_cases h : a.block = g
  · subst h
    unfold World.frozen?
    cases hb : w.heap[a.block]? with
    | none => simp [World.setSeg, Array.getElem?_modify, hb]
    | some o => cases o <;> simp [World.setSeg, Array.getElem?_modify, hb]
  · exact World.frozen?_of_block (World.heap_setSeg_other w g off L h)
@[go_sem] theorem World.setSeg_drew : World.setSeg w.drew g off L = (World.setSeg w g off L).drew := rfl

theorem get_splice {α : Type} (C S : List α) (o j : Nat) (h : o + S.length ≤ C.length) : (splice C o S)[j]? = if o ≤ j ∧ j < o + S.length then S[j - o]? else C[j]? := by
  unfold splice
  by_cases h1 : j < o
  · rw [if_neg (by omega), List.getElem?_append_left (by simp; omega), List.getElem?_take, if_pos h1]
  · rw [List.getElem?_append_right (by simp; omega)]
    have e : (C.take o).length = o := by simp; omega
    rw [e]
    by_cases h2 : j < o + S.length
    · rw [if_pos (by omega), List.getElem?_append_left (by omega)]
    · rw [if_neg (by omega), List.getElem?_append_right (by omega), List.getElem?_drop]
      congr 1
      omega
end

theorem SegAt.drew {w : World} {g off : Nat} {L : List Value} (h : SegAt w g off L) : SegAt w.drew g off L := h
theorem RoomAt.drew {w : World} {g off n : Nat} (h : RoomAt w g off n) : RoomAt w.drew g off n := h
theorem SegAt.of_block {w : World} {g off : Nat} {cur : Array Value} {t : TypeId} {f : Nat × Nat} {L : List Value} (h : w.heap[g]? = some (.cells cur t f)) (hl : ∀ j v, L[j]? = some v → cur[off + j]? = some v) : SegAt w g off L :=
  fun j v hv => by rw [cell_of_row w g _ cur t f h]; exact hl j v hv

/-- A region that draws its order: the first n operations only read, the others come in one forced order. -/
theorem region_tail {P : Program} {id : Nat} {Q : Exit → Act → World → Prop} {a : Act} {w : World} {l : List Oper} (n : Nat) (hm : P.follows .mixedOrders = true) (hB : Region.lexTailB .any l.toArray n = true)
    (h : wpStill P l.toArray w.drew (fun a' => wpList P l.toArray Q (l.drop n) a' w.drew) (l.take n) a) : (Code.region id l.toArray true).wp P Q a w :=
  wp_region_still_tail n hm hB h

/-- A load of a whole variable, run. -/
def loadNow (P : Program) (w : World) (t : TypeId) (v : Value) : Result Next := (do let x ← Instr.loadAt t v; pure (Next.value x) : Sem Next).run P w
/-- A store of a whole variable, run. -/
def storeNow (P : Program) (w : World) (t : TypeId) (a v : Value) : Result Next := (do Instr.storeAt t a v; pure Next.skip : Sem Next).run P w
theorem exec_load (P : Program) (w : World) (ρ : Operand → Value) (d : Option Tmp) (t : TypeId) (x : Operand) (ty : TypeId) (pos : String) (aft : Array Edge) (g : Option (Nat × Bool)) :
    Sem.run P (execOp ρ ⟨d, .load t x, ty, pos, aft, g⟩) w = loadNow P w t (ρ x) := rfl
theorem exec_store (P : Program) (w : World) (ρ : Operand → Value) (d : Option Tmp) (t : TypeId) (x y : Operand) (ty : TypeId) (pos : String) (aft : Array Edge) (g : Option (Nat × Bool)) :
    Sem.run P (execOp ρ ⟨d, .store t x y, ty, pos, aft, g⟩) w = storeNow P w t (ρ x) (ρ y) := rfl

section
variable {P : Program}
theorem loadNow_seg {t n : Nat} (hagg : ∀ w, (isAgg t).run P w = .ok true w) (hsize : ∀ w, (sizeOf t).run P w = .ok n w) {w : World} {g off : Nat} {L : List Value} (hl : L.length = n) (h : SegAt w g off L) :
    loadNow P w t (.pointer (some ⟨g, off, none⟩)) = .ok (.value (.agg L.toArray)) w := by
  have hr := run_loadCells_list (P := P) w ⟨g, off, none⟩ L (fun j v hv => by
    have : (⟨g, off, none⟩ : Addr).add j = ⟨g, off + j, none⟩ := by unfold Addr.add; split <;> simp_all
    rw [this]; exact h j v hv)
  simp [loadNow, Instr.loadAt, Instr.sureAddr, loadVar, hagg, hsize, ← hl, hr]

theorem storeNow_seg {t n : Nat} (hsize : ∀ w, (sizeOf t).run P w = .ok n w) {w : World} {g off : Nat} {L : List Value} (hl : L.length = n) (h1 : OneL L) (h : RoomAt w g off n) :
    storeNow P w t (.pointer (some ⟨g, off, none⟩)) (.agg L.toArray) = .ok .skip (World.setSeg w g off L) := by
  obtain ⟨cur, e, hb, hfit⟩ := h
  have hr := run_storeCells_at P g off e L 0 cur w hb (by omega) h1
  have hw : w.setRow g (cur.toList.take (off + 0) ++ L ++ cur.toList.drop (off + 0 + L.length)).toArray = World.setSeg w g off L := by
    unfold World.setRow World.setSeg
    congr 1
    refine Array.ext_getElem? fun k => ?_
    simp only [Array.getElem?_modify]
    split
    · rename_i hk; subst hk
      rw [hb]
      simp [splice]
    · rfl
  simp [storeNow, Instr.storeAt, Instr.sureAddr, storeVar, Value.cells, hsize, ← hl, hr]
  simpa using hw

/-- A slice of one element, built. -/
def buildNow (P : Program) (w : World) (t : TypeId) (x : Value) : Result Next := (do let x ← Instr.buildSlice t 1 #[(0, x)]; pure (Next.value x) : Sem Next).run P w

theorem exec_build1 (P : Program) (w : World) (ρ : Operand → Value) (d : Option Tmp) (t : TypeId) (x : Operand) (ty : TypeId) (pos : String) (aft : Array Edge) (g : Option (Nat × Bool)) :
    Sem.run P (execOp ρ ⟨d, .buildSlice t 1 #[(0, x)], ty, pos, aft, g⟩) w = buildNow P w t (ρ x) := by
  simp only [execOp, buildNow, List.map_toArray, List.map_cons, List.map_nil]
theorem foldl_set : ∀ (l : List Value) (k : Nat) (Z : Array Value), k + l.length = Z.size → (List.foldl (fun cs x => cs.setIfInBounds x.2 x.1) Z (l.zipIdx k)) = (Z.toList.take k ++ l).toArray
  | [], k, Z, h => by
    simp only [List.zipIdx_nil, List.foldl_nil, List.append_nil]
    rw [List.take_of_length_le (by simp at h ⊢; omega)]
  | v :: l, k, Z, h => by
    rw [List.zipIdx_cons, List.foldl_cons, foldl_set l (k + 1) _ (by simp at h ⊢; omega)]
    congr 1
    rw [Array.toList_setIfInBounds]
    have hk : k < Z.toList.length := by simp at h ⊢; omega
    rw [List.take_add_one, List.take_set_of_le (Nat.le_refl _), List.getElem?_set_self hk]
    simp

theorem buildNow_one {t e n : Nat} {z : Value} (ht : ∀ w, (underlying t).run P w = .ok (.slice e) w) (hsize : ∀ w, (sizeOf e).run P w = .ok n w) (hz : ∀ w, (zeroValue e).run P w = .ok z w) (hzs : z.cells.size = n) (h0 : 0 < n) (h24 : n ≤ 16777216)
    {w : World} {L : List Value} (hl : L.length = n) : buildNow P w t (.agg L.toArray) = .ok (.value (.slice (some ⟨w.heap.size, 0, none⟩) 1 1)) (w.alloc (.cells L.toArray e)) := by
  have hf : Instr.fill (fun i => some (i * n, n)) ((Array.range (1 * n)).map (z.cells[· % z.cells.size]!)) [(0, Value.agg L.toArray)] = some L.toArray := by
    have hc : (Value.agg L.toArray).cells = L.toArray := rfl
    simp only [Instr.fill, hc]
    have hsz : ((Array.range (1 * n)).map (z.cells[· % z.cells.size]!)).size = n := by simp
    simp [hl]
    have := foldl_set L 0 ((Array.range n).map (z.cells[· % z.cells.size]!)) (by simp [hl])
    simpa using this
  have hn : ¬ (1 * n = 0) := by omega
  have hb : ¬ (1 * n > 2 ^ 24) := by omega
  simp only [buildNow, Instr.buildSlice, Sem.run_bind, ht, Result.andThen_ok, hsize, hn, hb, if_false, hz, Sem.run_pure, hf]
  rfl

/-- A store into a whole block that was made last. -/
theorem storeNow_new {t n : Nat} (hsize : ∀ w, (sizeOf t).run P w = .ok n w) {w : World} {cs : Array Value} {e : TypeId} {m : Nat} {L : List Value} (hm : m = w.heap.size) (hc : cs.size = n) (hl : L.length = n) (h1 : OneL L) :
    storeNow P (w.alloc (.cells cs e)) t (.pointer (some ⟨m, 0, none⟩)) (.agg L.toArray) = .ok .skip (w.alloc (.cells L.toArray e)) := by
  subst hm
  rw [storeNow_seg hsize hl h1 ⟨cs, e, heap_alloc_new w _, by omega⟩]
  congr 1
  unfold World.setSeg World.alloc
  congr 1
  refine Array.ext_getElem? fun k => ?_
  simp only [Array.getElem?_modify, Array.getElem?_push]
  by_cases hk : k = w.heap.size
  · subst hk
    simp [splice, hc, hl]
  · simp [hk, Ne.symm hk]

theorem setSeg_nil (w : World) (g off : Nat) : World.setSeg w g off [] = w := by
  cases w with
  | mk heap tape drawn os output =>
    unfold World.setSeg
    congr 1
    refine Array.ext_getElem? fun k => ?_
    simp only [Array.getElem?_modify]
    split
    · rename_i hk; subst hk
      cases hb : heap[g]? with
      | none => rfl
      | some o => cases o <;> simp [splice]
    · rfl

theorem run_copy_seg (w : World) (dT sT ty elem : TypeId) (hu : P.underlying dT = some (.slice elem)) (hsz : (P.info? elem).map (·.size) = some 1) (dp sp : Option Addr) (dLen dCap sLen sCap : Nat)
    (g off : Nat) (cs : List Value) (hn : cs.length = Nat.min sLen dLen) (hpos : 0 < cs.length → dp = some ⟨g, off, none⟩ ∧ ∃ b o, sp = some ⟨b, o, none⟩ ∧ SegAt w b o cs) (hroom : 0 < cs.length → RoomAt w g off cs.length) (h1 : OneL cs) :
    (Builtin.copy_ #[dT, sT] ty #[.slice dp dLen dCap, .slice sp sLen sCap]).run P w = .ok (goInt cs.length) (World.setSeg w g off cs) := by
  by_cases h0 : cs.length = 0
  · obtain rfl : cs = [] := List.eq_nil_of_length_eq_zero h0
    rw [setSeg_nil, run_copy_none (P := P) w dT sT ty elem dp sp dLen dCap sLen sCap hu hsz (by simpa using hn.symm)]
    rfl
  · obtain ⟨rfl, b, o, rfl, hseg⟩ := hpos (by omega)
    obtain ⟨cur, t, hg, hfit⟩ := hroom (by omega)
    rw [run_copy_row (P := P) w dT sT ty elem g off dLen dCap ⟨b, o, none⟩ sLen sCap cur t cs hu hsz hg hn (fun j v hv => by
      have : (⟨b, o, none⟩ : Addr).add j = ⟨b, o + j, none⟩ := by unfold Addr.add; split <;> simp_all
      rw [this]; exact hseg j v hv) hfit h1]
    congr 1
    unfold World.setRow World.setSeg
    congr 1
    refine Array.ext_getElem? fun k => ?_
    simp only [Array.getElem?_modify]
    split
    · rename_i hk; subst hk
      rw [hg]
      simp [splice]
    · rfl

/-- copy, the world behind it written out. -/
theorem wpList_copy_seg {w : World} {ops : Array Oper} {rest : List Oper} {o : Oper} {a : Act} {Q : Exit → Act → World → Prop} (hgd : o.guard = none) (d s : Operand) (dT sT : TypeId)
    (ho : o.op = .call { callee := .builtin .copy, args := #[d, s], argTypes := #[dT, sT] }) (elem : TypeId) (hu : P.underlying dT = some (.slice elem)) (hsz : (P.info? elem).map (·.size) = some 1)
    (dp sp : Option Addr) (dLen dCap sLen sCap : Nat) (hd : a.eval d = .slice dp dLen dCap) (hs : a.eval s = .slice sp sLen sCap)
    (g off : Nat) (cs : List Value) (hn : cs.length = Nat.min sLen dLen) (hpos : 0 < cs.length → dp = some ⟨g, off, none⟩ ∧ ∃ b o, sp = some ⟨b, o, none⟩ ∧ SegAt w b o cs) (hroom : 0 < cs.length → RoomAt w g off cs.length) (h1 : OneL cs)
    (h : wpList P ops Q rest (a.put o.dst (goInt cs.length)) (World.setSeg w g off cs)) : wpList P ops Q (o :: rest) a w := by
  refine wpList_plain hgd fun K hK => ?_
  have hrun := run_copy_seg (P := P) w dT sT o.type elem hu hsz dp sp dLen dCap sLen sCap g off cs hn hpos hroom h1
  unfold Oper.wp
  simp [execOp, ho, resolve, invoke, builtin, hd, hs, hrun, Result.andThen]
  exact hK _ _ h
/-- The same as a step of a region that draws its order. -/
theorem step_copy_seg {w : World} {ops : Array Oper} {o : Oper} {a : Act} {K : Act → World → Prop} {Q : Exit → Act → World → Prop} {E : Prop} (hgd : o.guard = none) (d s : Operand) (dT sT : TypeId)
    (ho : o.op = .call { callee := .builtin .copy, args := #[d, s], argTypes := #[dT, sT] }) (elem : TypeId) (hu : P.underlying dT = some (.slice elem)) (hsz : (P.info? elem).map (·.size) = some 1)
    (dp sp : Option Addr) (dLen dCap sLen sCap : Nat) (hd : a.eval d = .slice dp dLen dCap) (hs : a.eval s = .slice sp sLen sCap)
    (g off : Nat) (cs : List Value) (hn : cs.length = Nat.min sLen dLen) (hpos : 0 < cs.length → dp = some ⟨g, off, none⟩ ∧ ∃ b o, sp = some ⟨b, o, none⟩ ∧ SegAt w b o cs) (hroom : 0 < cs.length → RoomAt w g off cs.length) (h1 : OneL cs)
    (h : K (a.put o.dst (goInt cs.length)) (World.setSeg w g off cs)) :
    if Region.wanted o (yielded ops a.tmps) = true then Oper.wp P o a w K Q else E := by
  have hw : Region.wanted o (yielded ops a.tmps) = true := by simp [Region.wanted, hgd]
  rw [if_pos hw]
  have hrun := run_copy_seg (P := P) w dT sT o.type elem hu hsz dp sp dLen dCap sLen sCap g off cs hn hpos hroom h1
  unfold Oper.wp
  simp [execOp, ho, resolve, invoke, builtin, hd, hs, hrun, Result.andThen]
  exact h
end
end Go.Proofs.Ytdogpkcalflhbaa
