/- DiskApart: the four rows, longer by two bytes. -/
import Derived.Test.YtppllhdocajfiaaP0
import Derived.ArgAppend
set_option linter.unusedSimpArgs false
set_option linter.unusedVariables false
namespace Go.Proofs.Ytppllhdocajfiaa
open Go.RowKit

structure Ends (w9 wr : World) (j : Nat) (v : Nat → Value) : Prop where
  cur : ∃ cur, wr.heap[w9.heap.size]? = some (.cells cur 34 (0, 0)) ∧ cur.size = 4 ∧ ∀ k, k < 4 → cur[k]? = some (v k)
  rows : ∀ k, k < 4 → ∃ g cap t, v k = .slice (some ⟨g, 0, none⟩) (if k < j then 130 else 128) cap ∧ wr.ownsRow (w9.heap.size + 1) 5 1 (v k) (if k < j then 130 else 128) ((mark k).map bv ++ t)
  sep : ∀ k l, k < 4 → l < 4 → k ≠ l → (v k).ownBlock ≠ (v l).ownBlock
  fr : Fr No w9 wr
theorem Four.ends {w9 wr : World} {Xs : List (List UInt8)} {a0 a1 a2 a3 : Nat} (h : Four w9 wr Xs [a0, a1, a2, a3]) (hq : ∀ q, q < 4 → Xs[q]? = some (mark q)) : ∃ v, Ends w9 wr 0 v := by
  obtain ⟨cur, hc, hsz, hk⟩ := h.cur
  refine ⟨fun k => .slice (some ⟨[a0, a1, a2, a3].getD k 0, 0, none⟩) 128 128, ⟨cur, hc, hsz, fun k hk4 => ?_⟩, fun k hk4 => ?_, fun k l h1 h2 h3 => ?_, h.fr⟩
  · have hg : [a0, a1, a2, a3][k]? = some ([a0, a1, a2, a3].getD k 0) := by
      rw [List.getD_eq_getElem?_getD, List.getElem?_eq_getElem (by simpa using hk4)]; rfl
    exact hk k _ hg
  · have hg : [a0, a1, a2, a3][k]? = some ([a0, a1, a2, a3].getD k 0) := by
      rw [List.getD_eq_getElem?_getD, List.getElem?_eq_getElem (by simpa using hk4)]; rfl
    have hr := h.rows k _ _ hg (hq k hk4)
    refine ⟨[a0, a1, a2, a3].getD k 0, 128, [], by simp only [Nat.not_lt_zero, if_false], ?_⟩
    simp only [Nat.not_lt_zero, if_false, List.append_nil]
    refine ⟨by simp [mark], .inr ⟨_, 128, _, rfl, h.new _ (List.mem_of_getElem? hg), hr.2, Nat.le_refl _, by unfold maxLen; omega, by simp [mark], ?_⟩⟩
    rw [List.take_of_length_le (by simp [mark])]
  · intro e
    have hg : ∀ k, k < 4 → [a0, a1, a2, a3][k]? = some ([a0, a1, a2, a3].getD k 0) := fun k hk4 => by
      rw [List.getD_eq_getElem?_getD, List.getElem?_eq_getElem (by simpa using hk4)]; rfl
    simp only [Value.ownBlock, Option.some.injEq] at e
    obtain ⟨l3, v3⟩ := List.getElem?_eq_some_iff.1 (hg k h1)
    obtain ⟨l4, v4⟩ := List.getElem?_eq_some_iff.1 (hg l h2)
    have hp := List.pairwise_iff_getElem.1 h.nodup
    rcases Nat.lt_or_gt_of_ne h3 with hlt | hlt
    · exact hp k l l3 l4 hlt (by rw [v3, v4]; exact e)
    · exact hp l k l4 l3 hlt (by rw [v3, v4]; exact e.symm)
theorem Ends.row {w9 wr : World} {j : Nat} {v : Nat → Value} (h : Ends w9 wr j v) (hj : j < 4) : ∃ g cap, v j = .slice (some ⟨g, 0, none⟩) 128 cap ∧ wr.ownsRow (w9.heap.size + 1) 5 1 (v j) 128 ((mark j).map bv) := by
  obtain ⟨g, cap, t, h1, h2⟩ := h.rows j hj
  simp only [Nat.lt_irrefl, if_false] at h1 h2
  have : t = [] := by
    have := h2.1
    simp [mark] at this
    exact this
  subst this
  rw [List.append_nil] at h2
  exact ⟨g, cap, h1, h2⟩
theorem Ends.step {w9 wr W w' : World} {j : Nat} {v : Nat → Value} {g cap g' cap' : Nat} {t : List Value} (h : Ends w9 wr j v) (hj : j < 4) (hv : v j = .slice (some ⟨g, 0, none⟩) 128 cap) (hW : Fr No wr W)
    (hown : w'.ownsRow (w9.heap.size + 1) 5 1 (.slice (some ⟨g', 0, none⟩) 130 cap') 130 ((mark j).map bv ++ t)) (hgrow : W.grownBy w' (v j).ownBlock) (hat : (v j).ownBlock = some g' ∨ g' = W.heap.size) :
    Ends w9 (w'.setCell ⟨w9.heap.size, j, none⟩ (.slice (some ⟨g', 0, none⟩) 130 cap')) (j + 1) (fun k => if k = j then .slice (some ⟨g', 0, none⟩) 130 cap' else v k) := by
  obtain ⟨cur, hc, hsz, hk⟩ := h.cur
  have ht := lt_of_block hc
  obtain ⟨g0, cap0, e0, o0⟩ := h.row hj
  rw [hv] at e0
  simp only [Value.slice.injEq, Option.some.injEq, Addr.mk.injEq] at e0
  obtain ⟨⟨rfl, _⟩, _, rfl⟩ := e0
  rw [hv] at o0
  have hb := own_base o0
  rw [hv] at hgrow hat
  simp only [Value.ownBlock] at hgrow hat
  have hf : Fr (One g) wr w' := Fr.grown (hW.mono fun _ _ h => h.elim) hgrow fun k hk => .inl (show k = g by simpa using hk.symm)
  have hgb : w9.heap.size + 1 ≤ g' := by
    rcases hat with e | e
    · simp at e; omega
    · have := hW.size; omega
  refine ⟨⟨cur.setIfInBounds j _, heap_setCell_same _ _ _ _ _ _ (hf.heap hc (One.not (by omega))), by simpa using hsz, fun k hk4 => ?_⟩, fun k hk4 => ?_, fun k l h1 h2 h3 => ?_, ?_⟩
  · by_cases e : k = j
    · subst e
      rw [Array.getElem?_setIfInBounds_self_of_lt (by omega), if_pos rfl]
    · rw [Array.getElem?_setIfInBounds_ne (fun x => e x.symm), if_neg e]
      exact hk k hk4
  · by_cases e : k = j
    · subst e
      simp only [if_true, Nat.lt_succ_self]
      exact ⟨g', cap', t, rfl, own_fr hown (Fr.set1 _ _ _ _) fun q hq => One.not (by simp [Value.ownBlock] at hq; omega)⟩
    · obtain ⟨gk, ck, tk, e1, e2⟩ := h.rows k hk4
      have e3 : (if k < j + 1 then 130 else 128) = if k < j then 130 else 128 := by
        by_cases e4 : k < j
        · rw [if_pos e4, if_pos (by omega)]
        · rw [if_neg e4, if_neg (by omega)]
      rw [if_neg e, e3]
      refine ⟨gk, ck, tk, e1, ?_⟩
      have hne := h.sep k j hk4 hj e
      rw [hv, e1] at hne
      simp only [Value.ownBlock, ne_eq, Option.some.injEq] at hne
      rw [e1] at e2
      have hbk := own_base e2
      rw [e1]
      exact own_fr (own_fr e2 hf fun q hq => One.not (by simp [Value.ownBlock] at hq; omega)) (Fr.set1 _ _ _ _) fun q hq => One.not (by simp [Value.ownBlock] at hq; omega)
  · have key : ∀ k, k < 4 → k ≠ j → some g' ≠ (v k).ownBlock := fun k hk4 e x => by
      obtain ⟨gk, ck, tk, e1, e2⟩ := h.rows k hk4
      have hne := h.sep k j hk4 hj e
      rw [e1] at e2
      have hbk := own_base e2
      rw [e1] at x hne
      rw [hv] at hne
      simp only [Value.ownBlock, ne_eq, Option.some.injEq] at hne x
      rcases hat with e | e
      · simp at e; omega
      · have := hW.size; omega
    by_cases e1 : k = j
    · rw [if_pos e1, if_neg (by omega)]
      exact key l h2 (by omega)
    · rw [if_neg e1]
      by_cases e2 : l = j
      · rw [if_pos e2]; exact fun x => key k h1 e1 x.symm
      · rw [if_neg e2]; exact h.sep k l h1 h2 h3
  · exact (h.fr.then hf fun i hi hx => by have : i = g := hx; omega).put (.inr (Nat.le_refl _)) _ _
/-- The rows, in any later world. -/
theorem Ends.read {w9 wr w' : World} {v : Nat → Value} (h : Ends w9 wr 4 v) (hf : Fr No wr w') {k t : Nat} (hk : k < 4) (ht : t < 128) :
    ∃ g cap, w'.cell? ⟨w9.heap.size, k, none⟩ = some (.slice (some ⟨g, 0, none⟩) 130 cap) ∧ w'.cell? ⟨g, t, none⟩ = some (.int .u8 (129 + (k : Int))) ∧ w9.heap.size < w'.heap.size ∧ g < w'.heap.size := by
  obtain ⟨cur, hc, hsz, hv⟩ := h.cur
  obtain ⟨g, cap, tl, e1, e2⟩ := h.rows k hk
  rw [if_pos hk] at e1 e2
  rw [e1] at e2
  have hb := own_base e2
  have hb' := hf.heap hc id
  refine ⟨g, cap, cell_blk hb' (by rw [hv k hk, e1]), ?_, lt_of_block hb', by have := hf.size; omega⟩
  have h8 : (UInt8.ofNat (129 + k)).toNat = 129 + k := by rw [UInt8.toNat_ofNat']; omega
  refine own_cell (own_fr e2 hf fun _ _ => id) (j := t) ?_
  rw [List.getElem?_append_left (by simp [mark]; omega), List.getElem?_map]
  unfold mark
  rw [List.getElem?_replicate, if_pos ht]
  simp only [Option.map_some, bv, h8]
  rfl
theorem Ends.after {w9 wr W w' : World} {j : Nat} {v : Nat → Value} (h : Ends w9 wr j v) (hj : j < 4) (hW : Fr No wr W) (hgrow : W.grownBy w' (v j).ownBlock) :
    w'.cell? ⟨w9.heap.size, j, none⟩ = some (v j) ∧ w'.frozen? ⟨w9.heap.size, j, none⟩ = false ∧ w9.heap.size < w'.heap.size := by
  obtain ⟨cur, hc, hsz, hk⟩ := h.cur
  obtain ⟨g, cap, hv, o⟩ := h.row hj
  rw [hv] at o
  have hb := own_base o
  have hf : Fr (One g) wr w' := Fr.grown (hW.mono fun _ _ h => h.elim) hgrow fun k hk => .inl (show k = g by rw [hv] at hk; simpa [Value.ownBlock] using hk.symm)
  have hb' := hf.heap hc (One.not (by omega))
  exact ⟨cell_blk hb' (hk j hj), free_blk hb' j, lt_of_block hb'⟩
theorem own_free {w : World} {base : Nat} {e : TypeId} {g n cap : Nat} {L : List Value} (h : w.ownsRow base e 1 (.slice (some ⟨g, 0, none⟩) n cap) n L) (j : Nat) : w.frozen? ⟨g, j, none⟩ = false := by
  rcases h.2 with ⟨h, _⟩ | ⟨g', cap', cur, h, _, hh, _⟩
  · cases h
  · simp only [Value.slice.injEq, Option.some.injEq, Addr.mk.injEq] at h
    obtain ⟨⟨rfl, _⟩, _, _⟩ := h
    exact free_blk hh j
theorem own_set0 {w : World} {base g cap : Nat} {y : Value} (v : Value) (h : w.ownsRow base 3 1 (.slice (some ⟨g, 0, none⟩) 1 cap) 1 [y]) : (w.setCell ⟨g, 0, none⟩ v).ownsRow base 3 1 (.slice (some ⟨g, 0, none⟩) 1 cap) 1 [v] := by
  rcases h.2 with ⟨h, _⟩ | ⟨g', cap', cur, h, hb, hh, hn, hm, hsz, hx⟩
  · cases h
  · simp only [Value.slice.injEq, Option.some.injEq, Addr.mk.injEq] at h
    obtain ⟨⟨rfl, _⟩, _, rfl⟩ := h
    refine ⟨rfl, .inr ⟨g, cap, cur.setIfInBounds 0 v, rfl, hb, heap_setCell_same _ _ _ _ _ _ hh, hn, hm, by simpa using hsz, ?_⟩⟩
    have h0 : 0 < cur.toList.length := by simp; omega
    rw [Array.toList_setIfInBounds]
    cases hc : cur.toList with
    | nil => rw [hc] at h0; simp at h0
    | cons a l => simp
theorem blk_LAt' {w : World} {g n : Nat} {X : List UInt8} (hg : w.heap[g]? = some (.cells (X.map bv).toArray 5 (0, 0))) (hX : X.length = n) : LAt w (.slice (some ⟨g, 0, none⟩) n n) (X.map bv) :=
  .inr ⟨⟨g, 0, none⟩, n, by rw [List.length_map, hX], by rw [List.length_map, hX]; exact Nat.le_refl _, fun _ => ⟨g, 0, rfl, SegAt.of_block hg fun j v hv => by simpa using hv⟩⟩
theorem set_blk {w : World} {g k : Nat} {X : List UInt8} (y : UInt8) (hg : w.heap[g]? = some (.cells (X.map bv).toArray 5 (0, 0))) : (w.setCell ⟨g, k, none⟩ (bv y)).heap[g]? = some (.cells ((X.set k y).map bv).toArray 5 (0, 0)) := by
  rw [heap_setCell_same _ _ _ _ _ _ hg]
  simp [List.map_set]
theorem of_first {X : List UInt8} {s : Nat} {y : UInt8} (hs : s < 1024) (h : X[s * 128]? = some y) : ((Dk.of X 1024).med s)[0]? = some y := by
  show (if s < 1024 ∧ s < 1024 then _ else _)[0]? = some y
  rw [if_pos ⟨hs, hs⟩, List.getElem?_take, if_pos (by omega), List.getElem?_drop]
  exact h

theorem append_marked {w : World} {ops : Array Oper} {rest : List Oper} {o : Oper} {a : Act} {Q : Exit → Act → World → Prop} (hgd : o.guard = none) (s x : Operand)
    (ho : o.op = .call { callee := .builtin .append, args := #[s, x], argTypes := #[45, 45] }) (base b cap : Nat) (y u : Value) (hs : a.eval s = .slice (some ⟨b, 0, none⟩) 1 cap) (hown : w.ownsRow base 3 1 (.slice (some ⟨b, 0, none⟩) 1 cap) 1 [y])
    (ad : Addr) (c : Nat) (hx : a.eval x = .slice (some ad) 1 c) (hc : w.cell? (ad.add 0) = some u) (hu : u.oneCell' = true)
    (h : ∀ g cap' w', w'.cell? ⟨g, 0, none⟩ = some y → w'.cell? ⟨b, 0, none⟩ = some y → Fr (One b) w w' → (g = b ∨ w.heap.size ≤ g) → g < w'.heap.size → wpList Try.prog ops Q rest (a.put o.dst (.slice (some ⟨g, 0, none⟩) 2 cap')) w') :
    wpList Try.prog ops Q (o :: rest) a w := by
  obtain ⟨i0, hi, hz0, hz1, hz2⟩ := info_parts Try.info3
  have hy := own_cell hown (j := 0) (v := y) rfl
  have hb := own_base hown
  refine wpList_append_arg w hgd s x 45 ho 3 i0 (.int .i64 0) 1 8 Try.underlying45 hi hz0 hz1 hz2 rfl (by omega) b 0 1 cap [y] hs rfl (fun j v hv => ?_) ad 1 c [u] hx rfl (fun j v hv => ?_) (fun v hv => ?_) (fun hr j hj => ?_) (by unfold maxLen; omega) (by omega) (fun hr => ?_) (fun hr v' w' h1 h2 => ?_)
  · match j, hv with
    | 0, hv => simp at hv; subst hv; exact hy
  · match j, hv with
    | 0, hv => simp at hv; subst hv; exact hc
  · simp at hv; subst hv; exact hu
  · rcases hown.2 with ⟨h', _⟩ | ⟨g', cap', cur, h', _, hh, hn, hm, hsz, _⟩
    · cases h'
    · simp only [Value.slice.injEq, Option.some.injEq, Addr.mk.injEq] at h'
      obtain ⟨⟨rfl, _⟩, _, rfl⟩ := h'
      have hj0 : j = 0 := by simp at hj; exact hj
      subst hj0
      refine ⟨?_, free_blk hh _⟩
      rw [cell_of_row w b _ cur 3 (0, 0) hh, Array.getElem?_eq_getElem (by omega)]
      rfl
  · have e : w.setCells b (0 + 1 * 1) [u] = w.setCell ⟨b, 1, none⟩ u := by rfl
    rw [e]
    refine h b cap _ ?_ ?_ (Fr.set1 _ _ _ _) (.inl rfl) (by simpa using hb.2.1)
    · rw [World.cell?_setCell_other]
      · exact hy
      · simp
    · rw [World.cell?_setCell_other]
      · exact hy
      · simp
  · obtain ⟨a', cap', rfl, h3⟩ := own_slice h1
    obtain ⟨g, rfl, h4, h5, h6⟩ := h3 (by omega)
    have hf : Fr No w w' := Fr.grown (Fr.refl _ _) h2 fun k hk => by cases hk
    exact h g cap' w' (own_cell h1 (j := 0) rfl) (by rw [hf.cell (p := ⟨b, 0, none⟩) hb.2.1 id]; exact hy) (hf.mono fun _ _ h => h.elim) (.inr h5) h6
end Go.Proofs.Ytppllhdocajfiaa
