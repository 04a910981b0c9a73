/- DiskStays: what its walk keeps. -/
import Derived.Test.YtppllhdocajfiaaH2
set_option linter.unusedSimpArgs false
set_option linter.unusedVariables false
namespace Go.Proofs.Ytppllhdocajfiaa
open Go.RowKit

/-! ### The plain part -/
theorem laidOn_all (s : Nat) : ∀ (l : List (Nat × List UInt8)) (i : Nat) (m : Nat → List UInt8), laidOn (fun _ => true) i l m s = lastOf s l (m s)
  | [], _, _ => rfl
  | p :: l, i, m => by
    rw [laidOn, lastOf, laidOn_all s l (i + 1)]
    simp only [if_true]
    congr 1
    by_cases h : s = p.1
    · rw [if_pos h, if_pos h.symm]
    · rw [if_neg h, if_neg fun e => h e.symm]
theorem laidOn_miss (kept : Nat → Bool) (s : Nat) : ∀ (l : List (Nat × List UInt8)) (i : Nat) (m : Nat → List UInt8), (∀ q ∈ l, q.1 ≠ s) → laidOn kept i l m s = m s
  | [], _, _, _ => rfl
  | p :: l, i, m, h => by
    rw [laidOn, laidOn_miss kept s l (i + 1) _ fun q hq => h q (by simp [hq])]
    by_cases hk : kept i
    · rw [if_pos hk, if_neg fun e => h p (by simp) e.symm]
    · rw [if_neg hk]

theorem made_list (z : Value) (n : Nat) : (madeCells #[z] n).toList = List.replicate n z := by
  apply List.ext_getElem <;> simp [madeCells, Nat.mod_one]

/-! ### Bools by a sector's number -/
def TakenAt (wr : World) (t : Nat) (T : Nat → Bool) : Prop := ∃ cur, wr.heap[t]? = some (.cells cur 4 (0, 0)) ∧ ∀ k, k < 1024 → cur[k]? = some (.bool (T k))
theorem TakenAt.lt {wr : World} {t : Nat} {T : Nat → Bool} (h : TakenAt wr t T) : t < wr.heap.size := by obtain ⟨_, h, _⟩ := h; exact lt_of_block h
theorem TakenAt.cell {wr : World} {t : Nat} {T : Nat → Bool} (h : TakenAt wr t T) {k : Nat} (hk : k < 1024) : wr.cell? ⟨t, k, none⟩ = some (.bool (T k)) := by obtain ⟨_, h1, h2⟩ := h; exact cell_blk h1 (h2 k hk)
theorem TakenAt.free {wr : World} {t : Nat} {T : Nat → Bool} (h : TakenAt wr t T) (k : Nat) : wr.frozen? ⟨t, k, none⟩ = false := by obtain ⟨_, h1, h2⟩ := h; exact free_blk h1 k
theorem TakenAt.fr {wr w' : World} {t : Nat} {T : Nat → Bool} {S : Nat → Prop} (h : TakenAt wr t T) (hf : Fr S wr w') (hS : ¬ S t) : TakenAt w' t T := by obtain ⟨cur, h1, h2⟩ := h; exact ⟨cur, hf.heap h1 hS, h2⟩
theorem TakenAt.set {wr : World} {t : Nat} {T : Nat → Bool} (h : TakenAt wr t T) (s : Nat) : TakenAt (wr.setCell ⟨t, s, none⟩ (.bool true)) t (fun k => if k = s then true else T k) := by
  obtain ⟨cur, h1, h2⟩ := h
  refine ⟨cur.setIfInBounds s (.bool true), heap_setCell_same wr t s cur 4 _ h1, fun k hk => ?_⟩
  have hb : k < cur.size := by have := (Array.getElem?_eq_some_iff.1 (h2 k hk)).1; exact this
  by_cases e : k = s
  · subst e
    rw [Array.getElem?_setIfInBounds_self_of_lt hb]; simp
  · rw [Array.getElem?_setIfInBounds_ne (fun h => e h.symm), h2 k hk]; simp [e]
theorem TakenAt.congr {wr : World} {t : Nat} {T T' : Nat → Bool} (h : TakenAt wr t T) (e : ∀ k, T' k = T k) : TakenAt wr t T' := by
  obtain rfl : T' = T := funext e
  exact h
theorem TakenAt.make {wr : World} {base t : Nat} (h : wr.ownsRow base 4 1 (.slice (some ⟨t, 0, none⟩) 1024 1024) 1024 (madeCells (Value.bool false).cells (1024 * 1)).toList) : TakenAt wr t (fun _ => false) := by
  rcases h.2 with ⟨h, _⟩ | ⟨g, cap, cur, h, _, hh, _, _, hs, hx⟩
  · cases h
  · simp only [Value.slice.injEq, Option.some.injEq, Addr.mk.injEq] at h
    obtain ⟨⟨rfl, _⟩, _, rfl⟩ := h
    refine ⟨cur, hh, fun k hk => ?_⟩
    have e : (cur.toList.take (1024 * 1))[k]? = (List.replicate 1024 (Value.bool false))[k]? := by
      rw [hx]
      exact congrArg (fun l => l[k]?) (made_list (.bool false) 1024)
    rw [List.getElem?_take_of_lt (by omega), List.getElem?_replicate, if_pos hk] at e
    simpa using e

/-! ### A disk, and what has turned since the world w5 -/
structure Since (w w5 wr : World) (c5 c : Nat) (D : Dk) : Prop where
  st : DSt w wr c D
  fr : Fr (Two w.heap.size c5) w5 wr
  cc : c = c5 ∨ c = w.heap.size ∨ w5.heap.size ≤ c
theorem Since.start {w wr : World} {c : Nat} {D : Dk} (h : DSt w wr c D) : Since w wr wr c c D := ⟨h, Fr.refl _ _, .inl rfl⟩
theorem Since.no {w w5 wr w' : World} {c5 c : Nat} {D : Dk} (h : Since w w5 wr c5 c D) (hf : Fr No wr w') : Since w w5 w' c5 c D :=
  ⟨h.st.no hf, h.fr.then hf fun _ _ h => False.elim h, h.cc⟩
theorem Since.op {w w5 wr w' : World} {c5 c c' : Nat} {D D' : Dk} (h : Since w w5 wr c5 c D) (hd : DiskAt w' w.heap.size c' D') (hc : c' = c ∨ c' = w.heap.size ∨ wr.heap.size ≤ c') (hf : Fr (Two w.heap.size c) wr w') : Since w w5 w' c5 c' D' := by
  have := h.fr.size
  have h3 := h.cc
  refine ⟨h.st.op hd hc hf, h.fr.then hf fun i hi hx => ?_, by omega⟩
  rcases hx with hx | hx
  · exact .inl hx
  · subst hx
    rcases h3 with h3 | h3 | h3
    · exact .inr h3
    · exact .inl h3
    · omega
theorem Since.op1 {w w5 wr w' : World} {c5 c c' : Nat} {D D' : Dk} (h : Since w w5 wr c5 c D) (hd : DiskAt w' w.heap.size c' D') (hc : c' = c ∨ c' = w.heap.size ∨ wr.heap.size ≤ c') (hf : Fr (One w.heap.size) wr w') : Since w w5 w' c5 c' D' := h.op hd hc hf.one_two
theorem Since.set {w w5 wr : World} {c5 c t : Nat} {D : Dk} (h : Since w w5 wr c5 c D) (h1 : w5.heap.size ≤ t) (h2 : t ≠ c) (hb : w.heap.size < w5.heap.size) (o : Nat) (u : Value) : Since w w5 (wr.setCell ⟨t, o, none⟩ u) c5 c D := by
  refine ⟨⟨h.st.disk.keep (Fr.set1 wr t o u) (One.not (by omega)) (One.not (Ne.symm h2)), h.st.own, h.st.fr.put (.inr (by omega)) o u⟩, h.fr.put (.inr h1) o u, h.cc⟩
theorem Since.rows {w w5 wr : World} {c5 c : Nat} {D : Dk} (h : Since w w5 wr c5 c D) {v : Value} {Xs : List (List UInt8)} (hr : RowsK w w5 c5 v Xs) : RowsK w wr c v Xs := hr.step h.fr h.cc

/-- A disk that takes writes beside the taken sectors. -/
structure Away (D D2 : Dk) (T : Nat → Bool) (j : Nat) : Prop where
  down : D.down = false
  armed : D.armed = false
  acts : D.acts ≤ D2.acts + j
  len : D.cache.length ≤ j
  off : ∀ q ∈ D.cache, T q.1 = false
  med : D.med = D2.med
theorem Away.later {D D2 : Dk} {T : Nat → Bool} {j : Nat} (h : Away D D2 T j) : Away D D2 T (j + 1) := ⟨h.down, h.armed, by have := h.acts; omega, by have := h.len; omega, h.off, h.med⟩
theorem Away.write {D D2 : Dk} {T : Nat → Bool} {j : Nat} (h : Away D D2 T j) (s : Nat) (X : List UInt8) (hT : T s = false) : Away { D with cache := D.cache ++ [(s, X)], acts := D.acts + 1 } D2 T (j + 1) :=
  ⟨h.down, h.armed, by have := h.acts; simp only; omega, by have := h.len; simp; omega, fun q hq => by
    rcases List.mem_append.1 hq with hq | hq
    · exact h.off q hq
    · simp at hq; subst hq; exact hT, h.med⟩
theorem Away.crash {D D2 : Dk} {T : Nat → Bool} {j : Nat} (h : Away D D2 T j) (K : List Bool) (s : Nat) (hs : T s = true) : (D.crash K).med s = D2.med s := by
  show laidOn (fun i => K.getD i false) 0 D.cache D.med s = _
  rw [laidOn_miss _ _ _ _ _ fun q hq e => ?_, h.med]
  have := h.off q hq
  rw [e, hs] at this
  cases this
theorem u8_wrap (j : Nat) : IntKind.u8.wrap (j : Int) = ((UInt8.ofNat j).toNat : Int) := by
  simp [IntKind.wrap, IntKind.signed, IntKind.bits]
theorem info4 : (Try.prog.info? 4).map (fun i => (i.zero, i.size, i.bytes)) = some (some (.bool false), 1, 1) := Try.info4
end Go.Proofs.Ytppllhdocajfiaa
