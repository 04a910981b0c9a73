/- DiskLeaves: the plain part. -/
import Derived.Test.YtppllhdocajfiaaH4
set_option linter.unusedSimpArgs false
set_option linter.unusedVariables false
namespace Go.Proofs.Ytppllhdocajfiaa
open Go.RowKit

theorem laidOn_snoc (kept : Nat → Bool) (q : Nat × List UInt8) : ∀ (l : List (Nat × List UInt8)) (i : Nat) (m : Nat → List UInt8) (s : Nat),
    laidOn kept i (l ++ [q]) m s = if kept (i + l.length) && (q.1 == s) then q.2 else laidOn kept i l m s
  | [], i, m, s => by
    simp only [List.nil_append, laidOn, List.length_nil, Nat.add_zero]
    cases kept i
    · simp
    · by_cases h : s = q.1
      · subst h; simp
      · simp [h]; exact fun e => absurd e.symm h
  | p :: l, i, m, s => by
    rw [List.cons_append, laidOn, laidOn_snoc kept q l (i + 1), laidOn, List.length_cons, show i + (l.length + 1) = i + 1 + l.length by omega]

/-- What a put's list leaves at sector s, of the first j puts. -/
def leftAt (l : List PutD) (K : List Bool) (m : List UInt8) (s j : Nat) : List UInt8 :=
  match lastK l K s j with
  | none => m
  | some k => match l[k]? with
    | some p => List.replicate 128 p.byte
    | none => m
theorem laidOn_left (l : List PutD) (K : List Bool) (med : Nat → List UInt8) (s : Nat) : ∀ j, j ≤ l.length →
    laidOn (fun i => K.getD i false) 0 ((l.take j).map PutD.pend) med s = leftAt l K (med s) s j
  | 0, _ => rfl
  | j + 1, h => by
    obtain ⟨p, hp⟩ : ∃ p, l[j]? = some p := ⟨_, List.getElem?_eq_getElem (by omega)⟩
    rw [List.take_add_one, hp]
    simp only [Option.toList_some, List.map_append, List.map_cons, List.map_nil]
    rw [laidOn_snoc, laidOn_left l K med s j (by omega)]
    have e : ((l.take j).map PutD.pend).length = j := by simp; omega
    unfold leftAt
    rw [lastK, e, hp, Nat.zero_add]
    by_cases hc : (K.getD j false && (p.pend.1 == s)) = true
    · rw [if_pos hc, if_pos (by simpa [PutD.pend] using hc)]
      simp [hp, PutD.pend]
    · rw [if_neg hc, if_neg (by simpa [PutD.pend] using hc)]
theorem leftAt_none {l : List PutD} {K : List Bool} {m : List UInt8} {s j : Nat} (h : lastK l K s j = none) : leftAt l K m s j = m := by unfold leftAt; rw [h]
theorem leftAt_some {l : List PutD} {K : List Bool} {m : List UInt8} {s j k : Nat} {p : PutD} (h : lastK l K s j = some k) (hp : l[k]? = some p) : leftAt l K m s j = List.replicate 128 p.byte := by unfold leftAt; rw [h]; simp only [hp]

theorem lastK_mem (l : List PutD) (K : List Bool) (s : Nat) : ∀ j k, lastK l K s j = some k → (l.any fun p => pl p.sector == s) = true
  | 0, k, h => by cases h
  | j + 1, k, h => by
    rw [lastK] at h
    split at h
    · rename_i hc
      simp only [Bool.and_eq_true, beq_iff_eq] at hc
      obtain ⟨p, hp, e⟩ := Option.map_eq_some_iff.1 hc.2
      exact List.any_eq_true.2 ⟨p, List.mem_of_getElem? hp, by simpa using e⟩
    · exact lastK_mem l K s j k h
theorem keptOf_drop (kept : Nat → Bool) (l : List PutD) {j : Nat} {p : PutD} (hp : l[j]? = some p) : keptOf kept j ((l.drop j).map PutD.pend) = (if kept j then 1 else 0) + keptOf kept (j + 1) ((l.drop (j + 1)).map PutD.pend) := by
  have hj := (List.getElem?_eq_some_iff.1 hp).1
  rw [List.drop_eq_getElem_cons hj, List.map_cons, keptOf]
theorem keptOf_le (kept : Nat → Bool) : ∀ (l : List (Nat × List UInt8)) (i : Nat), keptOf kept i l ≤ l.length
  | [], _ => Nat.le_refl _
  | p :: l, i => by
    have := keptOf_le kept l (i + 1)
    rw [keptOf, List.length_cons]
    split <;> omega

/-- A list of puts in a block that no disk holds. -/
def PutsK (w wr : World) (c : Nat) (v : Value) (l : List PutD) : Prop := PutsAt wr v l ∧ ∀ g, v.ownBlock = some g → g < wr.heap.size ∧ g ≠ w.heap.size ∧ g ≠ c
theorem PutsK.step {w wr w' : World} {c c' : Nat} {v : Value} {l : List PutD} (h : PutsK w wr c v l) (hf : Fr (Two w.heap.size c) wr w') (hc : c' = c ∨ c' = w.heap.size ∨ wr.heap.size ≤ c') : PutsK w w' c' v l := by
  refine ⟨h.1.keep (fun h0 => ?_) fun g _ hg => hf.block g (h.2 g hg).1 (Two.not (h.2 g hg).2.1 (h.2 g hg).2.2), fun g hg => ?_⟩
  · rw [flat_length putcells 2 l (fun _ _ => rfl)]; omega
  · have := h.2 g hg; have := hf.size; omega
theorem PutsK.of_own {w w0 wr : World} {c n : Nat} {v : Value} {l : List PutD} (h : wr.ownsRow w0.heap.size 30 2 v n (l.flatMap putcells)) (hb : w.heap.size < w0.heap.size) (hc : c < w0.heap.size) : PutsK w wr c v l ∧ n = l.length := by
  have hn : n = l.length := by have := h.1; rw [flat_length putcells 2 l (fun _ _ => rfl)] at this; omega
  subst hn
  rcases h.2 with ⟨rfl, h0⟩ | ⟨g, cap, cur, rfl, hg, hh, hn, hm, hs, hx⟩
  · exact ⟨⟨.inl ⟨rfl, by have := h.1; rw [h0] at this; simp at this; omega⟩, by simp [Value.ownBlock]⟩, rfl⟩
  · refine ⟨⟨.inr ⟨⟨g, 0, none⟩, cap, rfl, hn, fun _ => ⟨g, 0, rfl, SegAt.of_block hh fun j v hv => ?_⟩⟩, fun g' hg' => ?_⟩, rfl⟩
    · rw [← hx, List.getElem?_take] at hv
      split at hv
      · simpa using hv
      · cases hv
    · obtain rfl : g = g' := by simpa [Value.ownBlock] using hg'
      exact ⟨lt_of_block hh, by omega, by omega⟩
theorem Since.puts {w w5 wr : World} {c5 c : Nat} {D : Dk} (h : Since w w5 wr c5 c D) {v : Value} {l : List PutD} (hr : PutsK w w5 c5 v l) : PutsK w wr c v l := hr.step h.fr h.cc
end Go.Proofs.Ytppllhdocajfiaa
