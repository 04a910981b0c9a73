/- DiskApart: a slice of four sectors. -/
import Derived.Test.YtppllhdocajfiaaF0
set_option linter.unusedSimpArgs false
set_option linter.unusedVariables false
namespace Go.Proofs.Ytppllhdocajfiaa
open Go.RowKit

structure Four (w9 wr : World) (Xs : List (List UInt8)) (gs : List Nat) : Prop where
  cur : ∃ cur, wr.heap[w9.heap.size]? = some (.cells cur 34 (0, 0)) ∧ cur.size = 4 ∧ ∀ (k : Nat) g, gs[k]? = some g → cur[k]? = some (.slice (some ⟨g, 0, none⟩) 128 128)
  len : gs.length = Xs.length
  rows : ∀ (k : Nat) g X, gs[k]? = some g → Xs[k]? = some X → X.length = 128 ∧ wr.heap[g]? = some (.cells (X.map bv).toArray 5 (0, 0))
  nodup : gs.Nodup
  new : ∀ g ∈ gs, w9.heap.size < g
  fr : Fr No w9 wr
theorem Four.push {w9 wr w1 : World} {Xs : List (List UInt8)} {gs : List Nat} {g : Nat} {X : List UInt8} (h : Four w9 wr Xs gs) (h4 : gs.length < 4) (hf : Fr No wr w1) (hg : wr.heap.size ≤ g) (hX : X.length = 128) (hh : w1.heap[g]? = some (.cells (X.map bv).toArray 5 (0, 0))) :
    Four w9 (w1.setCell ⟨w9.heap.size, gs.length, none⟩ (.slice (some ⟨g, 0, none⟩) 128 128)) (Xs ++ [X]) (gs ++ [g]) := by
  obtain ⟨cur, hc, hsz, hk⟩ := h.cur
  have ht := lt_of_block hc
  have hold : ∀ (k g' : Nat) (Y : List UInt8), gs[k]? = some g' → Xs[k]? = some Y → g' < wr.heap.size := fun k g' Y h1 h2 => lt_of_block (h.rows k g' Y h1 h2).2
  have hall : ∀ g' ∈ gs, g' < wr.heap.size := fun g' hg' => by
    obtain ⟨k, hk'⟩ := List.getElem?_of_mem hg'
    have hkl := (List.getElem?_eq_some_iff.1 hk').1
    exact hold k g' _ hk' (List.getElem?_eq_getElem (by rw [← h.len]; exact hkl))
  refine ⟨⟨cur.setIfInBounds gs.length _, heap_setCell_same _ _ _ _ _ _ (hf.heap hc id), by simpa using hsz, fun k g' hk' => ?_⟩, by simp [h.len], fun k g' Y hk' hY => ?_, ?_, fun g' hg' => ?_, (h.fr.trans hf).put (.inr (Nat.le_refl _)) _ _⟩
  · by_cases e : k < gs.length
    · rw [List.getElem?_append_left e] at hk'
      rw [Array.getElem?_setIfInBounds_ne (by omega)]
      exact hk k g' hk'
    · have e2 : k = gs.length := by have := (List.getElem?_eq_some_iff.1 hk').1; simp at this; omega
      subst e2
      have : g = g' := by simpa using hk'
      subst this
      rw [Array.getElem?_setIfInBounds_self_of_lt (by omega)]
  · have key : ∀ (q : Nat) (cs : Array Value), q ≠ w9.heap.size → w1.heap[q]? = some (.cells cs 5 (0, 0)) → (w1.setCell ⟨w9.heap.size, gs.length, none⟩ (.slice (some ⟨g, 0, none⟩) 128 128)).heap[q]? = some (.cells cs 5 (0, 0)) := fun q cs hq h1 => (Fr.set1 w1 w9.heap.size gs.length _).heap h1 (One.not hq)
    by_cases e : k < gs.length
    · rw [List.getElem?_append_left e] at hk'
      rw [List.getElem?_append_left (by rw [← h.len]; exact e)] at hY
      obtain ⟨h1, h2⟩ := h.rows k g' Y hk' hY
      exact ⟨h1, key _ _ (by have := h.new g' (List.mem_of_getElem? hk'); omega) (hf.heap h2 id)⟩
    · have e2 : k = gs.length := by have := (List.getElem?_eq_some_iff.1 hk').1; simp at this; omega
      subst e2
      have e3 : g = g' := by simpa using hk'
      have e4 : X = Y := by rw [h.len] at hY; simpa using hY
      subst e3; subst e4
      exact ⟨hX, key _ _ (by omega) hh⟩
  · rw [List.nodup_append]
    refine ⟨h.nodup, by simp, fun a ha b hb e => ?_⟩
    simp at hb
    have := hall a ha
    omega
  · rcases List.mem_append.1 hg' with h1 | h1
    · exact h.new g' h1
    · simp at h1; omega
theorem Four.no {w9 wr w' : World} {Xs : List (List UInt8)} {gs : List Nat} (h : Four w9 wr Xs gs) (hf : Fr No wr w') : Four w9 w' Xs gs := by
  obtain ⟨cur, hc, hsz, hk⟩ := h.cur
  exact ⟨⟨cur, hf.heap hc id, hsz, hk⟩, h.len, fun k g X h1 h2 => ⟨(h.rows k g X h1 h2).1, hf.heap (h.rows k g X h1 h2).2 id⟩, h.nodup, h.new, h.fr.trans hf⟩
def mark (q : Nat) : List UInt8 := List.replicate 128 (UInt8.ofNat (129 + q))

/-- A byte of row k is written. -/
theorem Four.write {w9 wr : World} {Xs : List (List UInt8)} {gs : List Nat} {k i g : Nat} {X : List UInt8} {y : UInt8} (h : Four w9 wr Xs gs) (hg : gs[k]? = some g) (hX : Xs[k]? = some X) :
    Four w9 (wr.setCell ⟨g, i, none⟩ (bv y)) (Xs.set k (X.set i y)) gs := by
  obtain ⟨cur, hc, hsz, hk⟩ := h.cur
  have hgm := List.mem_of_getElem? hg
  have hgn := h.new g hgm
  have hr := h.rows k g X hg hX
  refine ⟨⟨cur, (Fr.set1 wr g i _).heap hc (One.not (by omega)), hsz, hk⟩, by rw [List.length_set]; exact h.len, fun q g' Y hq hY => ?_, h.nodup, h.new, h.fr.put (.inr (by omega)) _ _⟩
  by_cases e : q = k
  · subst e
    have e1 : g = g' := by rw [hg] at hq; simpa using hq
    subst e1
    have hql : q < Xs.length := (List.getElem?_eq_some_iff.1 hX).1
    have e2 : X.set i y = Y := by rw [List.getElem?_set_self hql] at hY; simpa using hY
    subst e2
    refine ⟨by rw [List.length_set]; exact hr.1, ?_⟩
    rw [heap_setCell_same _ _ _ _ _ _ hr.2]
    simp [List.map_set, bv]
  · rw [List.getElem?_set_ne (fun e2 => e e2.symm)] at hY
    have h2 := h.rows q g' Y hq hY
    refine ⟨h2.1, (Fr.set1 wr g i _).heap h2.2 (One.not fun e2 => ?_)⟩
    have h3 := (List.getElem?_eq_some_iff.1 hq)
    have h4 := (List.getElem?_eq_some_iff.1 hg)
    have hp := List.pairwise_iff_getElem.1 h.nodup
    obtain ⟨l3, v3⟩ := h3
    obtain ⟨l4, v4⟩ := h4
    rcases Nat.lt_or_gt_of_ne e with hlt | hlt
    · exact hp q k l3 l4 hlt (by rw [v3, v4]; exact e2)
    · exact hp k q l4 l3 hlt (by rw [v3, v4]; exact e2.symm)
end Go.Proofs.Ytppllhdocajfiaa
