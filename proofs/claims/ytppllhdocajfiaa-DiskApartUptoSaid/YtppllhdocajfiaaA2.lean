/- DiskArmed: the walk. -/
import Derived.Test.YtppllhdocajfiaaA1
set_option linter.unusedSimpArgs false
set_option linter.unusedVariables false
namespace Go.Proofs.Ytppllhdocajfiaa
open Go.RowKit

/-- An armed disk behind j tried acts of which k are allowed. -/
structure ArmSt (D : Dk) (k : Nat) (A : Int) (j : Nat) : Prop where
  armed : D.armed = true
  cache : D.cache.length ≤ j
  up : j ≤ k → D.down = false ∧ D.left = (k : Int) - j ∧ D.acts = A + j
  over : k < j → D.down = true ∧ D.acts = A + k

theorem ArmSt.yes {D : Dk} {k j : Nat} {A : Int} (h : ArmSt D k A j) (hj : j < k) : D.act = ({ D with left := D.left - 1, acts := D.acts + 1 }, true) := by
  obtain ⟨h1, h2, h3⟩ := h.up (by omega)
  have h0 : ¬ D.left = 0 := by omega
  simp [Dk.act, h.armed, h1, h0]
theorem ArmSt.no {D : Dk} {k j : Nat} {A : Int} (h : ArmSt D k A j) (hj : k ≤ j) : D.act = ({ D with down := true }, false) := by
  by_cases e : j = k
  · obtain ⟨h1, h2, h3⟩ := h.up (by omega)
    have h0 : D.left = 0 := by omega
    simp [Dk.act, h.armed, h1, h0]
  · obtain ⟨h1, h2⟩ := h.over (by omega)
    simp [Dk.act, h1]
    cases D; simp_all
theorem ArmSt.write_yes {D : Dk} {k j : Nat} {A : Int} (h : ArmSt D k A j) (hj : j < k) (s : Nat) (X : List UInt8) : ∃ D', D.write s X = (D', 0) ∧ ArmSt D' k A (j + 1) := by
  refine ⟨{ D with cache := D.cache ++ [(s, X)], left := D.left - 1, acts := D.acts + 1 }, by rw [Dk.write, h.yes hj]; rfl, ⟨h.armed, by simp; exact h.cache, fun _ => ?_, fun _ => by omega⟩⟩
  obtain ⟨h1, h2, h3⟩ := h.up (by omega)
  exact ⟨h1, by simp only; omega, by simp only; omega⟩
theorem ArmSt.flush_yes {D : Dk} {k j : Nat} {A : Int} (h : ArmSt D k A j) (hj : j < k) : ∃ D', D.flush = (D', 0) ∧ ArmSt D' k A (j + 1) := by
  refine ⟨({ D with left := D.left - 1, acts := D.acts + 1 } : Dk).drain (fun _ => true), by rw [Dk.flush, h.yes hj]; rfl, ⟨h.armed, by simp [Dk.drain], fun _ => ?_, fun _ => by omega⟩⟩
  obtain ⟨h1, h2, h3⟩ := h.up (by omega)
  exact ⟨h1, by simp only [Dk.drain]; omega, by simp only [Dk.drain]; omega⟩
theorem ArmSt.over' {D : Dk} {k j : Nat} {A : Int} (h : ArmSt D k A j) (hj : k ≤ j) : ArmSt { D with down := true } k A (j + 1) := by
  refine ⟨h.armed, by have := h.cache; simp only; omega, fun _ => by omega, fun _ => ⟨rfl, ?_⟩⟩
  by_cases e : j = k
  · obtain ⟨h1, h2, h3⟩ := h.up (by omega)
    simp only; omega
  · exact (h.over (by omega)).2
theorem ArmSt.write_no {D : Dk} {k j : Nat} {A : Int} (h : ArmSt D k A j) (hj : k ≤ j) (s : Nat) (X : List UInt8) : ∃ D', D.write s X = (D', 42) ∧ ArmSt D' k A (j + 1) :=
  ⟨{ D with down := true }, by rw [Dk.write, h.no hj]; rfl, h.over' hj⟩
theorem ArmSt.flush_no {D : Dk} {k j : Nat} {A : Int} (h : ArmSt D k A j) (hj : k ≤ j) : ∃ D', D.flush = (D', 42) ∧ ArmSt D' k A (j + 1) :=
  ⟨{ D with down := true }, by rw [Dk.flush, h.no hj]; rfl, h.over' hj⟩

theorem flush_up {D : Dk} (hd : D.down = false) (hm : D.armed = false) : D.flush = (({ D with acts := D.acts + 1 } : Dk).drain (fun _ => true), 0) := by
  simp [Dk.flush, Dk.act, hd, hm]
theorem DSt.two {w wr w' : World} {c : Nat} {D : Dk} (h : DSt w wr c D) (hf : Fr (Two w.heap.size c) wr w') : Fr No w w' := by
  have h2 := h.own
  exact h.fr.then hf fun i hi hx => by rcases hx with hx | hx <;> omega
theorem PutsAt.no {w w' : World} {v : Value} {l : List PutD} (h : PutsAt w v l) (hf : Fr No w w') : PutsAt w' v l :=
  h.keep (fun h0 => by rw [flat_length putcells 2 l (fun _ _ => rfl)]; omega) fun g hg _ => hf.block g hg id
theorem PutsAt.get' {w : World} {a : Option Addr} {n cap : Nat} {l : List PutD} (h : PutsAt w (.slice a n cap) l) {i : Nat} {p : PutD} (hp : l[i]? = some p) : ∃ g o, a = some ⟨g, o, none⟩ ∧ g < w.heap.size ∧ ∀ w', Fr No w w' →
    w'.cell? ⟨g, o + i * 2, none⟩ = some (.int .i64 p.sector) ∧ w'.cell? ⟨g, o + i * 2 + 1, none⟩ = some (.int .u8 (p.byte.toNat : Int)) := by
  obtain ⟨g, o, cap', e, _, q0, q1⟩ := h.get hp
  simp only [Value.slice.injEq] at e
  obtain ⟨rfl, _, _⟩ := e
  have hg := World.block_lt_of_cell? w _ q0
  exact ⟨g, o, rfl, hg, fun w' hf => ⟨by rw [hf.cell (p := ⟨g, o + i * 2, none⟩) hg id]; exact q0, by rw [hf.cell (p := ⟨g, o + i * 2 + 1, none⟩) hg id]; exact q1⟩⟩

end Go.Proofs.Ytppllhdocajfiaa
