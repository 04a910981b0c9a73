/- R: arguments, read. -/
import Derived.Test.YtdogpkcalflhbaaRows
import Derived.Test.YtdogpkcalflhbaaB
import Derived.Deep.Slices
import Derived.Lib.SmallJoins
set_option linter.unusedSimpArgs false
set_option linter.unusedVariables false
namespace Go.Proofs.Ytdogpkcalflhbaa
open Go.RowKit Go.Deep Go.ChangeShapes
section
variable {H : Type} {enc : TypeId × Value → H} {w : World} {base : Nat} {spare : Nat → Bool} {held : Bool}
theorem open_list {α : Type} [Inhabited α] {t e : TypeId} {fuel : Nat} {v : Value} {x : DataW H × List MemPlace} (f : α → List Value) (k : Nat) (Q : α → Prop) (hk : 0 < k) (hf : ∀ a, (f a).length = k)
    (ht : Try.prog.underlying t = some (.slice e)) (hc : Try.prog.cellsOf e = k) (h : DataW.trod enc Try.prog w base spare held fuel t [v] = some x)
    (each : ∀ n cs' y, DataW.trod enc Try.prog w base spare held n e cs' = some y → cs'.length = k → ∃ a, cs' = f a ∧ Q a) :
    ∃ l : List α, l.length ≤ maxLen ∧ RAt w v l.length (l.flatMap f) ∧ ∀ a ∈ l, Q a := by
  rcases open_slice ht h with ⟨hcs, _⟩ | ⟨a, len, cap, m, n, D, Pl, hcs, _, hl, hmx, hm, rfl, hx⟩
  · obtain rfl : v = .slice none 0 0 := by simpa using hcs
    exact ⟨[], by unfold maxLen; simp, .inl ⟨rfl, rfl⟩, by simp⟩
  · obtain rfl : v = .slice (some a) len cap := by simpa using hcs
    have hm' : len ≤ m := by rw [hm]; split <;> omega
    rw [hc] at hx
    obtain ⟨A, hA⟩ := choose_lt (α := α) (p := fun i z => w.cells? base (a.add (i * k)) k = some (f z) ∧ Q z) (n := len) (fun i hi => by
      obtain ⟨cs', h1, h2⟩ := hx i (by omega)
      obtain ⟨z, rfl, hq⟩ := each n cs' _ h2 (World.cells?_some h1).2.1
      exact ⟨z, h1, hq⟩)
    refine ⟨(List.range len).map A, ?_, ?_, ?_⟩
    · simp only [List.length_map, List.length_range]
      omega
    · rw [List.length_map, List.length_range]
      refine .inr ⟨a, cap, rfl, hl, fun h0 => ?_⟩
      obtain ⟨b, off, spot⟩ := a
      have c0 : ∀ i, i < len → ∀ j u, (f (A i))[j]? = some u → w.cell? ⟨b, off + i * k + j, spot⟩ = some u ∧ spot = none := fun i hi j u hu => by
        obtain ⟨_, hlen, hcell⟩ := World.cells?_some (hA i hi).1
        have hj : j < k := by have := (List.getElem?_eq_some_iff.1 hu).1; rw [hf] at this; exact this
        have h1 := (hcell j hj).trans hu
        have hs : spot = none := by
          obtain ⟨_, _, hcell0⟩ := World.cells?_some (hA 0 h0).1
          have h2 := hcell0 0 hk
          obtain ⟨u0, hu0⟩ : ∃ u0, (f (A 0))[0]? = some u0 := ⟨_, List.getElem?_eq_getElem (by rw [hf]; exact hk)⟩
          rw [hu0] at h2
          simpa [Addr.add] using World.cell?_spot h2
        subst hs
        have e : ((⟨b, off, none⟩ : Addr).add (i * k)).add j = ⟨b, off + i * k + j, none⟩ := by rw [addr_add, addr_add]
        rw [e] at h1
        exact ⟨h1, rfl⟩
      have hsp : spot = none := by
        obtain ⟨u0, hu0⟩ : ∃ u0, (f (A 0))[0]? = some u0 := ⟨_, List.getElem?_eq_getElem (by rw [hf]; exact hk)⟩
        exact (c0 0 h0 0 u0 hu0).2
      subst hsp
      refine ⟨b, off, rfl, fun j u hu => ?_⟩
      have hLlen : (((List.range len).map A).flatMap f).length = len * k := by
        have := flat_length f k ((List.range len).map A) (fun _ _ => hf _)
        rw [List.length_map, List.length_range] at this
        exact this
      have hj : j < len * k := by have := (List.getElem?_eq_some_iff.1 hu).1; rw [hLlen] at this; exact this
      have hi : j / k < len := Nat.div_lt_of_lt_mul (by rw [Nat.mul_comm]; exact hj)
      have hr : j % k < k := Nat.mod_lt _ hk
      have hjj : j / k * k + j % k = j := by rw [Nat.mul_comm]; exact Nat.div_add_mod j k
      have hg := flat_get f k ((List.range len).map A) (fun _ _ => hf _) (j / k) (j % k) (A (j / k)) (by simp [hi]) hr
      rw [hjj, hu] at hg
      have := (c0 (j / k) hi (j % k) u hg.symm).1
      rwa [Nat.add_assoc, hjj] at this
    · intro z hz
      obtain ⟨i, hi, rfl⟩ := List.mem_map.1 hz
      exact (hA i (List.mem_range.1 hi)).2

theorem flat_one {α : Type} (g : α → Value) (l : List α) : l.flatMap (fun a => [g a]) = l.map g := by
  induction l with
  | nil => rfl
  | cons a l ih => simp [List.flatMap_cons, ih]

theorem RAt.one {v : Value} {L : List Value} (h : RAt w v L.length L) : LAt w v L := by
  rcases h with ⟨rfl, h0⟩ | ⟨a, cap, rfl, hc, hs⟩
  · exact .inl ⟨rfl, List.eq_nil_of_length_eq_zero h0⟩
  · exact .inr ⟨a, cap, rfl, hc, hs⟩

theorem open_ints {fuel : Nat} {v : Value} {x : DataW H × List MemPlace} (h : DataW.trod enc Try.prog w base spare held fuel 22 [v] = some x) :
    ∃ l : List Int, l.length ≤ maxLen ∧ LAt w v (l.map fun x => .int .i64 x) := by
  obtain ⟨l, h1, h2, _⟩ := open_list (α := Int) (fun z => [Value.int .i64 z]) 1 (fun _ => True) (by omega) (fun _ => rfl) Try.underlying22 (by kernel_rfl) h
    (fun n cs' y hy _ => by obtain ⟨z, rfl, _⟩ := DataW.trod_int Try.underlying3 hy; exact ⟨z, rfl, trivial⟩)
  rw [flat_one] at h2
  exact ⟨l, h1, RAt.one (by rw [List.length_map]; exact h2)⟩
end
end Go.Proofs.Ytdogpkcalflhbaa
