/- R: the arguments of the Disk laws, read: scripts, writes. -/
import Derived.Test.YtppllhdocajfiaaL5
import Derived.Test.YtppllhdocajfiaaBulk
import Derived.Deep.Slices
import Derived.Lib.SmallJoins
set_option linter.unusedSimpArgs false
set_option linter.unusedVariables false
namespace Go.Proofs.Ytppllhdocajfiaa
open Go.RowKit Go.Deep Go.ChangeShapes

instance : Inhabited OpD := ⟨⟨0, false, 0, 0, .slice none 0 0, [], false, .slice none 0 0, []⟩⟩
instance : Inhabited PutD := ⟨⟨0, 0⟩⟩

section
variable {H : Type} {enc : TypeId × Value → H} {w : World} {base : Nat} {spare : Nat → Bool} {held : Bool}

theorem open_list {α : Type} [Inhabited α] {t e : TypeId} {fuel : Nat} {v : Value} {x : DataW H × List MemPlace} (f : α → List Value) (k : Nat) (Q : α → Prop) (hk : 0 < k) (hf : ∀ a, (f a).length = k)
    (ht : Try.prog.underlying t = some (.slice e)) (hc : Try.prog.cellsOf e = k) (h : DataW.trod enc Try.prog w base spare held fuel t [v] = some x)
    (each : ∀ n cs' y, DataW.trod enc Try.prog w base spare held n e cs' = some y → Rows.uptoBulk y.1 ≤ Rows.uptoBulk x.1 → cs'.length = k → ∃ a, cs' = f a ∧ Q a) :
    ∃ l : List α, l.length ≤ Rows.uptoBulk x.1 ∧ RAt w v l.length (l.flatMap f) ∧ ∀ a ∈ l, Q a := by
  rcases open_slice ht h with ⟨hcs, _⟩ | ⟨a, len, cap, m, n, D, Pl, hcs, _, hl, _, hm, rfl, hx⟩
  · obtain rfl : v = .slice none 0 0 := by simpa using hcs
    exact ⟨[], by simp, .inl ⟨rfl, rfl⟩, by simp⟩
  · obtain rfl : v = .slice (some a) len cap := by simpa using hcs
    have hm' : len ≤ m := by rw [hm]; split <;> omega
    rw [hc] at hx
    obtain ⟨A, hA⟩ := choose_lt (α := α) (p := fun i z => w.cells? base (a.add (i * k)) k = some (f z) ∧ Q z) (n := len) (fun i hi => by
      obtain ⟨cs', h1, h2⟩ := hx i (by omega)
      have hle : Rows.uptoBulk (D i) ≤ Rows.uptoBulk (DataW.slice ((List.range len).map D) ((List.range (m - len)).map fun j => D (len + j))) := by
        have := bulks.part_le (d := D i) (l := (List.range len).map D) (List.mem_map.2 ⟨i, List.mem_range.2 hi, rfl⟩)
        have := bulks.slice_elems ((List.range len).map D) ((List.range (m - len)).map fun j => D (len + j))
        omega
      obtain ⟨z, rfl, hq⟩ := each n cs' _ h2 hle (World.cells?_some h1).2.1
      exact ⟨z, h1, hq⟩)
    refine ⟨(List.range len).map A, ?_, ?_, ?_⟩
    · have := bulks.slice_le ((List.range len).map D) ((List.range (m - len)).map fun j => D (len + j))
      simp only [List.length_map, List.length_range] at this ⊢
      omega
    · rw [List.length_map, List.length_range]
      refine .inr ⟨a, cap, rfl, hl, fun h0 => ?_⟩
      obtain ⟨b, off, spot⟩ := a
      have c0 : ∀ i, i < len → ∀ j u, (f (A i))[j]? = some u → w.cell? ⟨b, off + i * k + j, spot⟩ = some u ∧ spot = none := fun i hi j u hu => by
        obtain ⟨_, hlen, hcell⟩ := World.cells?_some (hA i hi).1
        have hj : j < k := by have := (List.getElem?_eq_some_iff.1 hu).1; rw [hf] at this; exact this
        have h1 := (hcell j hj).trans hu
        have hs : spot = none := by
          obtain ⟨_, _, hcell0⟩ := World.cells?_some (hA 0 h0).1
          have h2 := hcell0 0 hk
          obtain ⟨u0, hu0⟩ : ∃ u0, (f (A 0))[0]? = some u0 := ⟨_, List.getElem?_eq_getElem (by rw [hf]; exact hk)⟩
          rw [hu0] at h2
          simpa [Addr.add] using World.cell?_spot h2
        subst hs
        have e : ((⟨b, off, none⟩ : Addr).add (i * k)).add j = ⟨b, off + i * k + j, none⟩ := by rw [addr_add, addr_add]
        rw [e] at h1
        exact ⟨h1, rfl⟩
      have hsp : spot = none := by
        obtain ⟨u0, hu0⟩ : ∃ u0, (f (A 0))[0]? = some u0 := ⟨_, List.getElem?_eq_getElem (by rw [hf]; exact hk)⟩
        exact (c0 0 h0 0 u0 hu0).2
      subst hsp
      refine ⟨b, off, rfl, fun j u hu => ?_⟩
      have hLlen : (((List.range len).map A).flatMap f).length = len * k := by
        have := flat_length f k ((List.range len).map A) (fun _ _ => hf _)
        rw [List.length_map, List.length_range] at this
        exact this
      have hj : j < len * k := by have := (List.getElem?_eq_some_iff.1 hu).1; rw [hLlen] at this; exact this
      have hi : j / k < len := Nat.div_lt_of_lt_mul (by rw [Nat.mul_comm]; exact hj)
      have hr : j % k < k := Nat.mod_lt _ hk
      have hjj : j / k * k + j % k = j := by rw [Nat.mul_comm]; exact Nat.div_add_mod j k
      have hg := flat_get f k ((List.range len).map A) (fun _ _ => hf _) (j / k) (j % k) (A (j / k)) (by simp [hi]) hr
      rw [hjj, hu] at hg
      have := (c0 (j / k) hi (j % k) u hg.symm).1
      rwa [Nat.add_assoc, hjj] at this
    · intro z hz
      obtain ⟨i, hi, rfl⟩ := List.mem_map.1 hz
      exact (hA i (List.mem_range.1 hi)).2

theorem flat_one {α : Type} (g : α → Value) (l : List α) : l.flatMap (fun a => [g a]) = l.map g := by
  induction l with
  | nil => rfl
  | cons a l ih => simp [List.flatMap_cons, ih]

theorem RAt.one {v : Value} {L : List Value} (h : RAt w v L.length L) : LAt w v L := by
  rcases h with ⟨rfl, h0⟩ | ⟨a, cap, rfl, hc, hs⟩
  · exact .inl ⟨rfl, List.eq_nil_of_length_eq_zero h0⟩
  · exact .inr ⟨a, cap, rfl, hc, hs⟩

theorem open_byte {n : Nat} {cs : List Value} {y : DataW H × List MemPlace} (h : DataW.trod enc Try.prog w base spare held n 5 cs = some y) : ∃ x : UInt8, cs = [bv x] := by
  obtain ⟨m, rfl, rfl, hw⟩ := DataW.trod_int Try.underlying5 h
  have hx : 0 ≤ m ∧ m ≤ 255 := by simpa [Lit.wf, IntKind.min, IntKind.max, IntKind.signed, IntKind.bits] using hw
  refine ⟨UInt8.ofNat m.toNat, ?_⟩
  unfold bv
  have h8 : (UInt8.ofNat m.toNat).toNat = m.toNat := by simp; omega
  rw [h8, Int.toNat_of_nonneg hx.1]

theorem open_bytes {fuel : Nat} {v : Value} {x : DataW H × List MemPlace} (h : DataW.trod enc Try.prog w base spare held fuel 34 [v] = some x) :
    ∃ l : List UInt8, l.length ≤ Rows.uptoBulk x.1 ∧ LAt w v (l.map bv) := by
  obtain ⟨l, h1, h2, _⟩ := open_list (α := UInt8) (fun z => [bv z]) 1 (fun _ => True) (by omega) (fun _ => rfl) Try.underlying34 (by kernel_rfl) h
    (fun n cs' y hy _ _ => by obtain ⟨z, rfl⟩ := open_byte hy; exact ⟨z, rfl, trivial⟩)
  rw [flat_one] at h2
  exact ⟨l, h1, RAt.one (by rw [List.length_map]; exact h2)⟩

theorem open_flags {fuel : Nat} {v : Value} {x : DataW H × List MemPlace} (h : DataW.trod enc Try.prog w base spare held fuel 41 [v] = some x) :
    ∃ l : List Bool, l.length ≤ Rows.uptoBulk x.1 ∧ LAt w v (l.map Value.bool) := by
  obtain ⟨l, h1, h2, _⟩ := open_list (α := Bool) (fun z => [Value.bool z]) 1 (fun _ => True) (by omega) (fun _ => rfl) Try.underlying41 (by kernel_rfl) h
    (fun n cs' y hy _ _ => by obtain ⟨z, rfl, _⟩ := DataW.trod_bool Try.underlying4 hy; exact ⟨z, rfl, trivial⟩)
  rw [flat_one] at h2
  exact ⟨l, h1, RAt.one (by rw [List.length_map]; exact h2)⟩

theorem wf64 {n : Int} (h : (Lit.int .i64 n).wf = true) : -9223372036854775808 ≤ n ∧ n ≤ 9223372036854775807 := by
  simpa [Lit.wf, IntKind.min, IntKind.max, IntKind.signed, IntKind.bits] using h

theorem open_puts {fuel : Nat} {v : Value} {x : DataW H × List MemPlace} (h : DataW.trod enc Try.prog w base spare held fuel 23 [v] = some x) :
    ∃ l : List PutD, l.length ≤ Rows.uptoBulk x.1 ∧ PutsAt w v l := by
  obtain ⟨l, h1, h2, _⟩ := open_list (α := PutD) putcells 2 (fun _ => True) (by omega) (fun _ => rfl) Try.underlying23 (by kernel_rfl) h
    (fun n cs' y hy _ hlen => by
      match cs', hlen with
      | [u0, u1], _ =>
        obtain ⟨y0, y1, m, _, _, g0, g1⟩ := ChangeShapes.trod_struct2 Try.underlying30 hy
        have c3 : Try.prog.cellsOf 3 = 1 := by kernel_rfl
        have c5 : Try.prog.cellsOf 5 = 1 := by kernel_rfl
        simp only [c3, c5, List.drop_zero, List.drop_succ_cons, List.take_succ_cons, List.take_zero] at g0 g1
        obtain ⟨z0, e0, _, _⟩ := DataW.trod_int Try.underlying3 g0
        obtain ⟨z1, e1⟩ := open_byte g1
        simp only [List.cons.injEq, and_true] at e0 e1
        subst e0; subst e1
        exact ⟨⟨z0, z1⟩, rfl, trivial⟩)
  exact ⟨l, h1, h2⟩

theorem trod_struct7 {P : Program} {t : TypeId} {f0 f1 f2 f3 f4 f5 f6 : Field} {fuel : Nat} {cs : List Value} {x : DataW H × List MemPlace} (ht : P.underlying t = some (.struct #[f0, f1, f2, f3, f4, f5, f6])) (h : DataW.trod enc P w base spare held fuel t cs = some x) :
    ∃ y0 y1 y2 y3 y4 y5 y6 n, x.1 = .agg [y0.1, y1.1, y2.1, y3.1, y4.1, y5.1, y6.1] ∧ DataW.trod enc P w base spare held n f0.type ((cs.drop f0.offset).take (P.cellsOf f0.type)) = some y0 ∧
      DataW.trod enc P w base spare held n f1.type ((cs.drop f1.offset).take (P.cellsOf f1.type)) = some y1 ∧ DataW.trod enc P w base spare held n f2.type ((cs.drop f2.offset).take (P.cellsOf f2.type)) = some y2 ∧
      DataW.trod enc P w base spare held n f3.type ((cs.drop f3.offset).take (P.cellsOf f3.type)) = some y3 ∧ DataW.trod enc P w base spare held n f4.type ((cs.drop f4.offset).take (P.cellsOf f4.type)) = some y4 ∧
      DataW.trod enc P w base spare held n f5.type ((cs.drop f5.offset).take (P.cellsOf f5.type)) = some y5 ∧ DataW.trod enc P w base spare held n f6.type ((cs.drop f6.offset).take (P.cellsOf f6.type)) = some y6 := by
  obtain ⟨xs, n, _, rfl, hl, hlen, hf⟩ := DataW.trod_struct ht h
  match xs, hlen with
  | [y0, y1, y2, y3, y4, y5, y6], _ => exact ⟨y0, y1, y2, y3, y4, y5, y6, n, by simp, by simpa using hf 0 f0 rfl, by simpa using hf 1 f1 rfl, by simpa using hf 2 f2 rfl, by simpa using hf 3 f3 rfl, by simpa using hf 4 f4 rfl, by simpa using hf 5 f5 rfl, by simpa using hf 6 f6 rfl⟩

theorem open_op {n : Nat} {u0 u1 u2 u3 u4 u5 u6 : Value} {y : DataW H × List MemPlace} (hy : DataW.trod enc Try.prog w base spare held n 86 [u0, u1, u2, u3, u4, u5, u6] = some y) (hb : Rows.uptoBulk y.1 ≤ 1048576) :
    ∃ o : OpD, [u0, u1, u2, u3, u4, u5, u6] = opcells o ∧ OpOk w o := by
  obtain ⟨y0, y1, y2, y3, y4, y5, y6, m, hx, g0, g1, g2, g3, g4, g5, g6⟩ := trod_struct7 Try.underlying86 hy
  rw [hx] at hb
  have c3 : Try.prog.cellsOf 3 = 1 := by kernel_rfl
  have c4 : Try.prog.cellsOf 4 = 1 := by kernel_rfl
  have c34 : Try.prog.cellsOf 34 = 1 := by kernel_rfl
  have c41 : Try.prog.cellsOf 41 = 1 := by kernel_rfl
  simp only [c3, c4, c34, c41, List.drop_zero, List.drop_succ_cons, List.take_succ_cons, List.take_zero] at g0 g1 g2 g3 g4 g5 g6
  obtain ⟨z0, e0, _, _⟩ := DataW.trod_int Try.underlying3 g0
  obtain ⟨z1, e1, _⟩ := DataW.trod_bool Try.underlying4 g1
  obtain ⟨z2, e2, _, _⟩ := DataW.trod_int Try.underlying3 g2
  obtain ⟨z3, e3, _, w3⟩ := DataW.trod_int Try.underlying3 g3
  obtain ⟨z5, e5, _⟩ := DataW.trod_bool Try.underlying4 g5
  obtain ⟨d, hd, hD⟩ := open_bytes g4
  obtain ⟨k, hk, hK⟩ := open_flags g6
  simp only [List.cons.injEq, and_true] at e0 e1 e2 e3 e5
  subst e0; subst e1; subst e2; subst e3; subst e5
  simp only [Rows.uptoBulk, Rows.uptoBulkAll] at hb
  have hd2 : d.length ≤ 2097152 := by omega
  have hk2 : k.length ≤ 2097152 := by omega
  exact ⟨⟨z0, z1, z2, z3, u4, d, z5, u6, k⟩, rfl, ⟨hD, hK, hd2, hk2, wf64 w3⟩⟩

theorem open_ops {fuel : Nat} {v : Value} {x : DataW H × List MemPlace} (h : DataW.trod enc Try.prog w base spare held fuel 22 [v] = some x) (hb : Rows.uptoBulk x.1 ≤ 1048576) :
    ∃ l : List OpD, l.length ≤ Rows.uptoBulk x.1 ∧ OpsAt w v l :=
  open_list (α := OpD) opcells 7 (OpOk w) (by omega) (fun _ => rfl) Try.underlying22 (by kernel_rfl) h
    (fun n cs' y hy hle hlen => by
      match cs', hlen with
      | [u0, u1, u2, u3, u4, u5, u6], _ => exact open_op hy (by omega))
end
end Go.Proofs.Ytppllhdocajfiaa
