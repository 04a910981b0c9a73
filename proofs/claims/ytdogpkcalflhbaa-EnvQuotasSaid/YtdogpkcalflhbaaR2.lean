/- R2: a script of steps, read. -/
import Derived.Test.YtdogpkcalflhbaaR
import Derived.Test.YtdogpkcalflhbaaC22
import Derived.OpenShut
set_option linter.unusedSimpArgs false
set_option linter.unusedVariables false
namespace Go.Proofs.Ytdogpkcalflhbaa
open Go.RowKit Go.Deep Go.ChangeShapes
instance : Inhabited OpE := ⟨⟨0, 0, 0, 0, 0, ⟨0, 0, 0⟩, ⟨0, 0, 0, 0, 0, 0, 0, 0, 0⟩, false⟩⟩
theorem list_succ {α : Type} {n : Nat} {l : List α} (h : l.length = n + 1) : ∃ a l', l = a :: l' ∧ l'.length = n := by
  cases l with
  | nil => simp at h
  | cons a l => exact ⟨a, l, rfl, by simpa using h⟩
section
variable {H : Type} {enc : TypeId × Value → H} {w : World} {base : Nat} {spare : Nat → Bool} {held : Bool}
theorem list18 {α : Type} {l : List α} (h : l.length = 18) : ∃ u0 u1 u2 u3 u4 u5 u6 u7 u8 u9 u10 u11 u12 u13 u14 u15 u16 u17 : α, l = [u0, u1, u2, u3, u4, u5, u6, u7, u8, u9, u10, u11, u12, u13, u14, u15, u16, u17] := by
  obtain ⟨u0, l0, rfl, h0⟩ := list_succ h
  obtain ⟨u1, l1, rfl, h1⟩ := list_succ h0
  obtain ⟨u2, l2, rfl, h2⟩ := list_succ h1
  obtain ⟨u3, l3, rfl, h3⟩ := list_succ h2
  obtain ⟨u4, l4, rfl, h4⟩ := list_succ h3
  obtain ⟨u5, l5, rfl, h5⟩ := list_succ h4
  obtain ⟨u6, l6, rfl, h6⟩ := list_succ h5
  obtain ⟨u7, l7, rfl, h7⟩ := list_succ h6
  obtain ⟨u8, l8, rfl, h8⟩ := list_succ h7
  obtain ⟨u9, l9, rfl, h9⟩ := list_succ h8
  obtain ⟨u10, l10, rfl, h10⟩ := list_succ h9
  obtain ⟨u11, l11, rfl, h11⟩ := list_succ h10
  obtain ⟨u12, l12, rfl, h12⟩ := list_succ h11
  obtain ⟨u13, l13, rfl, h13⟩ := list_succ h12
  obtain ⟨u14, l14, rfl, h14⟩ := list_succ h13
  obtain ⟨u15, l15, rfl, h15⟩ := list_succ h14
  obtain ⟨u16, l16, rfl, h16⟩ := list_succ h15
  obtain ⟨u17, l17, rfl, h17⟩ := list_succ h16
  obtain rfl := List.eq_nil_of_length_eq_zero h17
  exact ⟨u0, u1, u2, u3, u4, u5, u6, u7, u8, u9, u10, u11, u12, u13, u14, u15, u16, u17, rfl⟩
theorem fld {fs : Array Field} {xs : List (DataW H × List MemPlace)} {cs : List Value} {m : Nat} (hl : xs.length = fs.size) (hf : ∀ (i : Nat) (f : Field), fs[i]? = some f → DataW.trod enc Try.prog w base spare held m f.type ((cs.drop f.offset).take (Try.prog.cellsOf f.type)) = xs[i]?)
    (i : Nat) (t : TypeId) (off c : Nat) (h : (fs[i]?).map (fun f => (f.type, f.offset)) = some (t, off)) (hc : Try.prog.cellsOf t = c) : ∃ y, DataW.trod enc Try.prog w base spare held m t ((cs.drop off).take c) = some y := by
  obtain ⟨f, hf0, hf1⟩ := Option.map_eq_some_iff.1 h
  simp only [Prod.mk.injEq] at hf1
  obtain ⟨rfl, rfl⟩ := hf1
  subst hc
  have hi : i < xs.length := by rw [hl]; exact (Array.getElem?_eq_some_iff.1 hf0).1
  exact ⟨_, (hf i f hf0).trans (List.getElem?_eq_getElem hi)⟩
theorem open_quota {n : Nat} {u0 u1 u2 : Value} {y : DataW H × List MemPlace} (hy : DataW.trod enc Try.prog w base spare held n 39 [u0, u1, u2] = some y) : ∃ q : Qt, u0 = .int .i64 q.f ∧ u1 = .int .i64 q.e ∧ u2 = .int .i64 q.x := by
  obtain ⟨xs, m, _, _, _, hl, hf⟩ := DataW.trod_struct Try.underlying39 hy
  have c3 : Try.prog.cellsOf 3 = 1 := by kernel_rfl
  obtain ⟨y0, g0⟩ := fld hl hf 0 3 0 1 rfl c3
  obtain ⟨y1, g1⟩ := fld hl hf 1 3 1 1 rfl c3
  obtain ⟨y2, g2⟩ := fld hl hf 2 3 2 1 rfl c3
  simp only [c3, List.drop_zero, List.drop_succ_cons, List.take_succ_cons, List.take_zero] at g0 g1 g2
  obtain ⟨z0, e0, _⟩ := DataW.trod_int Try.underlying3 g0
  obtain ⟨z1, e1, _⟩ := DataW.trod_int Try.underlying3 g1
  obtain ⟨z2, e2, _⟩ := DataW.trod_int Try.underlying3 g2
  simp only [List.cons.injEq, and_true] at e0 e1 e2
  exact ⟨⟨z0, z1, z2⟩, e0, e1, e2⟩
theorem open_regs {n : Nat} {u0 u1 u2 u3 u4 u5 u6 u7 u8 : Value} {y : DataW H × List MemPlace} (hy : DataW.trod enc Try.prog w base spare held n 33 [u0, u1, u2, u3, u4, u5, u6, u7, u8] = some y) :
    ∃ g : Rg, [u0, u1, u2, u3, u4, u5, u6, u7, u8] = [.int .u32 g.r0, .int .u32 g.r1, .int .u32 g.r2, .int .u32 g.r3, .int .u32 g.r4, .int .u32 g.r5, .int .u32 g.r6, .int .u32 g.r7, .int .u32 g.pc] := by
  obtain ⟨xs, m, _, _, _, hl, hf⟩ := DataW.trod_struct Try.underlying33 hy
  have c30 : Try.prog.cellsOf 30 = 1 := by kernel_rfl
  have c31 : Try.prog.cellsOf 31 = 8 := by kernel_rfl
  obtain ⟨y0, g0⟩ := fld hl hf 0 31 0 8 rfl c31
  obtain ⟨y1, g1⟩ := fld hl hf 1 30 8 1 rfl c30
  simp only [c30, c31, List.drop_zero, List.drop_succ_cons, List.take_succ_cons, List.take_zero] at g0 g1
  obtain ⟨ys, k, _, _, _, hk, hg⟩ := DataW.trod_array Try.underlying31 g0
  have each : ∀ i, i < 8 → ∃ z, DataW.trod enc Try.prog w base spare held k 30 ((([u0, u1, u2, u3, u4, u5, u6, u7] : List Value).drop (i * Try.prog.cellsOf 30)).take (Try.prog.cellsOf 30)) = some z := fun i hi => ⟨_, (hg i hi).trans (List.getElem?_eq_getElem (by rw [hk]; exact hi))⟩
  obtain ⟨z0, a0⟩ := each 0 (by omega)
  obtain ⟨z1, a1⟩ := each 1 (by omega)
  obtain ⟨z2, a2⟩ := each 2 (by omega)
  obtain ⟨z3, a3⟩ := each 3 (by omega)
  obtain ⟨z4, a4⟩ := each 4 (by omega)
  obtain ⟨z5, a5⟩ := each 5 (by omega)
  obtain ⟨z6, a6⟩ := each 6 (by omega)
  obtain ⟨z7, a7⟩ := each 7 (by omega)
  simp only [c30, Nat.zero_mul, Nat.one_mul, Nat.mul_one, List.drop_zero, List.drop_succ_cons, List.take_succ_cons, List.take_zero] at a0 a1 a2 a3 a4 a5 a6 a7
  obtain ⟨r0, e0, _⟩ := DataW.trod_int Try.underlying30 a0
  obtain ⟨r1, e1, _⟩ := DataW.trod_int Try.underlying30 a1
  obtain ⟨r2, e2, _⟩ := DataW.trod_int Try.underlying30 a2
  obtain ⟨r3, e3, _⟩ := DataW.trod_int Try.underlying30 a3
  obtain ⟨r4, e4, _⟩ := DataW.trod_int Try.underlying30 a4
  obtain ⟨r5, e5, _⟩ := DataW.trod_int Try.underlying30 a5
  obtain ⟨r6, e6, _⟩ := DataW.trod_int Try.underlying30 a6
  obtain ⟨r7, e7, _⟩ := DataW.trod_int Try.underlying30 a7
  obtain ⟨r8, e8, _⟩ := DataW.trod_int Try.underlying30 g1
  simp only [List.cons.injEq, and_true] at e0 e1 e2 e3 e4 e5 e6 e7 e8
  subst e0 e1 e2 e3 e4 e5 e6 e7 e8
  exact ⟨⟨r0, r1, r2, r3, r4, r5, r6, r7, r8⟩, rfl⟩
theorem open_op {n : Nat} {cs : List Value} {y : DataW H × List MemPlace} (hy : DataW.trod enc Try.prog w base spare held n 47 cs = some y) (hlen : cs.length = 18) : ∃ o : OpE, cs = (opcells o).toList := by
  obtain ⟨u0, u1, u2, u3, u4, u5, u6, u7, u8, u9, u10, u11, u12, u13, u14, u15, u16, u17, rfl⟩ := list18 hlen
  obtain ⟨xs, m, _, _, _, hl, hf⟩ := DataW.trod_struct Try.underlying47 hy
  have c3 : Try.prog.cellsOf 3 = 1 := by kernel_rfl
  have c4 : Try.prog.cellsOf 4 = 1 := by kernel_rfl
  have c39 : Try.prog.cellsOf 39 = 3 := by kernel_rfl
  have c33 : Try.prog.cellsOf 33 = 9 := by kernel_rfl
  obtain ⟨y0, g0⟩ := fld hl hf 0 3 0 1 rfl c3
  obtain ⟨y1, g1⟩ := fld hl hf 1 3 1 1 rfl c3
  obtain ⟨y2, g2⟩ := fld hl hf 2 3 2 1 rfl c3
  obtain ⟨y3, g3⟩ := fld hl hf 3 3 3 1 rfl c3
  obtain ⟨y4, g4⟩ := fld hl hf 4 3 4 1 rfl c3
  obtain ⟨y5, g5⟩ := fld hl hf 5 39 5 3 rfl c39
  obtain ⟨y6, g6⟩ := fld hl hf 6 33 8 9 rfl c33
  obtain ⟨y7, g7⟩ := fld hl hf 7 4 17 1 rfl c4
  simp only [c3, c4, c39, c33, List.drop_zero, List.drop_succ_cons, List.take_succ_cons, List.take_zero] at g0 g1 g2 g3 g4 g5 g6 g7
  obtain ⟨z0, e0, _⟩ := DataW.trod_int Try.underlying3 g0
  obtain ⟨z1, e1, _⟩ := DataW.trod_int Try.underlying3 g1
  obtain ⟨z2, e2, _⟩ := DataW.trod_int Try.underlying3 g2
  obtain ⟨z3, e3, _⟩ := DataW.trod_int Try.underlying3 g3
  obtain ⟨z4, e4, _⟩ := DataW.trod_int Try.underlying3 g4
  obtain ⟨q, q0, q1, q2⟩ := open_quota g5
  obtain ⟨g, eg⟩ := open_regs g6
  obtain ⟨on, e7, _⟩ := DataW.trod_bool Try.underlying4 g7
  simp only [List.cons.injEq, and_true] at e0 e1 e2 e3 e4 e7 eg
  obtain ⟨f0, f1, f2, f3, f4, f5, f6, f7, f8⟩ := eg
  subst e0 e1 e2 e3 e4 e7 q0 q1 q2 f0 f1 f2 f3 f4 f5 f6 f7 f8
  exact ⟨⟨z0, z1, z2, z3, z4, q, g, on⟩, rfl⟩
theorem open_ops {fuel : Nat} {v : Value} {x : DataW H × List MemPlace} (h : DataW.trod enc Try.prog w base spare held fuel 45 [v] = some x) :
    ∃ l : List OpE, l.length ≤ maxLen ∧ RAt w v l.length (l.flatMap fun o => (opcells o).toList) := by
  obtain ⟨l, h1, h2, _⟩ := open_list (α := OpE) (fun o => (opcells o).toList) 18 (fun _ => True) (by omega) (fun _ => rfl) Try.underlying45 (by kernel_rfl) h
    (fun n cs' y hy hlen => by obtain ⟨o, rfl⟩ := open_op hy hlen; exact ⟨o, rfl, trivial⟩)
  exact ⟨l, h1, h2⟩
end
end Go.Proofs.Ytdogpkcalflhbaa
