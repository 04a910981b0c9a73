/- The statement's helpers: lives, add, below; the book beside the table. -/
import Derived.Test.YtdogpkcalflhbaaC17
import Derived.Test.YtdogpkcalflhbaaC20
import Derived.Test.YtdogpkcalflhbaaC21
import Derived.Test.YtdogpkcalflhbaaC16
set_option linter.unusedSimpArgs false
set_option linter.unusedVariables false
namespace Go.Proofs.Ytdogpkcalflhbaa
open Go.RowKit

def livesB (lives : Nat → Bool) (e : Int) : Bool := decide (0 ≤ e ∧ e < 16) && lives e.toNat
theorem lives_any {w : World} {bb : Nat} {lives : Nat → Bool} {paid : Nat → Qt} {last : Int} (h : BookAt w bb lives paid last) (e : Int) : Calls Try.prog 23 #[.pointer (some ⟨bb, 0, none⟩), .int .i64 e] w fun r w' => r = .returned (.bool (livesB lives e)) ∧ w = w' := by
  unfold livesB
  by_cases h0 : 0 ≤ e
  · by_cases h16 : e < 16
    · obtain ⟨n, rfl⟩ : ∃ n : Nat, e = n := ⟨e.toNat, by omega⟩
      have hn : n < 16 := by omega
      have c0 := h.live hn
      have lt := h.lt
      have e1 : (decide (0 ≤ (n : Int) ∧ (n : Int) < 16) && lives (n : Int).toNat) = lives n := by
        rw [decide_eq_true ⟨h0, h16⟩]; simp
      rw [e1]
      obtain ⟨z, hz⟩ : ∃ z, lives n = z := ⟨_, rfl⟩
      rw [hz] at c0 ⊢
      clear h e1 hz
      go_enter Try.func23, Try.ntmps23
      go_wp2
      go_ret
      exact ⟨rfl, rfl⟩
    · have e1 : (decide (0 ≤ e ∧ e < 16) && lives e.toNat) = false := by rw [decide_eq_false (by omega)]; rfl
      rw [e1]
      have h16' : decide (e < 16) = false := by simpa using h16
      clear h e1
      go_enter Try.func23, Try.ntmps23
      go_wp2
      go_ret
      exact ⟨rfl, rfl⟩
  · have e1 : (decide (0 ≤ e ∧ e < 16) && lives e.toNat) = false := by rw [decide_eq_false (by omega)]; rfl
    rw [e1]
    have h0' : decide (0 ≤ e) = false := by simpa using h0
    clear h e1
    go_enter Try.func23, Try.ntmps23
    go_wp2
    go_ret
    exact ⟨rfl, rfl⟩

def Qsmall (a : Qt) : Prop := (-4611686018427387904 ≤ a.f ∧ a.f ≤ 4611686018427387904) ∧ (-4611686018427387904 ≤ a.e ∧ a.e ≤ 4611686018427387904) ∧ (-4611686018427387904 ≤ a.x ∧ a.x ≤ 4611686018427387904)
theorem add_one (a0 a1 a2 c0 c1 c2 : Int) (w : World) (ha : Qsmall ⟨a0, a1, a2⟩) (hc : Qok ⟨c0, c1, c2⟩) : Calls Try.prog 24 #[.agg #[.int .i64 a0, .int .i64 a1, .int .i64 a2], .agg #[.int .i64 c0, .int .i64 c1, .int .i64 c2], .int .i64 1] w fun e w' => e = .returned (.agg #[.int .i64 (a0 + c0), .int .i64 (a1 + c1), .int .i64 (a2 + c2)]) ∧ Fr No w w' := by
  simp only [Qsmall, Qok] at ha hc
  obtain ⟨⟨h0, h1⟩, ⟨h2, h3⟩, ⟨h4, h5⟩⟩ := ha
  obtain ⟨⟨g0, g1⟩, ⟨g2, g3⟩, ⟨g4, g5⟩⟩ := hc
  go_enter Try.func24, Try.ntmps24
  go_wp2
  exact bodyPost_ret (v := .agg #[.int .i64 (a0 + c0), .int .i64 (a1 + c1), .int .i64 (a2 + c2)]) (by simp [results, Try.results24, go_sem]) rfl ⟨rfl, by
    repeat (first | exact Fr.refl _ _ | apply Fr.alloc | refine Fr.put ?_ (.inr (by simp)) _ _)⟩
theorem add_neg (a0 a1 a2 c0 c1 c2 : Int) (w : World) (ha : Qsmall ⟨a0, a1, a2⟩) (hc : Qok ⟨c0, c1, c2⟩) : Calls Try.prog 24 #[.agg #[.int .i64 a0, .int .i64 a1, .int .i64 a2], .agg #[.int .i64 c0, .int .i64 c1, .int .i64 c2], .int .i64 (-1)] w fun e w' => e = .returned (.agg #[.int .i64 (a0 - c0), .int .i64 (a1 - c1), .int .i64 (a2 - c2)]) ∧ Fr No w w' := by
  simp only [Qsmall, Qok] at ha hc
  obtain ⟨⟨h0, h1⟩, ⟨h2, h3⟩, ⟨h4, h5⟩⟩ := ha
  obtain ⟨⟨g0, g1⟩, ⟨g2, g3⟩, ⟨g4, g5⟩⟩ := hc
  go_enter Try.func24, Try.ntmps24
  go_wp2
  exact bodyPost_ret (v := .agg #[.int .i64 (a0 + -c0), .int .i64 (a1 + -c1), .int .i64 (a2 + -c2)]) (by simp [results, Try.results24, go_sem]) rfl ⟨rfl, by
    repeat (first | exact Fr.refl _ _ | apply Fr.alloc | refine Fr.put ?_ (.inr (by simp)) _ _)⟩
theorem below_raw (a0 a1 a2 : Int) (w : World) : Calls Try.prog 25 #[.agg #[.int .i64 a0, .int .i64 a1, .int .i64 a2]] w fun e w' => e = .returned (.bool (decide (a0 < 0 ∨ a1 < 0 ∨ a2 < 0))) ∧ Fr No w w' := by
  go_enter Try.func25, Try.ntmps25
  go_wp2
  all_goals
    go_ret
    refine ⟨ret_bool ?_, (Fr.refl _ w).alloc _⟩
    first
      | rfl
      | (symm; apply decide_eq_true; omega)
      | (symm; apply decide_eq_false; omega)
      | (rw [Bool.eq_iff_iff]; simp; omega)
      | (rw [Bool.eq_iff_iff]; simp [or_assoc]; done)

/-- A step by value. -/
structure OpE where
  kind : Int
  t : Int
  e : Int
  n : Int
  m : Int
  q : Qt
  r : Rg
  on : Bool
def opcells (o : OpE) : Array Value := #[.int .i64 o.kind, .int .i64 o.t, .int .i64 o.e, .int .i64 o.n, .int .i64 o.m, .int .i64 o.q.f, .int .i64 o.q.e, .int .i64 o.q.x,
  .int .u32 o.r.r0, .int .u32 o.r.r1, .int .u32 o.r.r2, .int .u32 o.r.r3, .int .u32 o.r.r4, .int .u32 o.r.r5, .int .u32 o.r.r6, .int .u32 o.r.r7, .int .u32 o.r.pc, .bool o.on]

/-- The book tells what the table is. -/
def BookOf (w : World) (bb : Nat) (T : Tb) : Prop := ∃ paid, BookAt w bb (fun n => (T.live n).isSome) paid T.last ∧ ∀ n r, T.live n = some r → paid n = r.paid
/-- A table that keeps all, its book beside it. -/
structure NS (w : World) (b : Nat) (L : Lay) (T : Tb) (bb : Nat) (wr : World) : Prop where
  tab : TabAt wr b L T
  book : BookOf wr bb T
  fr : Fr No w wr
  own : ∀ k, Own L k → w.heap.size ≤ k
  hbb : w.heap.size ≤ bb
  ne : ¬ Own L bb
  inv : Inv T
section
variable {w wr w' : World} {b bb : Nat} {L : Lay} {T T' : Tb}
theorem BookOf.keep {S : Nat → Prop} (h : BookOf wr bb T) (hf : Fr S wr w') (hS : ¬ S bb) : BookOf w' bb T := by
  obtain ⟨paid, h1, h2⟩ := h
  exact ⟨paid, h1.keep hf hS, h2⟩
theorem BookOf.lt (h : BookOf wr bb T) : bb < wr.heap.size := by obtain ⟨paid, h1, h2⟩ := h; exact h1.lt
/-- The table has turned, but nothing that the book tells. -/
theorem BookOf.same (h : BookOf wr bb T) (hl : T'.last = T.last) (hs : ∀ n, (∀ r', T'.live n = some r' → ∃ r, T.live n = some r ∧ r'.paid = r.paid) ∧ (T'.live n).isSome = (T.live n).isSome) : BookOf wr bb T' := by
  obtain ⟨paid, h1, h2⟩ := h
  refine ⟨paid, ?_, fun n r' hr => ?_⟩
  · rw [hl]; exact h1.congr (fun n _ => (hs n).2) fun _ _ => rfl
  · obtain ⟨r, h3, h4⟩ := (hs n).1 r' hr
    rw [h4]; exact h2 n r h3
theorem NS.no (h : NS w b L T bb wr) (hf : Fr No wr w') : NS w b L T bb w' := ⟨h.tab.no hf, h.book.keep hf id, h.fr.trans hf, h.own, h.hbb, h.ne, h.inv⟩
theorem NS.bblt (h : NS w b L T bb wr) : bb < wr.heap.size := h.book.lt
/-- A call on the table has moved it; the book still fits. -/
theorem NS.moved (h : NS w b L T bb wr) (hm : Moved wr b L T' w') (hI : Inv T') (hb : ∀ w2, BookOf w2 bb T → BookOf w2 bb T') : ∃ L', NS w b L' T' bb w' := by
  obtain ⟨L', h1, h2, h3⟩ := hm
  have hs := h.fr.size
  refine ⟨L', h1, hb _ (h.book.keep h2 h.ne), h.fr.then h2 fun i hi hk => by have := h.own i hk; omega, fun k hk => ?_, h.hbb, fun hk => ?_, hI⟩
  · rcases h3 k hk with h4 | h4
    · exact h.own k h4
    · omega
  · rcases h3 _ hk with h4 | h4
    · exact h.ne h4
    · have := h.book.lt; omega
theorem NS.left (h : NS w b L T bb wr) (hm : Left wr b L T' w') (hI : Inv T') (hb : ∀ w2, BookOf w2 bb T → BookOf w2 bb T') : NS w b L T' bb w' :=
  ⟨hm.tab, hb _ (h.book.keep hm.fr h.ne), h.fr.then hm.fr fun i hi hk => by have := h.own i hk; omega, h.own, h.hbb, h.ne, hI⟩
end
/-- Setting a field keeps all. -/
theorem keeps_on {T : Tb} (hI : Inv T) {n : Nat} {r r' : Rec} (hn : T.live n = some r) (e1 : r'.serial = r.serial) (e2 : r'.parent = r.parent) (e3 : r'.whole = r.whole) (e4 : r'.carved = r.carved) (e5 : r'.kids = r.kids) (e6 : r'.paid = r.paid) (hb : word r'.bits = true) :
    Inv (T.set n r') ∧ ∀ w2 bb, BookOf w2 bb T → BookOf w2 bb (T.set n r') := by
  have hok := hI.ok n r hn
  refine ⟨hI.upd hn e1 e2 e3 e4 e5 ⟨hb, by rw [e3]; exact hok.whole, by rw [e6]; exact hok.paid, by rw [e4]; exact hok.carved⟩ (by rw [e6, e4, e3]; exact hI.left n r hn), fun w2 bb h => h.same rfl fun m => ⟨fun s hs => ?_, Tb.set_some hn⟩⟩
  rcases Tb.set_get hs with ⟨rfl, rfl⟩ | ⟨_, hs⟩
  · exact ⟨r, hn, e6⟩
  · exact ⟨s, hs, rfl⟩
end Go.Proofs.Ytdogpkcalflhbaa
