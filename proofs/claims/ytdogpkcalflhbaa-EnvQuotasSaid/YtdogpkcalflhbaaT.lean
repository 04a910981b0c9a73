/- The environments' table in memory. -/
import Derived.Test.YtdogpkcalflhbaaProg
import Derived.Test.YtdogpkcalflhbaaB
set_option linter.unusedSimpArgs false
set_option linter.unusedVariables false
namespace Go.Proofs.Ytdogpkcalflhbaa
open Go.RowKit

@[ext] structure Qt where
  f : Int
  e : Int
  x : Int
deriving DecidableEq
@[ext] structure Rg where
  r0 : Int
  r1 : Int
  r2 : Int
  r3 : Int
  r4 : Int
  r5 : Int
  r6 : Int
  r7 : Int
  pc : Int
deriving DecidableEq
structure Rec where
  serial : Int
  parent : Int
  state : Int
  code : Int
  bits : Int
  frozen : Bool
  regs : Rg
  whole : Qt
  paid : Qt
  carved : Qt
  kids : List Nat

def Rg.zero : Rg := ⟨0, 0, 0, 0, 0, 0, 0, 0, 0⟩
def Qt.zero : Qt := ⟨0, 0, 0⟩
def Rec.new (serial parent : Int) (q : Qt) : Rec := ⟨serial, parent, 0, 0, 0, false, Rg.zero, q, Qt.zero, Qt.zero, []⟩

/-- An environment's record, cell by cell. -/
def reccells (r : Rec) (kv : Value) : Array Value :=
  #[.int .i64 r.serial, .int .i64 r.parent, .int .i64 r.state, .int .i64 r.code, .int .i64 r.bits, .bool r.frozen,
    .int .u32 r.regs.r0, .int .u32 r.regs.r1, .int .u32 r.regs.r2, .int .u32 r.regs.r3, .int .u32 r.regs.r4, .int .u32 r.regs.r5, .int .u32 r.regs.r6, .int .u32 r.regs.r7, .int .u32 r.regs.pc,
    .int .i64 0, .int .i64 0, .int .i64 0, .int .i64 0, .int .i64 0, .int .i64 0,
    .int .i64 r.whole.f, .int .i64 r.whole.e, .int .i64 r.whole.x, .int .i64 r.paid.f, .int .i64 r.paid.e, .int .i64 r.paid.x, .int .i64 r.carved.f, .int .i64 r.carved.e, .int .i64 r.carved.x, kv]

/-- What a block of the table holds. -/
inductive Tag where
  | table
  | slots
  | cells
  | record (n : Nat)
  | kids (n : Nat)

/-- Where the table's parts lie. -/
structure Lay where
  tb : Nat
  cb : Nat
  rb : Nat → Nat
  kv : Nat → Value
  F : Nat → Option Tag

/-- The table in plain Lean. -/
structure Tb where
  live : Nat → Option Rec
  low : Nat
  last : Int

def kidv (l : List Nat) : List Value := l.map fun (n : Nat) => Value.int .i64 (n : Int)
def recptr (L : Lay) (T : Tb) (n : Nat) : Value := .pointer ((T.live n).map fun _ => ⟨L.rb n, 0, none⟩)
def Own (L : Lay) (k : Nat) : Prop := L.F k ≠ none

structure TabAt (w : World) (b : Nat) (L : Lay) (T : Tb) : Prop where
  fb : L.F b = some .table
  ftb : L.F L.tb = some .slots
  fcb : L.F L.cb = some .cells
  frb : ∀ n r, T.live n = some r → L.F (L.rb n) = some (.record n)
  fkb : ∀ n r g, T.live n = some r → (L.kv n).ownBlock = some g → L.F g = some (.kids n)
  flt : ∀ k, Own L k → k < w.heap.size
  hb : w.heap[b]? = some (.cells #[.pointer (some ⟨L.tb, 0, none⟩), .int .i64 T.last] 75 (0, 0))
  htb : ∃ cnt, w.heap[L.tb]? = some (.cells #[.slice (some ⟨L.cb, 0, none⟩) 16 16, .int .i64 cnt, .int .i64 (T.low : Int)] 98 (0, 0))
  hcb : ∃ C, w.heap[L.cb]? = some (.cells C 100 (0, 0)) ∧ C.size = 32 ∧ ∀ n, n < 16 → C[n * 2]? = some (.bool (T.live n).isSome) ∧ C[n * 2 + 1]? = some (recptr L T n)
  hrb : ∀ n r, T.live n = some r → w.heap[L.rb n]? = some (.cells (reccells r (L.kv n)) 80 (0, 0))
  hkb : ∀ n r, T.live n = some r → w.ownsRow 0 3 1 (L.kv n) r.kids.length (kidv r.kids)
  lt16 : ∀ n r, T.live n = some r → n < 16
  low16 : T.low ≤ 16

section
variable {w w' : World} {b : Nat} {L : Lay} {T : Tb}
theorem own_fr {base : Nat} {e : TypeId} {size n : Nat} {v : Value} {X : List Value} {S : Nat → Prop} (h : w.ownsRow base e size v n X) (hf : Fr S w w') (hS : ∀ g, v.ownBlock = some g → ¬ S g) : w'.ownsRow base e size v n X := by
  refine ⟨h.1, ?_⟩
  rcases h.2 with h1 | ⟨g, cap, cur, rfl, hb, hh, r⟩
  · exact .inl h1
  · exact .inr ⟨g, cap, cur, rfl, hb, hf.heap hh (hS g rfl), r⟩
/-- Nothing of the table was touched. -/
theorem TabAt.keep {S : Nat → Prop} (h : TabAt w b L T) (hf : Fr S w w') (hS : ∀ k, Own L k → ¬ S k) : TabAt w' b L T := by
  have own : ∀ {k t}, L.F k = some t → ¬ S k := fun e => hS _ (by unfold Own; rw [e]; simp)
  obtain ⟨cnt, htb⟩ := h.htb
  obtain ⟨C, hC, hc⟩ := h.hcb
  exact ⟨h.fb, h.ftb, h.fcb, h.frb, h.fkb, fun k hk => Nat.lt_of_lt_of_le (h.flt k hk) hf.size, hf.heap h.hb (own h.fb), ⟨cnt, hf.heap htb (own h.ftb)⟩, ⟨C, hf.heap hC (own h.fcb), hc⟩,
    fun n r hn => hf.heap (h.hrb n r hn) (own (h.frb n r hn)), fun n r hn => own_fr (h.hkb n r hn) hf fun g hg => own (h.fkb n r g hn hg), h.lt16, h.low16⟩
theorem TabAt.no (h : TabAt w b L T) (hf : Fr No w w') : TabAt w' b L T := h.keep hf fun _ _ => id
def Tb.set (T : Tb) (n : Nat) (r : Rec) : Tb := { T with live := fun m => if m = n then some r else T.live m }
theorem Tb.set_same (T : Tb) (n : Nat) (r : Rec) : (T.set n r).live n = some r := by simp [Tb.set]
theorem Tb.set_other (T : Tb) {n m : Nat} (r : Rec) (h : m ≠ n) : (T.set n r).live m = T.live m := by simp [Tb.set, h]
theorem Tb.set_get {T : Tb} {n m : Nat} {r s : Rec} (h : (T.set n r).live m = some s) : (m = n ∧ s = r) ∨ (m ≠ n ∧ T.live m = some s) := by
  by_cases e : m = n
  · subst e; rw [T.set_same] at h; exact .inl ⟨rfl, by simpa using h.symm⟩
  · rw [T.set_other r e] at h; exact .inr ⟨e, h⟩
theorem Tb.set_some {T : Tb} {n m : Nat} {r r0 : Rec} (h0 : T.live n = some r0) : ((T.set n r).live m).isSome = (T.live m).isSome := by
  by_cases e : m = n
  · subst e; rw [T.set_same, h0]; rfl
  · rw [T.set_other r e]
/-- A record's block is replaced, its children as they were. -/
theorem TabAt.putRec (h : TabAt w b L T) {n : Nat} {r r' : Rec} (hn : T.live n = some r) (hk : r'.kids = r.kids) (hh : w'.heap[L.rb n]? = some (.cells (reccells r' (L.kv n)) 80 (0, 0))) (hf : Fr (One (L.rb n)) w w') : TabAt w' b L (T.set n r') := by
  have hrb := h.frb n r hn
  have ne : ∀ {k t}, L.F k = some t → (∀ e : t = .record n, False) → ¬ One (L.rb n) k := fun {k t} e ht (hx : k = L.rb n) => by
    subst hx; rw [hrb] at e; exact ht (by simpa using e.symm)
  obtain ⟨cnt, htb⟩ := h.htb
  obtain ⟨C, hC, hsz, hc⟩ := h.hcb
  refine ⟨h.fb, h.ftb, h.fcb, fun m s hm => ?_, fun m s g hm hg => ?_, fun k hk => Nat.lt_of_lt_of_le (h.flt k hk) hf.size, hf.heap h.hb (ne h.fb (by simp)), ⟨cnt, hf.heap htb (ne h.ftb (by simp))⟩, ⟨C, hf.heap hC (ne h.fcb (by simp)), hsz, fun m hm => ?_⟩, fun m s hm => ?_, fun m s hm => ?_, fun m s hm => ?_, h.low16⟩
  · rcases Tb.set_get hm with ⟨rfl, rfl⟩ | ⟨_, hm⟩
    · exact hrb
    · exact h.frb m s hm
  · rcases Tb.set_get hm with ⟨rfl, rfl⟩ | ⟨_, hm⟩
    · exact h.fkb m r g hn hg
    · exact h.fkb m s g hm hg
  · obtain ⟨c1, c2⟩ := hc m hm
    refine ⟨by rw [Tb.set_some hn]; exact c1, c2.trans ?_⟩
    unfold recptr
    by_cases e : m = n
    · subst e; rw [T.set_same, hn]; rfl
    · rw [T.set_other _ e]
  · rcases Tb.set_get hm with ⟨rfl, rfl⟩ | ⟨e, hm⟩
    · exact hh
    · exact hf.heap (h.hrb m s hm) (ne (h.frb m s hm) (by simpa using e))
  · rcases Tb.set_get hm with ⟨rfl, rfl⟩ | ⟨e, hm⟩
    · rw [hk]; exact own_fr (h.hkb m r hn) hf fun g hg => ne (h.fkb m r g hn hg) (by simp)
    · exact own_fr (h.hkb m s hm) hf fun g hg => ne (h.fkb m s g hm hg) (by simp)
  · rcases Tb.set_get hm with ⟨rfl, rfl⟩ | ⟨e, hm⟩
    · exact h.lt16 m r hn
    · exact h.lt16 m s hm
/-- One cell of a record is written. -/
theorem TabAt.setRec (h : TabAt w b L T) {n : Nat} {r r' : Rec} (hn : T.live n = some r) (hk : r'.kids = r.kids) (j : Nat) (v : Value) (hj : (reccells r (L.kv n)).setIfInBounds j v = reccells r' (L.kv n)) : TabAt (w.setCell ⟨L.rb n, j, none⟩ v) b L (T.set n r') :=
  h.putRec hn hk (by rw [heap_setCell_same _ _ _ _ _ _ (h.hrb n r hn), hj]) (Fr.set1 _ _ _ _)
theorem TabAt.ownRec (h : TabAt w b L T) {n : Nat} {r : Rec} (hn : T.live n = some r) : Own L (L.rb n) := by unfold Own; rw [h.frb n r hn]; simp
theorem Fr.own {a : World} (h : Fr (Own L) a w) {n j : Nat} {v : Value} (hn : Own L n) : Fr (Own L) a (w.setCell ⟨n, j, none⟩ v) := h.put (.inl hn) _ _
theorem Tb.set_set (T : Tb) (n : Nat) (r s : Rec) : (T.set n r).set n s = T.set n s := by
  unfold Tb.set; congr 1; funext m; by_cases e : m = n <;> simp [e]
end
end Go.Proofs.Ytdogpkcalflhbaa
