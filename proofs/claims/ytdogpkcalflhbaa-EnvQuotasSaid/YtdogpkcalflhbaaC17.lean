/- first: a table with three environments, and the book of it. -/
import Derived.Test.YtdogpkcalflhbaaC15
set_option linter.unusedSimpArgs false
set_option linter.unusedVariables false
namespace Go.Proofs.Ytdogpkcalflhbaa
open Go.RowKit

def T0 : Tb := (Tb.empty 1).add 0 (Rec.new 1 (-1) ⟨40, 24, 8⟩)
def T1 : Tb := (T0.create 0 2 ⟨20, 7, 3⟩).1
def T2 : Tb := (T1.create 1 3 ⟨6, 2, 1⟩).1
theorem create1 : (T0.create 0 2 ⟨20, 7, 3⟩).2 = (1, 0) := by rfl
theorem create2 : (T1.create 1 3 ⟨6, 2, 1⟩).2 = (2, 0) := by rfl
theorem T0_0 : T0.live 0 = some (Rec.new 1 (-1) ⟨40, 24, 8⟩) := rfl
theorem T0_ok : ∀ n r, T0.live n = some r → Rok r ∧ r.kids.length ≤ 16 := by
  intro n r h
  rcases Tb.set_get h with ⟨rfl, rfl⟩ | ⟨_, h⟩
  · exact ⟨⟨rfl, by unfold Qok Rec.new; simp, by unfold Qok Rec.new Qt.zero; simp, by unfold Qok Rec.new Qt.zero; simp⟩, by unfold Rec.new; simp⟩
  · cases h

def zero58 : Array Value := #[.bool false, .bool false, .bool false, .bool false, .bool false, .bool false, .bool false, .bool false, .bool false, .bool false, .bool false, .bool false, .bool false, .bool false, .bool false, .bool false, .int .i64 0, .int .i64 0, .int .i64 0, .int .i64 0, .int .i64 0, .int .i64 0, .int .i64 0, .int .i64 0, .int .i64 0, .int .i64 0, .int .i64 0, .int .i64 0, .int .i64 0, .int .i64 0, .int .i64 0, .int .i64 0, .int .i64 0, .int .i64 0, .int .i64 0, .int .i64 0, .int .i64 0, .int .i64 0, .int .i64 0, .int .i64 0, .int .i64 0, .int .i64 0, .int .i64 0, .int .i64 0, .int .i64 0, .int .i64 0, .int .i64 0, .int .i64 0, .int .i64 0, .int .i64 0, .int .i64 0, .int .i64 0, .int .i64 0, .int .i64 0, .int .i64 0, .int .i64 0, .int .i64 0, .int .i64 0, .int .i64 0, .int .i64 0, .int .i64 0, .int .i64 0, .int .i64 0, .int .i64 0, .int .i64 0]
theorem t58_zero : Try.t58.zero = some (.agg zero58) := by kernel_rfl
theorem zeroV58 (w : World) : Sem.run Try.prog (zeroValue 58) w = .ok (.agg zero58) w := by
  simp [zeroValue, Try.typeInfo58, t58_zero]
theorem zero58_size : zero58.size = 65 := rfl
/-- The statement's own book in memory. -/
structure BookCells (C : Array Value) (lives : Nat → Bool) (paid : Nat → Qt) (last : Int) : Prop where
  size : C.size = 65
  lives : ∀ n, n < 16 → C[n]? = some (.bool (lives n))
  f : ∀ n, n < 16 → C[16 + n * 3]? = some (.int .i64 (paid n).f)
  e : ∀ n, n < 16 → C[16 + n * 3 + 1]? = some (.int .i64 (paid n).e)
  x : ∀ n, n < 16 → C[16 + n * 3 + 2]? = some (.int .i64 (paid n).x)
  last : C[64]? = some (.int .i64 last)
def BookAt (w : World) (bb : Nat) (lives : Nat → Bool) (paid : Nat → Qt) (last : Int) : Prop := ∃ C, w.heap[bb]? = some (.cells C 58 (0, 0)) ∧ BookCells C lives paid last
theorem book_zero : BookCells (zero58.setIfInBounds 64 (.int .i64 3)) (fun _ => false) (fun _ => Qt.zero) 3 := by
  have get : ∀ k, k < 64 → (zero58.setIfInBounds 64 (.int .i64 3))[k]? = zero58[k]? := fun k hk => Array.getElem?_setIfInBounds_ne (by omega)
  have l : ∀ k, k < 16 → zero58[k]? = some (.bool false) := by
    have h : zero58.toList.take 16 = List.replicate 16 (.bool false) := rfl
    intro k hk
    have := congrArg (fun l => l[k]?) h
    simp only [List.getElem?_take, if_pos hk, List.getElem?_replicate, Array.getElem?_toList] at this
    exact this
  have z : ∀ n, n < 48 → zero58[16 + n]? = some (.int .i64 0) := by
    have h : zero58.toList.drop 16 = List.replicate 49 (.int .i64 0) := rfl
    intro n hn
    rw [← Array.getElem?_toList, ← List.getElem?_drop, h, List.getElem?_replicate, if_pos (by omega)]
  refine ⟨by simp [zero58_size], fun n hn => by rw [get n (by omega)]; exact l n hn, fun n hn => by rw [get _ (by omega)]; exact z (n * 3) (by omega), fun n hn => ?_, fun n hn => ?_, by rw [Array.getElem?_setIfInBounds_self_of_lt (by rw [zero58_size]; omega)]⟩
  · rw [get _ (by omega), Nat.add_assoc]; exact z (n * 3 + 1) (by omega)
  · rw [get _ (by omega), Nat.add_assoc]; exact z (n * 3 + 2) (by omega)
section
variable {w w' : World} {bb : Nat} {lives : Nat → Bool} {paid : Nat → Qt} {last : Int}
theorem BookAt.keep {S : Nat → Prop} (h : BookAt w bb lives paid last) (hf : Fr S w w') (hS : ¬ S bb) : BookAt w' bb lives paid last := by
  obtain ⟨C, h1, h2⟩ := h
  exact ⟨C, hf.heap h1 hS, h2⟩
theorem BookAt.lt (h : BookAt w bb lives paid last) : bb < w.heap.size := by obtain ⟨C, h1, _⟩ := h; exact lt_of_block h1
theorem BookAt.live (h : BookAt w bb lives paid last) {n : Nat} (hn : n < 16) : w.cell? ⟨bb, n, none⟩ = some (.bool (lives n)) := by obtain ⟨C, h1, h2⟩ := h; exact cell_blk h1 (h2.lives n hn)
theorem BookAt.lastc (h : BookAt w bb lives paid last) : w.cell? ⟨bb, 64, none⟩ = some (.int .i64 last) := by obtain ⟨C, h1, h2⟩ := h; exact cell_blk h1 h2.last
theorem BookAt.free (h : BookAt w bb lives paid last) (k : Nat) : w.frozen? ⟨bb, k, none⟩ = false := by obtain ⟨C, h1, h2⟩ := h; exact free_blk h1 k
theorem BookAt.setLive (h : BookAt w bb lives paid last) {n : Nat} (hn : n < 16) (z : Bool) : BookAt (w.setCell ⟨bb, n, none⟩ (.bool z)) bb (fun k => if k = n then z else lives k) paid last := by
  obtain ⟨C, h1, h2⟩ := h
  have hsz := h2.size
  refine ⟨_, heap_setCell_same _ _ _ _ _ _ h1, by simpa using hsz, fun k hk => ?_, fun k hk => ?_, fun k hk => ?_, fun k hk => ?_, ?_⟩
  · by_cases e : k = n
    · subst e; rw [Array.getElem?_setIfInBounds_self_of_lt (by omega), if_pos rfl]
    · rw [Array.getElem?_setIfInBounds_ne (by omega), if_neg e]; exact h2.lives k hk
  · rw [Array.getElem?_setIfInBounds_ne (by omega)]; exact h2.f k hk
  · rw [Array.getElem?_setIfInBounds_ne (by omega)]; exact h2.e k hk
  · rw [Array.getElem?_setIfInBounds_ne (by omega)]; exact h2.x k hk
  · rw [Array.getElem?_setIfInBounds_ne (by omega)]; exact h2.last
theorem BookAt.congr {lives' : Nat → Bool} {paid' : Nat → Qt} (h : BookAt w bb lives paid last) (h1 : ∀ n, n < 16 → lives' n = lives n) (h2 : ∀ n, n < 16 → paid' n = paid n) : BookAt w bb lives' paid' last := by
  obtain ⟨C, h3, h4⟩ := h
  exact ⟨C, h3, h4.size, fun n hn => by rw [h1 n hn]; exact h4.lives n hn, fun n hn => by rw [h2 n hn]; exact h4.f n hn, fun n hn => by rw [h2 n hn]; exact h4.e n hn, fun n hn => by rw [h2 n hn]; exact h4.x n hn, h4.last⟩
end
attribute [local go_sem] zeroV58 zero58_size

/-- A table and a book apart from it. -/
structure Both (w : World) (b : Nat) (L : Lay) (T : Tb) (bb : Nat) (lives : Nat → Bool) (paid : Nat → Qt) (last : Int) (wr : World) : Prop where
  tab : TabAt wr b L T
  book : BookAt wr bb lives paid last
  fr : Fr No w wr
  own : ∀ k, Own L k → w.heap.size ≤ k
  hbb : w.heap.size ≤ bb
  ne : ¬ Own L bb
section
variable {w wr w' : World} {b bb : Nat} {L : Lay} {T T' : Tb} {lives : Nat → Bool} {paid : Nat → Qt} {last : Int}
theorem Both.no (h : Both w b L T bb lives paid last wr) (hf : Fr No wr w') : Both w b L T bb lives paid last w' := ⟨h.tab.no hf, h.book.keep hf id, h.fr.trans hf, h.own, h.hbb, h.ne⟩
theorem Both.left (h : Both w b L T bb lives paid last wr) (hl : Left wr b L T' w') : Both w b L T' bb lives paid last w' :=
  ⟨hl.tab, h.book.keep hl.fr h.ne, h.fr.then hl.fr fun i hi hk => by have := h.own i hk; omega, h.own, h.hbb, h.ne⟩
theorem Both.moved (h : Both w b L T bb lives paid last wr) (hm : Moved wr b L T' w') : ∃ L', Both w b L' T' bb lives paid last w' := by
  obtain ⟨L', h1, h2, h3⟩ := hm
  have hs := h.fr.size
  refine ⟨L', h1, h.book.keep h2 h.ne, h.fr.then h2 fun i hi hk => by have := h.own i hk; omega, fun k hk => ?_, h.hbb, fun hk => ?_⟩
  · rcases h3 k hk with h4 | h4
    · exact h.own k h4
    · omega
  · rcases h3 _ hk with h4 | h4
    · exact h.ne h4
    · have := h.book.lt; omega
theorem Both.touch (h : Both w b L T bb lives paid last wr) {lives' : Nat → Bool} {paid' : Nat → Qt} {last' : Int} (hb : BookAt w' bb lives' paid' last') (hf : Fr (One bb) wr w') : Both w b L T bb lives' paid' last' w' :=
  ⟨h.tab.keep hf fun k hk (hx : k = bb) => h.ne (hx ▸ hk), hb, h.fr.then hf fun i hi (hx : i = bb) => by have := h.hbb; omega, h.own, h.hbb, h.ne⟩
end

theorem T1_ok : ∀ n r, T1.live n = some r → Rok r ∧ r.kids.length ≤ 16 := by
  intro n r h
  have key : ∀ (r : Rec), r = Rec.new 2 0 ⟨20, 7, 3⟩ ∨ r = { Rec.new 1 (-1) ⟨40, 24, 8⟩ with carved := ⟨20, 8, 3⟩, kids := [1] } → Rok r ∧ r.kids.length ≤ 16 := by
    intro r hr
    rcases hr with rfl | rfl
    · exact ⟨⟨rfl, by unfold Qok Rec.new; simp, by unfold Qok Rec.new Qt.zero; simp, by unfold Qok Rec.new Qt.zero; simp⟩, by unfold Rec.new; simp⟩
    · exact ⟨⟨rfl, by unfold Qok Rec.new; simp, by unfold Qok Rec.new Qt.zero; simp, by unfold Qok; simp⟩, by simp⟩
  by_cases h0 : n = 0
  · subst h0
    have e : T1.live 0 = some { Rec.new 1 (-1) ⟨40, 24, 8⟩ with carved := ⟨20, 8, 3⟩, kids := [1] } := rfl
    rw [e] at h
    exact key r (.inr (by simpa using h.symm))
  · by_cases h1 : n = 1
    · subst h1
      have e : T1.live 1 = some (Rec.new 2 0 ⟨20, 7, 3⟩) := rfl
      rw [e] at h
      exact key r (.inl (by simpa using h.symm))
    · have e : T1.live n = none := by
        show (if n = 0 then _ else if n = 1 then _ else if n = 0 then _ else none) = none
        rw [if_neg h0, if_neg h1, if_neg h0]
      rw [e] at h
      cases h

set_option maxRecDepth 100000 in
set_option maxHeartbeats 4000000 in
theorem first_any (w : World) : Calls Try.prog 8 #[] w fun e w' => ∃ b L bb, e = .returned (.tuple #[.pointer (some ⟨b, 0, none⟩), .pointer (some ⟨bb, 0, none⟩)]) ∧ Both w b L T2 bb (fun n => decide (n < 3)) (fun _ => Qt.zero) 3 w' := by
  have HC1 := Lib.hid create1
  have HC2 := Lib.hid create2
  go_enter Try.func8, Try.ntmps8
  go_wp2_with fail
  obtain ⟨w1, hw1⟩ : ∃ w1, w1 = w.alloc (.cells (zero58.setIfInBounds 64 (.int .i64 3)) 58) := ⟨_, rfl⟩
  rw [← hw1]
  have HB1 : Hid (BookAt w1 w.heap.size (fun _ => false) (fun _ => Qt.zero) 3 ∧ Fr No w w1 ∧ w1.heap.size = w.heap.size + 1) := Lib.hid (by rw [hw1]; exact ⟨⟨_, heap_alloc_new _ _, book_zero⟩, (Fr.refl _ _).alloc _, by simp⟩)
  clear hw1
  refine (New_any 1 40 24 8 (by unfold Qok; simp) w1).mono ?_
  rintro e w2 ⟨b, L, rfl, ht, hf, ho⟩
  have HB2 : Hid (Both w b L T0 w.heap.size (fun _ => false) (fun _ => Qt.zero) 3 w2) := Lib.hid ⟨ht, HB1.out.1.keep hf id, HB1.out.2.1.trans hf, fun k hk => by have := ho k hk; have := HB1.out.2.2; omega, Nat.le_refl _, fun hk => by have := ho _ hk; have := HB1.out.2.2; omega⟩
  clear ht hf ho
  go_wp2_with fail
  refine (Create_any HB2.out.tab 0 2 ⟨20, 7, 3⟩ T0_ok).mono ?_
  rintro e w3 ⟨rfl, hm⟩
  rw [HC1.out]
  obtain ⟨L3, hb3⟩ := HB2.out.moved hm
  have HB3 : Hid (Both w b L3 T1 w.heap.size (fun _ => false) (fun _ => Qt.zero) 3 w3) := Lib.hid hb3
  clear hm hb3
  go_wp2_with fail
  refine (Create_any HB3.out.tab 1 3 ⟨6, 2, 1⟩ T1_ok).mono ?_
  rintro e w4 ⟨rfl, hm⟩
  rw [HC2.out]
  obtain ⟨L4, hb4⟩ := HB3.out.moved hm
  have HB4 : Hid (Both w b L4 T2 w.heap.size (fun _ => false) (fun _ => Qt.zero) 3 w4) := Lib.hid hb4
  clear hm hb4
  go_wp2_with fail
  go_loopg [8] 3 (fun m i wr => ∃ j : Nat, j ≤ 3 ∧ m + j = 3 ∧ i = .int .i64 j ∧ Hid (Both w b L4 T2 w.heap.size (fun n => decide (n < j)) (fun _ => Qt.zero) 3 wr))
  case atStart => exact ⟨0, by omega, by omega, rfl, Lib.hid (by simpa using HB4.out)⟩
  case round =>
    obtain ⟨j, hj, hm, rfl, HR⟩ := hrel
    by_cases hlt : j < 3
    · have c0 := HR.out.book.live (n := j) (by omega)
      have c1 := HR.out.book.free j
      have c2 := HR.out.book.lt
      go_wp2_with fail
      go_roundg (3 - (j + 1))
      case rel =>
        refine ⟨j + 1, by omega, by omega, by go_num, Lib.hid (HR.out.touch ((HR.out.book.setLive (n := j) (by omega) true).congr (fun n hn => ?_) fun n hn => rfl) (Fr.set1 _ _ _ _))⟩
        by_cases e : n = j
        · subst e; simp
        · rw [if_neg e]; congr 1; simp; omega
      case measure => omega
    · obtain rfl : j = 3 := by omega
      go_wp2_with fail
      go_ret2
      exact ⟨b, L4, w.heap.size, rfl, HR.out⟩
end Go.Proofs.Ytdogpkcalflhbaa
