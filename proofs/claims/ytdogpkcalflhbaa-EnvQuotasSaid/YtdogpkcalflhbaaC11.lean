/- Create: the refusals. -/
import Derived.Test.YtdogpkcalflhbaaC10
set_option linter.unusedSimpArgs false
set_option linter.unusedVariables false
namespace Go.Proofs.Ytdogpkcalflhbaa
open Go.RowKit

/-- The quota that came by value lies in a block of its own. -/
structure Boxed (w : World) (q0 q1 q2 : Int) (W : World) : Prop where
  fr : Fr No w W
  blk : W.heap[w.heap.size]? = some (.cells #[.int .i64 q0, .int .i64 q1, .int .i64 q2] 39 (0, 0))
theorem Boxed.mk' (w : World) (q0 q1 q2 : Int) : Boxed w q0 q1 q2 (w.alloc (.cells #[.int .i64 q0, .int .i64 q1, .int .i64 q2] 39)) := ⟨(Fr.refl _ w).alloc _, heap_alloc_new w _⟩
section
variable {w w' W : World} {b : Nat} {L : Lay} {T : Tb} {q0 q1 q2 : Int}
theorem Boxed.no (h : Boxed w q0 q1 q2 W) (hf : Fr No W w') : Boxed w q0 q1 q2 w' := ⟨h.fr.trans hf, hf.heap h.blk id⟩
theorem Boxed.c0 (h : Boxed w q0 q1 q2 W) : W.cell? ⟨w.heap.size, 0, none⟩ = some (.int .i64 q0) := cell_blk h.blk rfl
theorem Boxed.c1 (h : Boxed w q0 q1 q2 W) : W.cell? ⟨w.heap.size, 1, none⟩ = some (.int .i64 q1) := cell_blk h.blk rfl
theorem Boxed.c2 (h : Boxed w q0 q1 q2 W) : W.cell? ⟨w.heap.size, 2, none⟩ = some (.int .i64 q2) := cell_blk h.blk rfl
theorem Boxed.lt (h : Boxed w q0 q1 q2 W) : w.heap.size < W.heap.size := lt_of_block h.blk
theorem TabAt.last (h : TabAt w b L T) : w.cell? ⟨b, 1, none⟩ = some (.int .i64 T.last) := cell_blk h.hb rfl

theorem Create_none (h : TabAt w b L T) (p s q0 q1 q2 : Int) (hr : T.at p = none) : Calls Try.prog 17 #[.pointer (some ⟨b, 0, none⟩), .int .i64 p, .int .i64 s, .agg #[.int .i64 q0, .int .i64 q1, .int .i64 q2]] w fun e w' =>
    e = .returned (.tuple #[.int .i64 (-1), .int .i64 90]) ∧ Left w b L T w' := by
  have h1 := h.head
  have hbw : b < w.heap.size := lt_of_block h.hb
  obtain ⟨W, hW⟩ : ∃ W, Hid (W = w.alloc (.cells #[.int .i64 q0, .int .i64 q1, .int .i64 q2] 39)) := ⟨_, Lib.hid rfl⟩
  have HQ : Hid (Boxed w q0 q1 q2 W) := Lib.hid (by rw [hW.out]; exact Boxed.mk' _ _ _ _)
  have H := Lib.hid h
  have HB := Lib.hid (at_none (h.no HQ.out.fr) hr)
  clear h hr
  go_enter Try.func17, Try.ntmps17
  go_wp2_with fail
  rw [← hW.out]
  refine HB.out.mono ?_
  rintro r w1 ⟨rfl, hf⟩
  have HF : Hid (Fr No w w1) := Lib.hid (HQ.out.fr.trans hf)
  clear hf
  go_wp2_with fail
  go_ret2
  exact ⟨rfl, H.out.no HF.out, HF.out.anyOwn⟩

set_option maxHeartbeats 1000000 in
theorem Create_arg (h : TabAt w b L T) (n : Nat) (r : Rec) (hn : T.live n = some r) (s q0 q1 q2 : Int) (hbad : goodB ⟨q0, q1, q2⟩ = false ∨ s ≤ T.last ∨ 4611686018427387903 < s) :
    Calls Try.prog 17 #[.pointer (some ⟨b, 0, none⟩), .int .i64 (n : Int), .int .i64 s, .agg #[.int .i64 q0, .int .i64 q1, .int .i64 q2]] w fun e w' =>
    e = .returned (.tuple #[.int .i64 (-1), .int .i64 1]) ∧ Left w b L T w' := by
  have h1 := h.head
  have hbw : b < w.heap.size := lt_of_block h.hb
  obtain ⟨W, hW⟩ : ∃ W, Hid (W = w.alloc (.cells #[.int .i64 q0, .int .i64 q1, .int .i64 q2] 39)) := ⟨_, Lib.hid rfl⟩
  have HQ : Hid (Boxed w q0 q1 q2 W) := Lib.hid (by rw [hW.out]; exact Boxed.mk' _ _ _ _)
  have H := Lib.hid h
  have HB := Lib.hid (at_some (h.no HQ.out.fr) hn)
  have HG := Lib.hid (fun w => good_raw q0 q1 q2 w)
  obtain ⟨z, hz⟩ : ∃ z, goodB ⟨q0, q1, q2⟩ = z := ⟨_, rfl⟩
  rw [hz] at HG hbad
  obtain ⟨last, hl⟩ : ∃ l, Hid (T.last = l) := ⟨_, Lib.hid rfl⟩
  rw [hl.out] at hbad
  clear h hn hz
  go_enter Try.func17, Try.ntmps17
  go_wp2_with fail
  rw [← hW.out]
  refine HB.out.mono ?_
  rintro v w1 ⟨rfl, hf⟩
  have HQ1 := Lib.hid (HQ.out.no hf)
  have c0 := HQ1.out.c0
  have c1 := HQ1.out.c1
  have c2 := HQ1.out.c2
  have clt := HQ1.out.lt
  clear hf
  go_wp2_with fail
  refine (HG.out _).mono ?_
  rintro v w2 ⟨rfl, hf⟩
  have HQ2 := Lib.hid (HQ1.out.no hf)
  have k := (H.out.no HQ2.out.fr).last
  rw [hl.out] at k
  have klt : b < w2.heap.size := World.block_lt_of_cell? _ _ k
  clear hf c0 c1 c2 clt
  cases z with
  | false =>
    clear hbad
    go_wp2_with fail
    go_ret2
    exact ⟨rfl, H.out.no HQ2.out.fr, HQ2.out.fr.anyOwn⟩
  | true =>
    by_cases hs : s ≤ last
    · clear hbad
      go_wp2_with fail
      go_ret2
      exact ⟨rfl, H.out.no HQ2.out.fr, HQ2.out.fr.anyOwn⟩
    · have hs2 : 4611686018427387903 < s := by
        rcases hbad with h | h | h
        · cases h
        · omega
        · exact h
      clear hbad
      go_wp2_with fail
      go_ret2
      exact ⟨rfl, H.out.no HQ2.out.fr, HQ2.out.fr.anyOwn⟩
end
end Go.Proofs.Ytdogpkcalflhbaa
