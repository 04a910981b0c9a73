/- fresh: a disk that is up and not armed, nothing waiting. -/
import Derived.Test.YtppllhdocajfiaaL4
set_option linter.unusedSimpArgs false
set_option linter.unusedVariables false
namespace Go.Proofs.Ytppllhdocajfiaa
open Go.RowKit

/-- A disk that is up, not armed, with nothing waiting. -/
structure Dk.Up (D : Dk) : Prop where
  down : D.down = false
  armed : D.armed = false
  cache : D.cache = []
def FreshAt (w wr : World) (n : Nat) : Prop := ∃ c D, DiskAt wr w.heap.size c D ∧ w.heap.size ≤ c ∧ D.Up ∧ D.acts ≤ n ∧ Fr No w wr

theorem same_own {w : World} {g : Nat} {v : Value} {X Y : List UInt8} {base : Nat} (hg : w.heap[g]? = some (.cells (X.map bv).toArray 5 (0, 0))) (hX : X.length = 128) (hown : w.ownsRow base 5 1 v 128 (Y.map bv)) :
    Calls Try.prog 27 #[.slice (some ⟨g, 0, none⟩) 128 128, v] w fun e w' => e = .returned (.bool (X == Y)) ∧ w = w' := by
  refine same_any w _ v X Y (.inr ⟨_, _, by rw [List.length_map, hX], by simp [hX], fun _ => ⟨g, 0, rfl, SegAt.of_block hg fun j u hu => by simpa using hu⟩⟩) (LAt.of_own hown).1

/-- The disk that a law has made (its block is the first of the law's own), nothing else changed. -/
structure DSt (w wr : World) (c : Nat) (D : Dk) : Prop where
  disk : DiskAt wr w.heap.size c D
  own : w.heap.size ≤ c
  fr : Fr No w wr
theorem DSt.no {w wr w' : World} {c : Nat} {D : Dk} (h : DSt w wr c D) (hf : Fr No wr w') : DSt w w' c D := ⟨h.disk.keep hf id id, h.own, h.fr.trans hf⟩
theorem DSt.op {w wr w' : World} {c c' : Nat} {D D' : Dk} (h : DSt w wr c D) (hd : DiskAt w' w.heap.size c' D') (hc : c' = c ∨ c' = w.heap.size ∨ wr.heap.size ≤ c') (hf : Fr (Two w.heap.size c) wr w') : DSt w w' c' D' := by
  have h1 := h.fr.size
  have h2 := h.own
  exact ⟨hd, by omega, h.fr.then hf fun i hi hx => by rcases hx with hx | hx <;> omega⟩
theorem DSt.op1 {w wr w' : World} {c c' : Nat} {D D' : Dk} (h : DSt w wr c D) (hd : DiskAt w' w.heap.size c' D') (hc : c' = c ∨ c' = w.heap.size ∨ wr.heap.size ≤ c') (hf : Fr (One w.heap.size) wr w') : DSt w w' c' D' := h.op hd hc hf.one_two
theorem DSt.size {w wr : World} {c : Nat} {D : Dk} (h : DSt w wr c D) : w.heap.size < wr.heap.size := h.disk.lt.1

set_option maxHeartbeats 4000000 in
set_option maxRecDepth 100000 in
theorem fresh_any (w : World) (v : Value) (l : List OpD) (hl : OpsAt w v l) (hlen : l.length ≤ 2097152) :
    Calls Try.prog 12 #[v] w fun e w' => e = .returned (.pointer (some ⟨w.heap.size, 0, none⟩)) ∧ ∃ c D, DSt w w' c D ∧ D.Up ∧ D.acts ≤ l.length + 1 := by
  have HB := Lib.hid (begun_any w v l hl hlen)
  obtain ⟨a, cap, rfl, hcap, _⟩ := hl.1.len
  obtain ⟨n, hn⟩ : ∃ n, Hid (l.length = n) := ⟨_, Lib.hid rfl⟩
  rw [hn.out] at HB hlen ⊢
  clear hl hcap
  go_enter Try.func12, Try.ntmps12
  go_wp2_with fail
  refine HB.out.mono ?_
  rintro e w1 ⟨rfl, c0, D0, hd0, hc0, hcl, hac, hf0⟩
  have S0 := Lib.hid (DSt.mk hd0 hc0 hf0)
  clear hd0 hf0 HB hc0
  go_wp2_with fail
  refine (Crash_any S0.out.disk (by omega) (.slice none 0 0) [] (fun _ _ => .inl ⟨rfl, rfl⟩)).mono ?_
  rintro e w2 ⟨rfl, hd1, hf1⟩
  obtain ⟨D1, hD1⟩ : ∃ D1, D1 = D0.crash [] := ⟨_, rfl⟩
  rw [← hD1] at hd1
  have HU : Hid (D1.down = false ∧ D1.armed = false ∧ D1.cache = [] ∧ D1.acts ≤ n) := Lib.hid (by rw [hD1]; exact ⟨rfl, rfl, rfl, hac⟩)
  have S1 := Lib.hid (S0.out.op1 hd1 (.inr (.inl rfl)) hf1)
  clear hD1 hd1 hf1 hcl hac
  go_wp2_with fail
  refine (full_any _ 90).mono ?_
  rintro e w3 ⟨g3, cap3, rfl, hown3, hf3⟩
  have HO3 := Lib.hid hown3
  have S3 := Lib.hid (S1.out.no hf3)
  have hg3 : g3 ≠ w.heap.size := by have := (own_base hown3).1; have := S1.out.size; omega
  clear hown3 hf3
  have hwr := Lib.hid (write_up HU.out.1 HU.out.2.1 1023 (List.replicate 128 90))
  go_wp2_with fail
  refine (Write_own S3.out.disk 1023 (by omega) HO3.out hg3 (by have := HU.out.2.2.2; omega) (by rw [HU.out.2.2.1]; simp) _ _ hwr.out).mono ?_
  rintro e w4 ⟨rfl, ⟨c4, hd4, hc4⟩, hf4⟩
  obtain ⟨D4, hD4⟩ : ∃ D4 : Dk, D4 = { D1 with cache := D1.cache ++ [(1023, List.replicate 128 90)], acts := D1.acts + 1 } := ⟨_, rfl⟩
  rw [← hD4] at hd4
  have S4 := Lib.hid (S3.out.op hd4 (by omega) hf4)
  have HU4 : Hid (D4.down = false ∧ D4.cache = [(1023, List.replicate 128 90)] ∧ D4.acts ≤ n + 1 ∧ D4.read 1023 = List.replicate 128 90) := Lib.hid (by
    obtain ⟨u1, u2, u3, u4⟩ := HU.out
    have hc : D4.cache = [(1023, List.replicate 128 90)] := by rw [hD4]; simp [u3]
    exact ⟨by rw [hD4]; exact u1, hc, by rw [hD4]; simp only; omega, by unfold Dk.read; rw [hc]; rfl⟩)
  clear hD4 hd4 hc4 hf4 hwr hg3
  go_wp2_with fail
  refine (Read_up S4.out.disk 1023 (by omega) HU4.out.1 (by rw [HU4.out.2.1]; simp)).mono ?_
  rintro e w5 ⟨g5, rfl, hg5, hr5, hf5⟩
  rw [HU4.out.2.2.2] at hr5
  have HR5 := Lib.hid hr5
  have S5 := Lib.hid (S4.out.no hf5)
  clear hr5 hf5
  go_wp2_with fail
  refine (full_any _ 90).mono ?_
  rintro e w6 ⟨g6, cap6, rfl, hown6, hf6⟩
  have HO6 := Lib.hid hown6
  have HR6 := Lib.hid (hf6.heap HR5.out id)
  have S6 := Lib.hid (S5.out.no hf6)
  clear hown6 hf6
  go_wp2_with fail
  refine (same_own HR6.out (by simp) HO6.out).mono ?_
  rintro e w6' ⟨rfl, rfl⟩
  rw [beq_self_eq_true]
  go_wp2_with fail
  have S6' := S6.out.no ((Fr.refl No w6).alloc (.cells #[.bool true] 4))
  have hk : LAt (w6.alloc (.cells #[.bool true] 4)) (.slice (some ⟨w6.heap.size, 0, none⟩) 1 1) ([true].map Value.bool) := .inr ⟨_, _, rfl, by simp, fun _ => ⟨_, _, rfl, SegAt.of_block (heap_alloc_new w6 _) (fun j v hv => by simpa using hv)⟩⟩
  have hk6 := S6.out.size
  refine (Crash_any S6'.disk (by rw [HU4.out.2.1]; simp) (.slice (some ⟨w6.heap.size, 0, none⟩) 1 1) [true] (fun w' hf => hk.fr hf fun g hg hv => One.not (by simp [Value.ownBlock] at hv; omega))).mono ?_
  rintro e w7 ⟨rfl, hd7, hf7⟩
  rw [show keptOf (fun i => [true].getD i false) 0 D4.cache = 1 by rw [HU4.out.2.1]; rfl]
  obtain ⟨D7, hD7⟩ : ∃ D7, D7 = D4.crash [true] := ⟨_, rfl⟩
  rw [← hD7] at hd7
  have HU7 : Hid (D7.Up ∧ D7.acts ≤ n + 1 ∧ D7.med 1023 = List.replicate 128 90) := Lib.hid (by
    obtain ⟨u1, u2, u3, u4⟩ := HU4.out
    rw [hD7]
    refine ⟨⟨rfl, rfl, rfl⟩, u3, ?_⟩
    show laidOn (fun i => [true].getD i false) 0 D4.cache D4.med 1023 = _
    rw [u2]; rfl)
  have S7 := Lib.hid (S6'.op1 hd7 (.inr (.inl rfl)) hf7)
  clear hD7 hd7 hf7 hk S6'
  go_wp2_with fail
  refine (Raw_any S7.out.disk 1023 (by omega)).mono ?_
  rintro e w8 ⟨g8, rfl, hg8, hr8, hf8⟩
  rw [HU7.out.2.2] at hr8
  have HR8 := Lib.hid hr8
  have S8 := Lib.hid (S7.out.no hf8)
  clear hr8 hf8
  go_wp2_with fail
  refine (full_any _ 90).mono ?_
  rintro e w9 ⟨g9, cap9, rfl, hown9, hf9⟩
  have HO9 := Lib.hid hown9
  have HR9 := Lib.hid (hf9.heap HR8.out id)
  have S9 := Lib.hid (S8.out.no hf9)
  clear hown9 hf9
  go_wp2_with fail
  refine (same_own HR9.out (by simp) HO9.out).mono ?_
  rintro e w9' ⟨rfl, rfl⟩
  rw [beq_self_eq_true]
  go_wp2_with fail
  go_ret
  exact ⟨rfl, _, D7, S9.out, HU7.out.1, HU7.out.2.1⟩
end Go.Proofs.Ytppllhdocajfiaa
