/- Flush and Crash. -/
import Derived.Test.YtppllhdocajfiaaC2
import Derived.Test.YtppllhdocajfiaaC3
set_option linter.unusedSimpArgs false
set_option linter.unusedVariables false
namespace Go.Proofs.Ytppllhdocajfiaa
open Go.RowKit

def Dk.flush (D : Dk) : Dk × Int := if D.act.2 then (D.act.1.drain (fun _ => true), 0) else (D.act.1, 42)
def Dk.crash (D : Dk) (K : List Bool) : Dk := { D.drain (fun i => K.getD i false) with armed := false, down := false, left := 0 }

theorem act_cache (D : Dk) : D.act.1.cache = D.cache ∧ D.act.1.med = D.med := by
  unfold Dk.act
  split
  · exact ⟨rfl, rfl⟩
  · split
    · split <;> exact ⟨rfl, rfl⟩
    · exact ⟨rfl, rfl⟩

section
variable {w : World} {b c : Nat} {D : Dk}

set_option maxHeartbeats 400000 in
theorem Flush_any (h : DiskAt w b c D) (ha : D.acts ≤ 4611686018427387904) (hlen : D.cache.length ≤ 1152921504606846976) (D' : Dk) (r : Int) (hr : D.flush = (D', r)) :
    Calls Try.prog 15 #[.pointer (some ⟨b, 0, none⟩)] w fun e w' => e = .returned (.int .i64 r) ∧ (∃ c', DiskAt w' b c' D' ∧ (c' = c ∨ c' = b)) ∧ Fr (One b) w w' := by
  obtain ⟨D1, r1, h1⟩ : ∃ D1 r1, D.act = (D1, r1) := ⟨_, _, rfl⟩
  have hc1 := (act_cache D).1
  simp only [Dk.flush, h1] at hr hc1
  have H := Lib.hid h
  have H1 := Lib.hid h1
  have HL := Lib.hid (show D1.cache.length ≤ 1152921504606846976 by rw [hc1]; exact hlen)
  have HR := Lib.hid hr
  clear h h1 hr hc1
  cases r1
  · go_enter Try.func15, Try.ntmps15
    go_wp2_with (go_at_call 50; refine (act_any H.out ha D1 false H1.out).mono ?_; rintro e w1 ⟨rfl, hd1, hf1⟩)
    go_ret
    have := HR.out
    simp at this
    obtain ⟨rfl, rfl⟩ := this
    exact ⟨rfl, ⟨c, hd1, .inl rfl⟩, hf1⟩
  · go_enter Try.func15, Try.ntmps15
    go_wp2_with (first | (go_at_call 50; refine (act_any H.out ha D1 true H1.out).mono ?_; rintro e w1 ⟨rfl, hd1, hf1⟩) | (go_at_call 51; refine (drain52 (by assumption) HL.out).mono ?_; rintro e w2 ⟨rfl, hd2, hf2⟩))
    go_ret
    have := HR.out
    simp at this
    obtain ⟨rfl, rfl⟩ := this
    exact ⟨rfl, ⟨b, hd2, .inr rfl⟩, hf1.trans hf2⟩

set_option maxHeartbeats 400000 in
theorem Crash_any (h : DiskAt w b c D) (hlen : D.cache.length ≤ 1152921504606846976) (v : Value) (K : List Bool) (hvK : ∀ w', Fr (One b) w w' → BoolsAt w' v K) :
    Calls Try.prog 21 #[.pointer (some ⟨b, 0, none⟩), v] w fun e w' => e = .returned (.int .i64 (keptOf (fun i => K.getD i false) 0 D.cache)) ∧ DiskAt w' b b (D.crash K) ∧ Fr (One b) w w' := by
  have h2 : DiskAt (w.alloc (.cells #[v] 41)) b c D := h.keep (S := No) ((Fr.refl _ w).alloc _) id id
  have hd := drain55 h2 hlen w.heap.size v K (by simp) ⟨by simp, by have := h.lt.1; omega⟩ (fun w' hf => hvK w' (((Fr.refl _ w).alloc _).trans hf))
  have hv0 := hvK w (Fr.refl _ _)
  obtain ⟨a, n, cap, rfl⟩ : ∃ a n cap, v = .slice a n cap := by
    obtain ⟨a, cap, rfl, _⟩ := hv0.len
    exact ⟨_, _, _, rfl⟩
  have HD := Lib.hid hd
  clear hd h h2 hvK hv0
  go_enter Try.func21, Try.ntmps21
  go_wp2_with (go_at_call 51; refine HD.out.mono ?_; rintro e w2 ⟨rfl, hd2, hf2⟩; have c1 := hd2.armed; have c2 := hd2.left; have c3 := hd2.down; have f1 := hd2.free 131073; have f2 := hd2.free 131074; have f3 := hd2.free 131075; have HD2 := Lib.hid hd2; clear hd2)
  go_ret
  exact ⟨rfl, ((HD2.out.setArmed false).setDown false).setLeft 0 (by omega), ((((Fr.refl _ w).alloc _).trans hf2).put (.inl (One.self b)) _ _ |>.put (.inl (One.self b)) _ _ |>.put (.inl (One.self b)) _ _)⟩

/-- What a read tells: the bytes of the last waiting write of the sector, or the medium's. -/
def lastOf (s : Nat) : List (Nat × List UInt8) → List UInt8 → List UInt8
  | [], m => m
  | p :: l, m => lastOf s l (if p.1 = s then p.2 else m)
def Dk.read (D : Dk) (s : Nat) : List UInt8 := lastOf s D.cache (D.med s)

/-- A sector of the medium, handed to join. -/
theorem sector_join (h : DiskAt w b c D) (s : Nat) (hs : s < 1024) (W : World) (hW : W = w.alloc (.cells #[.slice (some ⟨b, s * 128, none⟩) 128 128] 34)) :
    Calls Try.prog 56 #[.slice (some ⟨w.heap.size, 0, none⟩) 1 1] W fun e w' => ∃ g, e = .returned (.slice (some ⟨g, 0, none⟩) 128 128) ∧ w.heap.size ≤ g ∧
      w'.heap[g]? = some (.cells ((D.med s).map bv).toArray 5 (0, 0)) ∧ Fr No w w' := by
  subst hW
  have hX := h.ok.med s
  refine (join_any _ w.heap.size 1 b (s * 128) 128 (D.med s) ⟨by omega, by omega⟩ (Lib.hid rfl) (Lib.hid hX) ?_ ?_ (by have := h.lt; simp; omega) (by simp)).mono ?_
  · intro j hj
    obtain rfl : j = 0 := by omega
    simp
  · intro i hi
    rw [World.cell?_alloc_lt _ _ _ (by exact h.lt.1)]
    exact h.med hs hi
  · rintro e w' ⟨g, rfl, hg, hc, hb⟩
    simp at hg
    refine ⟨g, rfl, by omega, hc, ?_⟩
    exact ((Fr.refl No w).alloc _).trans (Fr.of_below hb)

set_option maxHeartbeats 400000 in
theorem Raw_any (h : DiskAt w b c D) (s : Nat) (hs : s < 1024) :
    Calls Try.prog 26 #[.pointer (some ⟨b, 0, none⟩), .int .i64 s] w fun e w' => ∃ g, e = .returned (.tuple #[.slice (some ⟨g, 0, none⟩) 128 128, .int .i64 0]) ∧ w.heap.size ≤ g ∧
      w'.heap[g]? = some (.cells ((D.med s).map bv).toArray 5 (0, 0)) ∧ Fr No w w' := by
  have hj := sector_join h s hs _ rfl
  have HJ := Lib.hid hj
  clear hj h
  have hs1 : (s : Int) < 1024 := by omega
  go_enter Try.func26, Try.ntmps26
  go_wp2_with (first | (go_at_call 53; refine (there_yes _ _ (by omega)).mono ?_; rintro e w' ⟨rfl, rfl⟩) | (go_at_call 56; refine HJ.out.mono ?_; rintro e w1 ⟨g, rfl, hg, hc, hf⟩))
  go_ret2
  exact ⟨g, rfl, hg, hc, hf⟩
theorem Raw_no (n : Int) (hn : ¬ (0 ≤ n ∧ n < 1024)) :
    Calls Try.prog 26 #[.pointer (some ⟨b, 0, none⟩), .int .i64 n] w fun e w' => e = .returned (.tuple #[.slice none 0 0, .int .i64 40]) ∧ w = w' := by
  go_enter Try.func26, Try.ntmps26
  go_wp2_with (first | (go_at_call 53; refine (there_no _ _ hn).mono ?_; rintro e w' ⟨rfl, rfl⟩))
  go_ret2
  exact ⟨rfl, rfl⟩
theorem Read_no (n : Int) (hn : ¬ (0 ≤ n ∧ n < 1024)) :
    Calls Try.prog 23 #[.pointer (some ⟨b, 0, none⟩), .int .i64 n] w fun e w' => e = .returned (.tuple #[.slice none 0 0, .int .i64 40]) ∧ w = w' := by
  go_enter Try.func23, Try.ntmps23
  go_wp2_with (first | (go_at_call 53; refine (there_no _ _ hn).mono ?_; rintro e w' ⟨rfl, rfl⟩))
  go_ret2
  exact ⟨rfl, rfl⟩
theorem Read_down (h : DiskAt w b c D) (n : Int) (hn : 0 ≤ n ∧ n < 1024) (hd : D.down = true) :
    Calls Try.prog 23 #[.pointer (some ⟨b, 0, none⟩), .int .i64 n] w fun e w' => e = .returned (.tuple #[.slice none 0 0, .int .i64 42]) ∧ w = w' := by
  have h1 := h.down
  rw [hd] at h1
  clear h
  go_enter Try.func23, Try.ntmps23
  go_wp2_with (first | (go_at_call 53; refine (there_yes _ _ hn).mono ?_; rintro e w' ⟨rfl, rfl⟩))
  go_ret2
  exact ⟨rfl, rfl⟩
end
end Go.Proofs.Ytppllhdocajfiaa
