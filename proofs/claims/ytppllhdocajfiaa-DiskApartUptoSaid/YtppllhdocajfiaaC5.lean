/- Read of a disk that is up. -/
import Derived.Test.YtppllhdocajfiaaC4
set_option linter.unusedSimpArgs false
set_option linter.unusedVariables false
namespace Go.Proofs.Ytppllhdocajfiaa
open Go.RowKit

theorem lastOf_miss (s : Nat) : ∀ (l : List (Nat × List UInt8)) (m : List UInt8), (∀ (k : Nat) p, l[k]? = some p → p.1 ≠ s) → lastOf s l m = m
  | [], _, _ => rfl
  | p :: l, m, h => by
    rw [lastOf, if_neg (h 0 p rfl)]
    exact lastOf_miss s l m fun k q hq => h (k + 1) q (by simpa using hq)
theorem lastOf_hit (s : Nat) : ∀ (l : List (Nat × List UInt8)) (m : List UInt8) (i : Nat) p, l[i]? = some p → p.1 = s → (∀ (k : Nat) q, i < k → l[k]? = some q → q.1 ≠ s) → lastOf s l m = p.2
  | [], _, i, p, h, _, _ => by simp at h
  | q :: l, m, 0, p, h, hp, hk => by
    simp at h; subst h
    rw [lastOf, if_pos hp]
    exact lastOf_miss s l _ fun k r hr => hk (k + 1) r (by omega) (by simpa using hr)
  | q :: l, m, i + 1, p, h, hp, hk => by
    rw [lastOf]
    exact lastOf_hit s l _ i p (by simpa using h) hp fun k r hik hr => hk (k + 1) r (by omega) (by simpa using hr)

section
variable {w : World} {b c : Nat} {D : Dk}

/-- A waiting write's bytes, handed to join. -/
theorem pend_join {cv : Value} (hca : CacheAt w b c cv D.cache) (hc : c < w.heap.size) (hok : ∀ p ∈ D.cache, p.1 < 1024 ∧ p.2.length = 128) (i : Nat) (s : Nat) (X : List UInt8) (hi : D.cache[i]? = some (s, X)) (W : World) (hW : W = w.alloc (.cells #[.slice (some ⟨c, i * 129 + 1, none⟩) 128 128] 34)) :
    Calls Try.prog 56 #[.slice (some ⟨w.heap.size, 0, none⟩) 1 1] W fun e w' => ∃ g, e = .returned (.slice (some ⟨g, 0, none⟩) 128 128) ∧ w.heap.size ≤ g ∧
      w'.heap[g]? = some (.cells (X.map bv).toArray 5 (0, 0)) ∧ Fr No w w' := by
  subst hW
  have hX := (hok _ (List.mem_of_getElem? hi)).2
  obtain ⟨hcb, _, hseg⟩ := hca.seg hok hi
  refine (join_any _ w.heap.size 1 c (i * 129 + 1) 128 X ⟨by omega, by omega⟩ (Lib.hid rfl) (Lib.hid hX) ?_ ?_ (by simp; omega) (by simp)).mono ?_
  · intro j hj
    obtain rfl : j = 0 := by omega
    simp
  · intro k hk
    rw [World.cell?_alloc_lt _ _ _ (by exact hc)]
    have := hseg (k + 1) (bv (X.getD k 0)) (by simp at hX; simp [pcells, List.getD, List.getElem?_eq_getElem (show k < X.length by omega)])
    rwa [show i * 129 + (k + 1) = i * 129 + 1 + k by omega] at this
  · rintro e w' ⟨g, rfl, hg, hc, hb⟩
    simp at hg
    refine ⟨g, rfl, by omega, hc, ?_⟩
    exact ((Fr.refl No w).alloc _).trans (Fr.of_below hb)

set_option maxHeartbeats 1000000 in
set_option maxRecDepth 100000 in
theorem Read_up (h : DiskAt w b c D) (s : Nat) (hs : s < 1024) (hd : D.down = false) (hlen : D.cache.length ≤ 1152921504606846976) :
    Calls Try.prog 23 #[.pointer (some ⟨b, 0, none⟩), .int .i64 s] w fun e w' => ∃ g, e = .returned (.tuple #[.slice (some ⟨g, 0, none⟩) 128 128, .int .i64 0]) ∧ w.heap.size ≤ g ∧
      w'.heap[g]? = some (.cells ((D.read s).map bv).toArray 5 (0, 0)) ∧ Fr No w w' := by
  have h1 := h.down
  rw [hd] at h1
  obtain ⟨cv, hcv, hca⟩ := h.cache
  obtain ⟨a, cap, rfl⟩ : ∃ a cap, cv = .slice a D.cache.length cap := by
    rcases hca with ⟨rfl, h0⟩ | ⟨cap, cur, rfl, _⟩
    · exact ⟨none, 0, by rw [h0]; rfl⟩
    · exact ⟨_, _, rfl⟩
  obtain ⟨n, hn⟩ : ∃ n, Hid (D.cache.length = n) := ⟨_, Lib.hid rfl⟩
  rw [hn.out] at hcv hlen
  have HJ := Lib.hid (sector_join h s hs _ rfl)
  have H := Lib.hid h
  have HCA := Lib.hid hca
  have hs1 : (s : Int) < 1024 := by omega
  clear h hca hd
  go_enter Try.func23, Try.ntmps23
  go_wp2_with (first | (go_at_call 53; refine (there_yes _ _ (by omega)).mono ?_; rintro e w' ⟨rfl, rfl⟩))
  go_loopg [6] n (fun m t wr => ∃ (j : Nat), j ≤ n ∧ j = m ∧ t = .int .i64 ((j : Int) - 1) ∧ w = wr ∧ Hid (∀ (k : Nat) p, j ≤ k → D.cache[k]? = some p → p.1 ≠ s))
  case atStart => exact ⟨n, by omega, rfl, rfl, rfl, Lib.hid (fun k p hk hp => by have := hn.out; rw [List.getElem?_eq_none (by omega)] at hp; cases hp)⟩
  case round =>
    obtain ⟨j, hj, rfl, rfl, rfl, HK⟩ := hrel
    cases j with
    | zero =>
      have hm : D.read s = D.med s := lastOf_miss s _ _ fun k p hp => HK.out k p (Nat.zero_le _) hp
      have HM := Lib.hid hm
      clear hm
      go_wp2_with (go_at_call 56; refine HJ.out.mono ?_; rintro e w1 ⟨g, rfl, hg, hc, hf⟩)
      go_ret2
      exact ⟨g, rfl, hg, by rw [HM.out]; exact hc, hf⟩
    | succ i =>
      rw [show (((i + 1 : Nat) : Int) - 1) = (i : Int) by omega]
      have hil : i < D.cache.length := by have := hn.out; omega
      obtain ⟨⟨s', X⟩, hp⟩ : ∃ p, D.cache[i]? = some p := ⟨_, List.getElem?_eq_getElem hil⟩
      obtain ⟨hcb, ⟨cap', hcv', _⟩, hseg⟩ := HCA.out.seg H.out.ok.cache hp
      obtain ⟨rfl, rfl⟩ : a = some ⟨c, 0, none⟩ ∧ cap = cap' := by simpa using hcv'
      have hc0 := hseg 0 (.int .i64 s') rfl
      rw [Nat.add_zero] at hc0
      have HP := Lib.hid hp
      clear hcv' hseg hp
      by_cases he : s' = s
      · subst he
        have hm : D.read s' = X := lastOf_hit s' _ _ i _ HP.out rfl fun k q hk hq => HK.out k q hk hq
        have HM := Lib.hid hm
        have HJ2 := Lib.hid (pend_join HCA.out H.out.lt.2 H.out.ok.cache i s' X HP.out _ rfl)
        clear hm
        go_wp2_with (go_at_call 56; refine HJ2.out.mono ?_; rintro e w1 ⟨g, rfl, hg, hc, hf⟩)
        go_ret2
        exact ⟨g, rfl, hg, by rw [HM.out]; exact hc, hf⟩
      · have he' : ((s' : Int) == (s : Int)) = false := by simp; omega
        go_wp2
        go_roundg i
        case rel => exact ⟨i, by omega, rfl, rfl, rfl, Lib.hid (fun k p hk hq => by
          rcases Nat.eq_or_lt_of_le hk with rfl | hlt
          · rw [HP.out] at hq; cases hq; exact he
          · exact HK.out k p hlt hq)⟩
        case measure => omega
end
end Go.Proofs.Ytppllhdocajfiaa
