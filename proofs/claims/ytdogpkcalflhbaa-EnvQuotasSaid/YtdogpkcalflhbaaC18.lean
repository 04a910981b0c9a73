/- walk. -/
import Derived.Test.YtdogpkcalflhbaaP2
import Derived.Test.YtdogpkcalflhbaaC13
set_option linter.unusedSimpArgs false
set_option linter.unusedVariables false
namespace Go.Proofs.Ytdogpkcalflhbaa
open Go.RowKit

/-- A list of the call's own, longer than the one that was handed in. -/
structure Walked (w : World) (base : Nat) (v : Value) (l : List Nat) (v' : Value) (w' : World) : Prop where
  own : w'.ownsRow base 3 1 v' l.length (kidv l)
  fr : Fr (fun k => v.ownBlock = some k) w w'
  blk : ∀ g, v'.ownBlock = some g → v.ownBlock = some g ∨ w.heap.size ≤ g
theorem kidv_append (l m : List Nat) : kidv (l ++ m) = kidv l ++ kidv m := by simp [kidv]
section
variable {b : Nat} {L : Lay} {T : Tb}
theorem TabAt.walked {w w' : World} {base : Nat} {v v' : Value} {l : List Nat} (h : TabAt w b L T) (hv : ∀ g, v.ownBlock = some g → ¬ Own L g) (k : Walked w base v l v' w') : TabAt w' b L T :=
  h.keep k.fr fun g hg hx => hv g hx hg
theorem Walked.away {w w' : World} {base : Nat} {v v' : Value} {l : List Nat} (h : TabAt w b L T) (hv : ∀ g, v.ownBlock = some g → ¬ Own L g) (k : Walked w base v l v' w') : ∀ g, v'.ownBlock = some g → ¬ Own L g := fun g hg ho => by
  rcases k.blk g hg with h1 | h1
  · exact hv g h1 ho
  · have := h.flt g ho; omega
theorem Walked.then {w w1 w2 : World} {base : Nat} {v v1 v2 : Value} {l1 l2 : List Nat} (h1 : Walked w base v l1 v1 w1) (h2 : Walked w1 base v1 l2 v2 w2) : Walked w base v l2 v2 w2 :=
  ⟨h2.own, h1.fr.then h2.fr fun i hi hx => by
    rcases h1.blk i hx with h | h
    · exact h
    · omega, fun g hg => by
    rcases h2.blk g hg with h | h
    · exact h1.blk g h
    · have := h1.fr.size; exact .inr (by omega)⟩
theorem Walked.no {w w1 w2 : World} {base : Nat} {v v1 : Value} {l1 : List Nat} (h1 : Walked w base v l1 v1 w1) (hf : Fr No w1 w2) : Walked w base v l1 v1 w2 :=
  ⟨own_fr h1.own hf fun _ _ => id, h1.fr.then hf fun _ _ h => h.elim, h1.blk⟩

set_option maxHeartbeats 4000000 in
theorem walk_any : ∀ (N : Nat) (w : World) (e : Nat) (t : List Nat) (v : Value) (l0 : List Nat) (base : Nat), TabAt w b L T → Forest T [e] t → t.length ≤ N → w.ownsRow base 3 1 v l0.length (kidv l0) → base ≤ w.heap.size →
    (∀ g, v.ownBlock = some g → ¬ Own L g) → l0.length + t.length ≤ 1000 →
    Calls Try.prog 40 #[.pointer (some ⟨b, 0, none⟩), .int .i64 (e : Int), v] w fun r w' => ∃ v', r = .returned v' ∧ Walked w base v (l0 ++ t) v' w' := by
  intro N
  induction N with
  | zero =>
    intro w e t v l0 base h hf hN
    cases hf with
    | cons h1 h2 h3 => simp at hN
  | succ N ih =>
    intro w e t v l0 base h hf hN hv hbase haw hlen
    obtain ⟨r, a, he, hka, rfl⟩ : ∃ r a, T.live e = some r ∧ Forest T r.kids a ∧ t = e :: a := by
      cases hf with
      | @cons _ r _ a c h1 h2 h3 =>
        cases h3
        exact ⟨r, a, h1, h2, by simp⟩
    obtain ⟨i3, hi3, hz30, hz31, hz32⟩ := info_parts Try.info3
    simp only [List.length_cons] at hN hlen
    have H := Lib.hid h
    have HV := Lib.hid hv
    have HAW := Lib.hid haw
    have HE := Lib.hid he
    have HKA := Lib.hid hka
    have HIH := Lib.hid ih
    obtain ⟨n0, hn0⟩ : ∃ n, l0.length = n := ⟨_, rfl⟩
    rw [hn0] at HV hlen
    have HN0 := Lib.hid hn0
    clear h hf hv haw he hka ih hn0
    go_enter Try.func40, Try.ntmps40
    go_wp2_with (with_reducible show wpList _ _ _ (Oper.mk (some 12) _ _ _ _ _ :: _) _ _; refine Stop.mk ?_)
    obtain ⟨W, hW⟩ : ∃ W, W = w.alloc (.cells #[.int .i64 (e : Int)] 3) := ⟨_, rfl⟩
    rw [← hW]
    have HA : Hid (Fr No w W ∧ W.heap[w.heap.size]? = some (.cells #[.int .i64 (e : Int)] 3 (0, 0)) ∧ W.heap.size = w.heap.size + 1) := Lib.hid (by rw [hW]; exact ⟨(Fr.refl _ _).alloc _, heap_alloc_new _ _, by simp⟩)
    clear hW
    refine Stop.go ?_
    refine wpList_append_lies _ rfl (.tmp 9) (.tmp 11) 22 rfl base 3 i3 (.int .i64 0) 1 8 Try.underlying22 hi3 hz30 hz31 hz32 rfl (by omega) v n0 (kidv l0) rfl (own_fr HV.out HA.out.1 fun _ _ => id) ⟨w.heap.size, 0, none⟩ 1 1 [.int .i64 (e : Int)] rfl rfl ?news ?one (by omega) (by unfold maxLen; omega) (by omega) (by have := HA.out.2.2; omega) (w.heap.size + 1) (by rw [HA.out.2.2]) ?_
    case news => exact World.news_of_block (cs := #[.int .i64 (e : Int)]) (t := 3) (fr := (0, 0)) HA.out.2.1
    case one => intro u hu; simp at hu; subst hu; rfl
    intro g1 cap1 w1 hown1 hgrow1 hat1 hlt1
    have HW1 : Hid (Walked w base v (l0 ++ [e]) (.slice (some ⟨g1, 0, none⟩) (n0 + 1) cap1) w1) := Lib.hid ⟨by rw [List.length_append, HN0.out, kidv_append]; exact hown1, Fr.grown (HA.out.1.mono fun _ _ h => h.elim) hgrow1 fun k hk => .inl hk, fun g hg => by
      simp only [Value.ownBlock, Option.some.injEq] at hg
      subst hg
      rcases hat1 with h | h
      · exact .inl h
      · exact .inr (by omega)⟩
    have HT1 := Lib.hid (H.out.walked HAW.out HW1.out)
    have h1 := HT1.out.head
    clear hown1 hgrow1 hat1 hlt1
    go_wp2_with fail
    refine (at_some HT1.out HE.out).mono ?_
    rintro x w2 ⟨rfl, hf2⟩
    have HW2 := Lib.hid (HW1.out.no hf2)
    have HT2 := Lib.hid (HT1.out.no hf2)
    obtain ⟨ak, capk, hkv, hk0⟩ := own_slice (HT2.out.hkb e r HE.out)
    have HKV := Lib.hid hkv
    have HK0 := Lib.hid hk0
    have c30 := HT2.out.c30 HE.out
    rw [hkv] at c30
    have lt2 := HT2.out.ltRec HE.out
    clear hf2 hkv hk0
    obtain ⟨nk, hnk⟩ : ∃ nk, r.kids.length = nk := ⟨_, rfl⟩
    rw [hnk] at c30 HKV HK0
    have HNK := Lib.hid hnk
    have hnk16 : Hid (nk ≤ 1000) := Lib.hid (by
      have h1 : r.kids.length ≤ a.length := by
        have hl : ∀ (es l : List Nat), Forest T es l → es.length ≤ l.length := by
          intro es l hf
          induction hf with
          | nil => simp
          | cons h1 h2 h3 ih1 ih2 => simp only [List.length_cons, List.length_append]; omega
        exact hl _ _ HKA.out
      omega)
    clear hnk
    have hnkb : nk ≤ 1000 := hnk16.out
    go_wp2_with fail
    go_loopg [2, 23] nk (fun m vi i wr => ∃ (j : Nat) (a1 rest : List Nat), j ≤ nk ∧ m + j = nk ∧ i = .int .i64 j ∧ Hid (a = a1 ++ rest) ∧ Hid (Forest T (r.kids.drop j) rest) ∧ Hid (Walked w base v (l0 ++ e :: a1) vi wr))
    case atStart => exact ⟨0, [], a, by omega, by omega, rfl, Lib.hid rfl, Lib.hid (by simpa using HKA.out), HW2⟩
    case round =>
      obtain ⟨j, a1, rest, hj, hm, rfl, HR1, HR2, HR3⟩ := hrel
      by_cases hlt : j < nk
      · obtain ⟨c, hc⟩ : ∃ c, r.kids[j]? = some c := ⟨_, List.getElem?_eq_getElem (by rw [HNK.out]; exact hlt)⟩
        obtain ⟨gq, rfl, _⟩ := HK0.out (by omega)
        have HTR := Lib.hid (H.out.walked HAW.out HR3.out)
        have hcell : wr.cell? ⟨gq, j, none⟩ = some (.int .i64 (c : Int)) := by
          have h1 := HTR.out.hkb e r HE.out
          rw [HKV.out, HNK.out] at h1
          exact own_cell h1 (by unfold kidv; rw [List.getElem?_map, hc]; rfl)
        have hcg : gq < wr.heap.size := World.block_lt_of_cell? _ _ hcell
        have hdrop : r.kids.drop j = c :: r.kids.drop (j + 1) := by
          obtain ⟨h1, h2⟩ := List.getElem?_eq_some_iff.1 hc
          rw [List.drop_eq_getElem_cons h1, h2]
        have HF := HR2.out
        rw [hdrop] at HF
        obtain ⟨rc, ac, cc, hrc, hac, hcc, hrest⟩ : ∃ rc ac cc, T.live c = some rc ∧ Forest T rc.kids ac ∧ Forest T (r.kids.drop (j + 1)) cc ∧ rest = c :: (ac ++ cc) := by
          cases HF with
          | @cons _ rc _ ac cc h1 h2 h3 => exact ⟨rc, ac, cc, h1, h2, h3, rfl⟩
        have hlens : a.length = a1.length + (1 + (ac.length + cc.length)) := by rw [HR1.out, hrest]; simp; omega
        have HT : Hid (Forest T [c] (c :: ac)) := Lib.hid (by
          have := Forest.cons hrc hac .nil
          simpa using this)
        have HCC := Lib.hid hcc
        have HA2 : Hid (a = (a1 ++ c :: ac) ++ cc) := Lib.hid (by rw [HR1.out, hrest]; simp)
        have HC := Lib.hid (HIH.out wr c (c :: ac) u2 (l0 ++ e :: a1) base HTR.out HT.out (by simp only [List.length_cons]; omega) HR3.out.own (by have := HR3.out.fr.size; omega) (HR3.out.away H.out HAW.out) (by simp only [List.length_append, List.length_cons]; rw [HN0.out]; omega))
        clear hc hdrop HF hrc hac hcc hrest hlens
        go_wp2_with fail
        refine HC.out.mono ?_
        rintro x w4 ⟨v4, rfl, hw4⟩
        have HW4 := Lib.hid (HR3.out.then hw4)
        clear hw4
        go_wp2_with fail
        go_roundg (nk - (j + 1))
        case rel =>
          refine ⟨j + 1, a1 ++ c :: ac, cc, by omega, by omega, by go_num, HA2, HCC, Lib.hid ?_⟩
          have := HW4.out
          rw [List.append_assoc] at this
          simpa using this
        case measure => omega
      · obtain rfl : j = nk := by omega
        have hrest : rest = [] := by
          have h1 := HR2.out
          rw [List.drop_eq_nil_of_le (by rw [HNK.out]; omega)] at h1
          cases h1
          rfl
        have HFIN : Hid (Walked w base v (l0 ++ e :: a) u2 wr) := Lib.hid (by
          have := HR3.out
          rw [HR1.out, hrest, List.append_nil]
          exact this)
        clear hrest
        go_wp2_with fail
        go_ret
        exact ⟨_, rfl, HFIN.out⟩
end
end Go.Proofs.Ytdogpkcalflhbaa
