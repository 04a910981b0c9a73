/- raws; same2. -/
import Derived.Test.YtppllhdocajfiaaH1
set_option linter.unusedSimpArgs false
set_option linter.unusedVariables false
namespace Go.Proofs.Ytppllhdocajfiaa
open Go.RowKit

set_option maxRecDepth 100000 in
set_option maxHeartbeats 4000000 in
theorem raws_any {w w0 : World} {c : Nat} {D : Dk} (S : DSt w w0 c D) (a : Option Addr) (cap : Nat) (l : List PutD) (hl : PutsAt w0 (.slice a l.length cap) l) (hlen : l.length ≤ 4194304) :
    Calls Try.prog 31 #[.pointer (some ⟨w.heap.size, 0, none⟩), .slice a l.length cap] w0 fun e w' => ∃ v, e = .returned v ∧ RowsK w w' c v (l.map fun p => D.med (pl p.sector)) ∧ Fr No w0 w' := by
  obtain ⟨i0, hi, hz0, hz1, hz2⟩ := info_parts Try.info34
  obtain ⟨n, hn⟩ : ∃ n, Hid (l.length = n) := ⟨_, Lib.hid rfl⟩
  rw [hn.out] at hlen hl
  rw [hn.out]
  have HS := Lib.hid S
  have HL := Lib.hid hl
  clear S hl
  go_enter Try.func31, Try.ntmps31
  go_wp2
  go_loopg [5, 6] n (fun m v i wr => ∃ j : Nat, j ≤ n ∧ m + j = n ∧ i = .int .i64 j ∧ Hid (∃ vals, PushSt w0 wr v j ((l.take j).map fun p => D.med (pl p.sector)) vals))
  case atStart => exact ⟨0, by omega, by omega, rfl, Lib.hid ⟨[], PushSt.nil w0⟩⟩
  case round =>
    obtain ⟨j, hj, hm, rfl, HR⟩ := hrel
    by_cases hlt : j < n
    · obtain ⟨vals, hp⟩ := HR.out
      have hjl : j < l.length := by have := hn.out; omega
      obtain ⟨p, hpp⟩ : ∃ p, l[j]? = some p := ⟨_, List.getElem?_eq_getElem hjl⟩
      have HT : Hid (l.take (j + 1) = l.take j ++ [p]) := Lib.hid (by rw [List.take_add_one, hpp]; rfl)
      obtain ⟨g, o, ea, hg, hcells⟩ := HL.out.get' hpp
      subst ea
      have k0 := (hcells _ hp.fr).1
      have hgq : g < wr.heap.size := by have := hp.fr.size; omega
      have P := Lib.hid hp
      obtain ⟨u', hu'⟩ : ∃ u, u = u5 := ⟨_, rfl⟩
      subst hu'
      clear hp hcells hpp
      go_wp2_with fail
      refine (place_any _ _).mono ?_; rintro e w' ⟨rfl, rfl⟩
      go_wp2_with fail
      refine (Raw_any (HS.out.no P.out.fr).disk (pl p.sector) (pl_lt _)).mono ?_
      rintro e w1 ⟨g1, rfl, hg1, hh1, hf1⟩
      have HG := Lib.hid (And.intro hg1 (And.intro hh1 hf1))
      clear hg1 hh1 hf1
      go_wp2_with (with_reducible show wpList _ _ _ (Oper.mk (some 29) _ _ _ _ _ :: _) _ _; refine Stop.mk ?_)
      refine Stop.go ?_
      refine wpList_append_lies _ rfl (.tmp 26) (.tmp 28) 42 rfl w0.heap.size 34 i0 (.slice none 0 0) 1 24 Try.underlying42 hi hz0 hz1 hz2 rfl (by omega) u' j vals rfl ((own_fr P.out.own HG.out.2.2 (fun _ _ => id)).alloc _) ⟨w1.heap.size, 0, none⟩ 1 1 [.slice (some ⟨g1, 0, none⟩) 128 128] rfl rfl ?news ?one (by omega) (by unfold maxLen; omega) (by omega) (by have := P.out.fr.size; have := HG.out.2.2.size; simp; omega) (w1.heap.size + 1) (by simp) ?_
      case news => exact World.news_of_block (cs := #[.slice (some ⟨g1, 0, none⟩) 128 128]) (t := 34) (fr := (0, 0)) (heap_alloc_new w1 _)
      case one => intro v hv; simp at hv; subst hv; rfl
      intro g3 cap2 w3 hown3 hgrow hat hlt3
      have HH := Lib.hid (And.intro hown3 hgrow)
      clear hown3 hgrow hat hlt3
      go_wp2
      go_roundg (n - (j + 1))
      case rel =>
        refine ⟨j + 1, by omega, by omega, by go_num, Lib.hid ⟨vals ++ [.slice (some ⟨g1, 0, none⟩) 128 128], ?_⟩⟩
        rw [HT.out, List.map_append]
        exact P.out.step HG.out.2.2 HG.out.1 (HS.out.disk.ok.med _) HG.out.2.1 HH.out.1 HH.out.2
      case measure => omega
    · obtain rfl : n = j := by omega
      go_wp2
      go_ret
      obtain ⟨vals, hp⟩ := HR.out
      rw [List.take_of_length_le (by have := hn.out; omega)] at hp
      exact ⟨_, rfl, hp.rowsK HS.out.disk.lt.1 HS.out.disk.lt.2, hp.fr⟩

/-- What a fresh sector answers, compared with a list in memory. -/
theorem same_blk {w : World} {g : Nat} {v : Value} {X Y : List UInt8} (hg : w.heap[g]? = some (.cells (X.map bv).toArray 5 (0, 0))) (hX : X.length = 128) (hY : LAt w v (Y.map bv)) :
    Calls Try.prog 27 #[.slice (some ⟨g, 0, none⟩) 128 128, v] w fun e w' => e = .returned (.bool (X == Y)) ∧ w = w' :=
  same_any w _ v X Y (.inr ⟨⟨g, 0, none⟩, 128, by rw [List.length_map, hX], by rw [List.length_map, hX]; exact Nat.le_refl _, fun _ => ⟨g, 0, rfl, SegAt.of_block hg fun i u hu => by simpa using hu⟩⟩) hY

set_option maxRecDepth 100000 in
set_option maxHeartbeats 4000000 in
theorem same2_any {w w0 : World} {c : Nat} {D : Dk} (S : DSt w w0 c D) (hd : D.down = false) (hlen : D.cache.length ≤ 1000000000) (s : Nat) (hs : s < 1024) (v : Value) (X : List UInt8) (hv : LAt w0 v (X.map bv)) (h1 : D.med s = X) (h2 : D.read s = X) :
    Calls Try.prog 30 #[.pointer (some ⟨w.heap.size, 0, none⟩), .int .i64 s, v] w0 fun e w' => e = .returned (.bool true) ∧ Fr No w0 w' := by
  have HS := Lib.hid S
  have HV := Lib.hid hv
  have HX := Lib.hid (And.intro h1 h2)
  have hX : X.length = 128 := by rw [← h1]; exact S.disk.ok.med s
  clear S hv h1 h2
  go_enter Try.func30, Try.ntmps30
  go_wp2_with fail
  refine (Raw_any HS.out.disk s hs).mono ?_
  rintro e w1 ⟨g1, rfl, hg1, hh1, hf1⟩
  have S1 := Lib.hid (HS.out.no hf1)
  have HG := Lib.hid (And.intro hg1 (And.intro hh1 hf1))
  clear hg1 hh1 hf1
  go_wp2_with fail
  refine (Read_up S1.out.disk s hs hd (by omega)).mono ?_
  rintro e w2 ⟨g2, rfl, hg2, hh2, hf2⟩
  have HG2 := Lib.hid (And.intro hg2 (And.intro hh2 hf2))
  clear hg2 hh2 hf2
  go_wp2_with fail
  refine (same_blk (HG2.out.2.2.heap HG.out.2.1 id) (by rw [HX.out.1]; exact hX) ((HV.out.no HG.out.2.2).no HG2.out.2.2)).mono ?_
  rintro e w' ⟨rfl, rfl⟩
  rw [HX.out.1, show (X == X) = true by simp]
  go_wp2_with fail
  refine (same_blk HG2.out.2.1 (by rw [HX.out.2]; exact hX) ((HV.out.no HG.out.2.2).no HG2.out.2.2)).mono ?_
  rintro e w' ⟨rfl, rfl⟩
  rw [HX.out.2, show (X == X) = true by simp]
  go_wp2_with fail
  go_ret
  exact ⟨rfl, HG.out.2.2.trans HG2.out.2.2⟩
end Go.Proofs.Ytppllhdocajfiaa
