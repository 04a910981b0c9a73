/- among; next; lastKept. -/
import Derived.Test.YtppllhdocajfiaaS1
set_option linter.unusedSimpArgs false
set_option linter.unusedVariables false
namespace Go.Proofs.Ytppllhdocajfiaa
open Go.RowKit

set_option maxRecDepth 100000 in
set_option maxHeartbeats 4000000 in
theorem among_any (w : World) (a : Option Addr) (cap : Nat) (l : List PutD) (hl : PutsAt w (.slice a l.length cap) l) (hlen : l.length ≤ 4194304) (s : Nat) :
    Calls Try.prog 34 #[.slice a l.length cap, .int .i64 s] w fun e w' => e = .returned (.bool (l.any fun p => pl p.sector == s)) ∧ Fr No w w' := by
  obtain ⟨n, hn⟩ : ∃ n, Hid (l.length = n) := ⟨_, Lib.hid rfl⟩
  rw [hn.out] at hlen hl
  rw [hn.out]
  have HL := Lib.hid hl
  clear hl
  go_enter Try.func34, Try.ntmps34
  go_wp2
  go_loopg [5] n (fun m i wr => ∃ j : Nat, j ≤ n ∧ m + j = n ∧ i = .int .i64 j ∧ Hid (Fr No w wr ∧ ((l.take j).any fun p => pl p.sector == s) = false))
  case atStart => exact ⟨0, by omega, by omega, rfl, Lib.hid ⟨Fr.refl _ _, by simp⟩⟩
  case round =>
    obtain ⟨j, hj, hm, rfl, HR⟩ := hrel
    by_cases hlt : j < n
    · have hjl : j < l.length := by have := hn.out; omega
      obtain ⟨p, hpp⟩ : ∃ p, l[j]? = some p := ⟨_, List.getElem?_eq_getElem hjl⟩
      have HT : Hid (l.take (j + 1) = l.take j ++ [p]) := Lib.hid (by rw [List.take_add_one, hpp]; rfl)
      have HM := Lib.hid (List.mem_of_getElem? hpp)
      obtain ⟨g, o, ea, hg, hcells⟩ := HL.out.get' hpp
      subst ea
      have k0 := (hcells _ HR.out.1).1
      have hgq : g < wr.heap.size := by have := HR.out.1.size; omega
      clear hcells hpp
      have hb := pl_lt p.sector
      by_cases hs : pl p.sector = s
      · subst hs
        go_wp2_with fail
        refine (place_any _ _).mono ?_; rintro e w' ⟨rfl, rfl⟩
        go_wp2_with fail
        go_ret
        refine ⟨?_, HR.out.1⟩
        rw [List.any_eq_true.2 ⟨p, HM.out, by simp⟩]; rfl
      · have hs' : ((pl p.sector : Int) == (s : Int)) = false := by simpa using fun e => hs (by omega)
        go_wp2_with fail
        refine (place_any _ _).mono ?_; rintro e w' ⟨rfl, rfl⟩
        go_wp2_with fail
        go_roundg (n - (j + 1))
        case rel =>
          refine ⟨j + 1, by omega, by omega, by go_num, Lib.hid ⟨HR.out.1, ?_⟩⟩
          rw [HT.out, List.any_append, HR.out.2]
          simpa using hs
        case measure => omega
    · obtain rfl : n = j := by omega
      go_wp2
      go_ret
      have h2 := HR.out.2
      rw [List.take_of_length_le (by have := hn.out; omega)] at h2
      exact ⟨by rw [h2]; rfl, HR.out.1⟩

def nextP (p : PutD) : PutD := ⟨(pl p.sector : Int) + 1, 0⟩
theorem Try.info30 : (Try.prog.info? 30).map (fun i => (i.zero, i.size, i.bytes)) = some (some (.agg #[.int .i64 0, .int .u8 0]), 2, 16) := by kernel_rfl

set_option maxRecDepth 100000 in
set_option maxHeartbeats 4000000 in
theorem next_any (w : World) (a : Option Addr) (cap : Nat) (l : List PutD) (hl : PutsAt w (.slice a l.length cap) l) (hlen : l.length ≤ 4194304) :
    Calls Try.prog 32 #[.slice a l.length cap] w fun e w' => ∃ v, e = .returned v ∧ w'.ownsRow w.heap.size 30 2 v l.length ((l.map nextP).flatMap putcells) ∧ Fr No w w' := by
  obtain ⟨i0, hi, hz0, hz1, hz2⟩ := info_parts Try.info30
  obtain ⟨n, hn⟩ : ∃ n, Hid (l.length = n) := ⟨_, Lib.hid rfl⟩
  rw [hn.out] at hlen hl
  rw [hn.out]
  have HL := Lib.hid hl
  clear hl
  go_enter Try.func32, Try.ntmps32
  go_wp2
  go_loopg [3, 4] n (fun m v i wr => ∃ j : Nat, j ≤ n ∧ m + j = n ∧ i = .int .i64 j ∧ Hid (wr.ownsRow w.heap.size 30 2 v j (((l.take j).map nextP).flatMap putcells) ∧ Fr No w wr))
  case atStart => exact ⟨0, by omega, by omega, rfl, Lib.hid ⟨by simpa using World.ownsRow_nil w w.heap.size 30 2, Fr.refl _ _⟩⟩
  case round =>
    obtain ⟨j, hj, hm, rfl, HR⟩ := hrel
    by_cases hlt : j < n
    · have hjl : j < l.length := by have := hn.out; omega
      obtain ⟨p, hpp⟩ : ∃ p, l[j]? = some p := ⟨_, List.getElem?_eq_getElem hjl⟩
      have HT : Hid (l.take (j + 1) = l.take j ++ [p]) := Lib.hid (by rw [List.take_add_one, hpp]; rfl)
      obtain ⟨g, o, ea, hg, hcells⟩ := HL.out.get' hpp
      subst ea
      have k0 := (hcells _ HR.out.2).1
      have hgq : g < wr.heap.size := by have := HR.out.2.size; omega
      clear hcells hpp
      have hb := pl_lt p.sector
      obtain ⟨u', hu'⟩ : ∃ u, u = u3 := ⟨_, rfl⟩
      subst hu'
      go_wp2_with fail
      refine (place_any _ _).mono ?_; rintro e w' ⟨rfl, rfl⟩
      go_wp2_with (with_reducible show wpList _ _ _ (Oper.mk (some 21) _ _ _ _ _ :: _) _ _; refine Stop.mk ?_)
      refine Stop.go ?_
      refine wpList_append_lies _ rfl (.tmp 11) (.tmp 20) 23 rfl w.heap.size 30 i0 (.agg #[.int .i64 0, .int .u8 0]) 2 16 Try.underlying23 hi hz0 hz1 hz2 rfl (by omega) u' j (((l.take j).map nextP).flatMap putcells) rfl (HR.out.1.alloc _) ⟨wr.heap.size, 0, none⟩ 1 1 [.int .i64 ((pl p.sector : Int) + 1), .int .u8 0] rfl rfl ?news ?one (by omega) (by unfold maxLen; omega) (by omega) (by have := HR.out.2.size; simp; omega) (wr.heap.size + 1) (by simp) ?_
      case news => exact World.news_of_block (cs := #[.int .i64 ((pl p.sector : Int) + 1), .int .u8 0]) (t := 30) (fr := (0, 0)) (heap_alloc_new wr _)
      case one => intro v hv; simp at hv; rcases hv with rfl | rfl <;> rfl
      intro g3 cap2 w3 hown3 hgrow hat hlt3
      have HH := Lib.hid (And.intro hown3 hgrow)
      clear hown3 hgrow hat hlt3
      go_wp2
      go_roundg (n - (j + 1))
      case rel =>
        refine ⟨j + 1, by omega, by omega, by go_num, Lib.hid ⟨?_, Fr.grown (HR.out.2.alloc _) HH.out.2 fun k hk => .inr (HR.out.1.lt k hk).1⟩⟩
        have := HH.out.1
        rw [HT.out]
        simpa [nextP, putcells, List.flatMap_append] using this
      case measure => omega
    · obtain rfl : n = j := by omega
      go_wp2
      go_ret
      obtain ⟨hown, hf⟩ := HR.out
      rw [List.take_of_length_le (by have := hn.out; omega)] at hown
      exact ⟨_, rfl, hown, hf⟩
end Go.Proofs.Ytppllhdocajfiaa
