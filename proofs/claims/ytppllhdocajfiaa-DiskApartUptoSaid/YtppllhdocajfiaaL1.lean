/- The laws' own helpers: place, copied, flags, same, filled, full. -/
import Derived.Test.YtppllhdocajfiaaC9
import Derived.Test.YtppllhdocajfiaaC8
import Derived.Laws.BytesArg
import Derived.Laws.AppendOwnNone
set_option linter.unusedSimpArgs false
set_option linter.unusedVariables false
namespace Go.Proofs.Ytppllhdocajfiaa
open Go.RowKit

/-- A sector's number out of any number. -/
def pl (n : Int) : Nat := (n % 1024).toNat
theorem pl_lt (n : Int) : pl n < 1024 := by unfold pl; omega
theorem pl_of {n : Int} (h : 0 ≤ n ∧ n < 1024) : (pl n : Int) = n := by unfold pl; omega
theorem pl_word (n : Int) : wrap64 ((IntKind.u64.wrap n).tmod 1024) = (pl n : Int) := by
  have e : IntKind.u64.wrap n = n % 18446744073709551616 := by simp [IntKind.wrap, IntKind.bits, IntKind.signed]
  rw [e, Int.tmod_eq_emod_of_nonneg (by omega)]
  unfold wrap64 pl
  omega

theorem place_any (n : Int) (w : World) :
    Calls Try.prog 17 #[.int .i64 n] w fun e w' => e = .returned (.int .i64 (pl n)) ∧ w = w' := by
  go_enter Try.func17, Try.ntmps17
  go_wp2
  go_ret
  exact ⟨by rw [← pl_word n]; rfl, rfl⟩

theorem copied_any (w : World) (v : Value) (L : List Value) (hL : LAt w v L) (h1 : OneL L) (hlen : L.length ≤ 1073741824) :
    Calls Try.prog 28 #[v] w fun e w' => ∃ v', e = .returned v' ∧ w'.ownsRow w.heap.size 5 1 v' L.length L ∧ Fr No w w' := by
  obtain ⟨i0, hi, hz0, hz1, hz2⟩ := info_parts Try.info5
  have HL := Lib.hid hL
  rcases hL with ⟨rfl, rfl⟩ | ⟨a, cap, rfl, hc, hs⟩
  · go_enter Try.func28, Try.ntmps28
    go_wp2_with (with_reducible show wpList _ _ _ (Oper.mk (some 6) _ _ _ _ _ :: _) _ _; refine Stop.mk ?_)
    refine Stop.go ?_
    refine wpList_append_own_none rfl (.tmp 4) (.tmp 5) 34 rfl w.heap.size 5 i0 1 Try.underlying34 hi (.slice none 0 0) 0 [] rfl (World.ownsRow_nil w _ 5 1) rfl ?_
    go_wp2
    go_ret
    exact ⟨_, rfl, World.ownsRow_nil w _ 5 1, Fr.refl _ _⟩
  · go_enter Try.func28, Try.ntmps28
    go_wp2_with (with_reducible show wpList _ _ _ (Oper.mk (some 6) _ _ _ _ _ :: _) _ _; refine Stop.mk ?_)
    refine Stop.go ?_
    refine wpList_append_own _ rfl (.tmp 4) (.tmp 5) 34 rfl w.heap.size 5 i0 (.int .u8 0) 1 1 Try.underlying34 hi hz0 hz1 hz2 rfl (by omega) (.slice none 0 0) 0 [] rfl (World.ownsRow_nil w _ 5 1) a L.length cap L rfl (by omega) HL.out.news h1 (by unfold maxLen; omega) (by omega) (Nat.le_refl _) ?_
    intro v' w' hown hg _
    clear hs
    go_wp2
    go_ret
    exact ⟨v', rfl, by simpa using hown, Fr.grown (Fr.refl _ _) hg (by intro k hk; cases hk)⟩

theorem Try.info4 : (Try.prog.info? 4).map (fun i => (i.zero, i.size, i.bytes)) = some (some (.bool false), 1, 1) := by kernel_rfl
theorem flags_any (w : World) (v : Value) (L : List Value) (hL : LAt w v L) (h1 : OneL L) (hlen : L.length ≤ 1073741824) :
    Calls Try.prog 25 #[v] w fun e w' => ∃ v', e = .returned v' ∧ w'.ownsRow w.heap.size 4 1 v' L.length L ∧ Fr No w w' := by
  obtain ⟨i0, hi, hz0, hz1, hz2⟩ := info_parts Try.info4
  have HL := Lib.hid hL
  rcases hL with ⟨rfl, rfl⟩ | ⟨a, cap, rfl, hc, hs⟩
  · go_enter Try.func25, Try.ntmps25
    go_wp2_with (with_reducible show wpList _ _ _ (Oper.mk (some 6) _ _ _ _ _ :: _) _ _; refine Stop.mk ?_)
    refine Stop.go ?_
    refine wpList_append_own_none rfl (.tmp 4) (.tmp 5) 41 rfl w.heap.size 4 i0 1 Try.underlying41 hi (.slice none 0 0) 0 [] rfl (World.ownsRow_nil w _ 4 1) rfl ?_
    go_wp2
    go_ret
    exact ⟨_, rfl, World.ownsRow_nil w _ 4 1, Fr.refl _ _⟩
  · go_enter Try.func25, Try.ntmps25
    go_wp2_with (with_reducible show wpList _ _ _ (Oper.mk (some 6) _ _ _ _ _ :: _) _ _; refine Stop.mk ?_)
    refine Stop.go ?_
    refine wpList_append_own _ rfl (.tmp 4) (.tmp 5) 41 rfl w.heap.size 4 i0 (.bool false) 1 1 Try.underlying41 hi hz0 hz1 hz2 rfl (by omega) (.slice none 0 0) 0 [] rfl (World.ownsRow_nil w _ 4 1) a L.length cap L rfl (by omega) HL.out.news h1 (by unfold maxLen; omega) (by omega) (Nat.le_refl _) ?_
    intro v' w' hown hg _
    clear hs
    go_wp2
    go_ret
    exact ⟨v', rfl, by simpa using hown, Fr.grown (Fr.refl _ _) hg (by intro k hk; cases hk)⟩

theorem strOf_bytes (X : List UInt8) : strOfNums (X.map fun x => (x.toNat : Int)) = ⟨X.toArray⟩ := by
  unfold strOfNums
  rw [List.map_map]
  have : ((fun n : Int => UInt8.ofNat n.toNat) ∘ fun x : UInt8 => (x.toNat : Int)) = id := by
    funext x
    simp
  rw [this, List.map_id]
/-- The bytes as Go's conversion to a string takes them. -/
theorem conv_bytes {w : World} {v : Value} {X : List UInt8} (h : LAt w v (X.map bv)) : (convert 34 9 v).run Try.prog w = .ok (.string ⟨X.toArray⟩) w := by
  rcases h with ⟨rfl, h0⟩ | ⟨a, cap, rfl, _, hs⟩
  · obtain rfl : X = [] := by simpa using h0
    rw [run_convert_bytes_nil (P := Try.prog) w 34 5 Try.underlying34 Try.underlying5 0 0 9 Try.underlying9]
    rfl
  · by_cases hX : X = []
    · subst hX
      rw [run_convert_bytes_string (P := Try.prog) w 34 9 5 (some a) _ _ Try.underlying34 Try.underlying5 Try.underlying9]
      have := run_bytesToString (P := Try.prog) w a 0 cap [] (by simp [loadCells, loadCellsFrom])
      simp only [List.foldl_nil, List.length_map, List.length_nil] at this ⊢
      rw [this]
      rfl
    · have hl : 0 < X.length := by cases X with | nil => exact absurd rfl hX | cons => simp
      obtain ⟨g, o, rfl, hseg⟩ := hs (by simpa using hl)
      have := run_convert_bytes_arg (P := Try.prog) w 34 5 Try.underlying34 Try.underlying5 g o X.length cap (X.map fun x => (x.toNat : Int)) (by simp) (fun i hi => by
        rw [hseg i (bv (X.getD i 0)) (by simp [List.getD, List.getElem?_eq_getElem hi])]
        simp [bv, List.getD, List.getElem?_eq_getElem hi]) 9 Try.underlying9
      rw [List.length_map, this, strOf_bytes]

theorem same_any (w : World) (a b : Value) (X Y : List UInt8) (ha : LAt w a (X.map bv)) (hb : LAt w b (Y.map bv)) :
    Calls Try.prog 27 #[a, b] w fun e w' => e = .returned (.bool (X == Y)) ∧ w = w' := by
  have h1 := conv_bytes ha
  have h2 := conv_bytes hb
  clear ha hb
  go_enter Try.func27, Try.ntmps27
  go_wp2
  go_ret
  exact ⟨rfl, rfl⟩

/-- Bytes cut, or filled up with the last one (or 7), to a sector's length. -/
def fillB (X : List UInt8) : List UInt8 := (X ++ List.replicate (128 - X.length) (X.getLastD 7)).take 128
theorem fillB_length (X : List UInt8) : (fillB X).length = 128 := by simp [fillB]; omega

theorem fillB_eq (X : List UInt8) (k : Nat) (hk : 128 ≤ k) (h : k ≤ 128 ∨ k = X.length) : (X ++ List.replicate (k - X.length) (X.getLastD 7)).take 128 = fillB X := by
  unfold fillB
  rcases h with h | rfl
  · obtain rfl : k = 128 := by omega
    rfl
  · rw [Nat.sub_self, show 128 - X.length = 0 by omega]

set_option maxHeartbeats 1000000 in
set_option maxRecDepth 100000 in
theorem filled_any (w : World) (v : Value) (X : List UInt8) (hL : LAt w v (X.map bv)) (hlen : X.length ≤ 1073741824) :
    Calls Try.prog 54 #[v] w fun e w' => ∃ g cap, e = .returned (.slice (some ⟨g, 0, none⟩) 128 cap) ∧ w'.ownsRow w.heap.size 5 1 (.slice (some ⟨g, 0, none⟩) 128 cap) 128 ((fillB X).map bv) ∧ Fr No w w' := by
  obtain ⟨i0, hi, hz0, hz1, hz2⟩ := info_parts Try.info5
  have HC := Lib.hid (copied_any w v _ hL (bvs_one X) (by simpa using hlen))
  obtain ⟨n, hn⟩ : ∃ n, Hid (X.length = n) := ⟨_, Lib.hid rfl⟩
  rw [hn.out] at hlen
  clear hL
  go_enter Try.func54, Try.ntmps54
  go_wp2_with (go_at_call 28; refine HC.out.mono ?_; rintro e w1 ⟨v1, rfl, hown, hf⟩; refine Stop.mk ?_)
  refine Stop.go ?_
  rw [List.length_map, hn.out] at hown
  obtain ⟨a1, cap1, rfl, hform⟩ := own_slice hown
  have HO := Lib.hid hown
  have HF := Lib.hid hf
  clear hown hf HC
  obtain ⟨z, hz⟩ : ∃ z, Hid (z = X.getLastD 7) := ⟨_, Lib.hid rfl⟩
  by_cases h0 : n = 0
  · subst h0
    have hX : X = [] := List.eq_nil_of_length_eq_zero hn.out
    have hz7 : Hid (Value.int .u8 7 = .int .u8 (z.toNat : Int)) := Lib.hid (by rw [hz.out, hX]; rfl)
    have HX := Lib.hid hX
    clear hform hX
    go_wp2
    rw [hz7.out]
    go_loopg [3] 128 (fun m v wr => ∃ (k cap' : Nat) (a' : Option Addr), v = .slice a' k cap' ∧ 0 ≤ k ∧ m = 128 - k ∧ (k ≤ 128 ∨ k = 0) ∧ Hid (wr.ownsRow w.heap.size 5 1 (.slice a' k cap') k ((X ++ List.replicate (k - X.length) z).map bv) ∧ Fr No w wr))
    case atStart => exact ⟨0, cap1, _, rfl, Nat.le_refl _, rfl, .inr rfl, Lib.hid ⟨by have := HO.out; rw [HX.out]; rw [HX.out] at this; simpa using this, HF.out⟩⟩
    case round =>
      obtain ⟨k, cap', a', rfl, hk, rfl, hkn, HR⟩ := hrel
      by_cases hlt : k < 128
      · go_wp2_with (with_reducible show wpList _ _ _ (Oper.mk (some 22) _ _ _ _ _ :: _) _ _; refine Stop.mk ?_)
        refine Stop.go ?_
        refine wpList_append_lies _ rfl (.tmp 19) (.tmp 21) 34 rfl w.heap.size 5 i0 (.int .u8 0) 1 1 Try.underlying34 hi hz0 hz1 hz2 rfl (by omega) (.slice a' k cap') k ((X ++ List.replicate (k - X.length) z).map bv) rfl (HR.out.1.alloc _) ⟨wr.heap.size, 0, none⟩ 1 1 [.int .u8 (z.toNat : Int)] rfl rfl ?newsA ?oneA (by omega) (by unfold maxLen; omega) (by omega) (by have := HR.out.2.size; simp; omega) (wr.heap.size + 1) (by simp) ?_
        case newsA => exact World.news_of_block (cs := #[.int .u8 (z.toNat : Int)]) (t := 5) (fr := (0, 0)) (heap_alloc_new wr _)
        case oneA => intro v hv; simp at hv; subst hv; rfl
        intro g cap2 w3 hown3 hgrow hat hlt3
        have HH := Lib.hid (And.intro hown3 hgrow)
        clear hown3 hgrow hat hlt3
        go_wp2
        go_roundg (128 - (k + 1))
        case rel =>
          refine ⟨k + 1, cap2, some ⟨g, 0, none⟩, rfl, by omega, rfl, .inl (by omega), Lib.hid ⟨?_, ?_⟩⟩
          · have := HH.out.1
            have e := hn.out
            rw [show k + 1 - X.length = (k - X.length) + 1 by omega, List.replicate_succ', ← List.append_assoc, List.map_append]
            exact this
          · refine Fr.grown (HR.out.2.alloc _) HH.out.2 ?_
            intro i hi
            exact .inr (HR.out.1.lt i hi).1
        case measure => omega
      · obtain ⟨g2, rfl, hc2, hg2, hg2'⟩ : ∃ g, a' = some ⟨g, 0, none⟩ ∧ k ≤ cap' ∧ w.heap.size ≤ g ∧ g < wr.heap.size := by
          obtain ⟨_, _, e, hh⟩ := own_slice HR.out.1
          simp only [Value.slice.injEq] at e
          obtain ⟨rfl, _, rfl⟩ := e
          exact hh (by omega)
        have hc3 : (128 : Int) ≤ cap' := by omega
        go_wp2
        go_ret
        refine ⟨g2, cap', rfl, ?_, HR.out.2⟩
        have := own_cut HR.out.1 (m := 128) (by omega)
        have e := hn.out
        rw [← List.map_take, hz.out, fillB_eq X k (by omega) (by omega)] at this
        exact this
  · obtain ⟨g1, rfl, hc1, hg1, hg1'⟩ := hform (by omega)
    have hd0 : decide (0 < n) = true := by simp; omega
    have hcl : w1.cell? ⟨g1, n - 1, none⟩ = some (.int .u8 (z.toNat : Int)) := own_cell HO.out (by
      have := hn.out
      rw [hz.out, List.getElem?_map, List.getLastD_eq_getLast?, List.getLast?_eq_getElem?, this]
      simp [bv, List.getElem?_eq_getElem (show n - 1 < X.length by omega)])
    go_wp2
    go_loopg [3] (128 - n) (fun m v wr => ∃ (k cap' : Nat) (a' : Option Addr), v = .slice a' k cap' ∧ n ≤ k ∧ m = 128 - k ∧ (k ≤ 128 ∨ k = n) ∧ Hid (wr.ownsRow w.heap.size 5 1 (.slice a' k cap') k ((X ++ List.replicate (k - X.length) z).map bv) ∧ Fr No w wr))
    case atStart => exact ⟨n, cap1, _, rfl, Nat.le_refl _, rfl, .inr rfl, Lib.hid ⟨by have := HO.out; have e := hn.out; rw [e, Nat.sub_self]; simpa using this, HF.out⟩⟩
    case round =>
      obtain ⟨k, cap', a', rfl, hk, rfl, hkn, HR⟩ := hrel
      by_cases hlt : k < 128
      · go_wp2_with (with_reducible show wpList _ _ _ (Oper.mk (some 22) _ _ _ _ _ :: _) _ _; refine Stop.mk ?_)
        refine Stop.go ?_
        refine wpList_append_lies _ rfl (.tmp 19) (.tmp 21) 34 rfl w.heap.size 5 i0 (.int .u8 0) 1 1 Try.underlying34 hi hz0 hz1 hz2 rfl (by omega) (.slice a' k cap') k ((X ++ List.replicate (k - X.length) z).map bv) rfl (HR.out.1.alloc _) ⟨wr.heap.size, 0, none⟩ 1 1 [.int .u8 (z.toNat : Int)] rfl rfl ?newsB ?oneB (by omega) (by unfold maxLen; omega) (by omega) (by have := HR.out.2.size; simp; omega) (wr.heap.size + 1) (by simp) ?_
        case newsB => exact World.news_of_block (cs := #[.int .u8 (z.toNat : Int)]) (t := 5) (fr := (0, 0)) (heap_alloc_new wr _)
        case oneB => intro v hv; simp at hv; subst hv; rfl
        intro g cap2 w3 hown3 hgrow hat hlt3
        have HH := Lib.hid (And.intro hown3 hgrow)
        clear hown3 hgrow hat hlt3
        go_wp2
        go_roundg (128 - (k + 1))
        case rel =>
          refine ⟨k + 1, cap2, some ⟨g, 0, none⟩, rfl, by omega, rfl, .inl (by omega), Lib.hid ⟨?_, ?_⟩⟩
          · have := HH.out.1
            have e := hn.out
            rw [show k + 1 - X.length = (k - X.length) + 1 by omega, List.replicate_succ', ← List.append_assoc, List.map_append]
            exact this
          · refine Fr.grown (HR.out.2.alloc _) HH.out.2 ?_
            intro i hi
            exact .inr (HR.out.1.lt i hi).1
        case measure => omega
      · obtain ⟨g2, rfl, hc2, hg2, hg2'⟩ : ∃ g, a' = some ⟨g, 0, none⟩ ∧ k ≤ cap' ∧ w.heap.size ≤ g ∧ g < wr.heap.size := by
          obtain ⟨_, _, e, hh⟩ := own_slice HR.out.1
          simp only [Value.slice.injEq] at e
          obtain ⟨rfl, _, rfl⟩ := e
          exact hh (by omega)
        have hc3 : (128 : Int) ≤ cap' := by omega
        go_wp2
        go_ret
        refine ⟨g2, cap', rfl, ?_, HR.out.2⟩
        have := own_cut HR.out.1 (m := 128) (by omega)
        have e := hn.out
        rw [← List.map_take, hz.out, fillB_eq X k (by omega) (by omega)] at this
        exact this

theorem fillB_one (x : UInt8) : fillB [x] = List.replicate 128 x := by
  unfold fillB
  rfl

/-- A sector of one byte, in new memory. -/
theorem full_any (w : World) (x : UInt8) :
    Calls Try.prog 18 #[.int .u8 (x.toNat : Int)] w fun e w' => ∃ g cap, e = .returned (.slice (some ⟨g, 0, none⟩) 128 cap) ∧ w'.ownsRow w.heap.size 5 1 (.slice (some ⟨g, 0, none⟩) 128 cap) 128 ((List.replicate 128 x).map bv) ∧ Fr No w w' := by
  have HC := Lib.hid (filled_any (w.alloc (.cells #[.int .u8 (x.toNat : Int)] 5)) (.slice (some ⟨w.heap.size, 0, none⟩) 1 1) [x] (.inr ⟨_, _, rfl, by simp, fun _ => ⟨_, _, rfl, SegAt.of_block (heap_alloc_new w _) (fun j v hv => by simpa [bv] using hv)⟩⟩) (by simp))
  go_enter Try.func18, Try.ntmps18
  go_wp2_with (go_at_call 54; refine HC.out.mono ?_; rintro e w1 ⟨g, cap, rfl, hown, hf⟩)
  go_ret
  rw [fillB_one] at hown
  refine ⟨g, cap, rfl, ?_, ((Fr.refl _ _).alloc _).trans hf⟩
  obtain ⟨h1, h2⟩ := hown
  refine ⟨h1, ?_⟩
  rcases h2 with ⟨h, _⟩ | ⟨g', cap', cur, h, hb, r⟩
  · cases h
  · exact .inr ⟨g', cap', cur, h, by simp at hb; omega, r⟩
end Go.Proofs.Ytppllhdocajfiaa
