/- Medium; Of. -/
import Derived.Test.YtppllhdocajfiaaE0
import Derived.IntWalk
set_option linter.unusedSimpArgs false
set_option linter.unusedVariables false
namespace Go.Proofs.Ytppllhdocajfiaa
open Go.RowKit

/-- The medium's bytes. -/
def Dk.flat (D : Dk) : List UInt8 := (List.range 1024).flatMap D.med
theorem flat_len {D : Dk} (h : D.Ok) : D.flat.length = 131072 := by
  unfold Dk.flat
  rw [flat_length D.med 128 _ fun s _ => h.med s, List.length_range]
theorem flat_at {D : Dk} (h : D.Ok) {s j : Nat} (hs : s < 1024) (hj : j < 128) : D.flat[s * 128 + j]? = (D.med s)[j]? :=
  flat_get D.med 128 (List.range 1024) (fun s _ => h.med s) s j s (by simp [hs]) hj
theorem flat_sector {D : Dk} (h : D.Ok) {s : Nat} (hs : s < 1024) : (D.flat.drop (s * 128)).take 128 = D.med s := by
  apply List.ext_getElem?
  intro j
  rw [List.getElem?_take]
  split
  · rw [List.getElem?_drop, flat_at h hs (by assumption)]
  · exact (List.getElem?_eq_none (by rw [h.med]; omega)).symm

set_option maxRecDepth 100000 in
set_option maxHeartbeats 4000000 in
theorem Medium_any {w : World} {b c : Nat} {D : Dk} (h : DiskAt w b c D) :
    Calls Try.prog 36 #[.pointer (some ⟨b, 0, none⟩)] w fun e w' => ∃ g, e = .returned (.slice (some ⟨g, 0, none⟩) 131072 131072) ∧ w.heap.size ≤ g ∧ w'.heap[g]? = some (.cells (D.flat.map bv).toArray 5 (0, 0)) ∧ Fr No w w' := by
  obtain ⟨i0, hi, hz0, hz1, hz2⟩ := info_parts Try.info34
  have H := Lib.hid h
  have hbw := h.lt.1
  clear h
  go_enter Try.func36, Try.ntmps36
  go_wp2_with (with_reducible show wpList _ _ _ (Oper.mk (some 5) _ _ _ _ _ :: _) _ _; refine Stop.mk ?_)
  refine Stop.go ?_
  refine wpList_make_full _ rfl _ _ 42 rfl w.heap.size 34 i0 (.slice none 0 0) 1 Try.underlying42 hi hz0 hz1 _ _ _ _ 1024 rfl rfl rfl rfl ?bytes ?maxlen ?base ?_
  case bytes => rw [hz2]; omega
  case maxlen => unfold maxLen; omega
  case base => exact Nat.le_refl _
  intro w1 hown1 hg1
  have HF1 : Hid (Fr No w w1) := Lib.hid (Fr.grown (Fr.refl _ _) hg1 fun k h => by cases h)
  have HC1 : Hid (∃ cur, w1.heap[w.heap.size]? = some (.cells cur 34 (0, 0)) ∧ cur.size = 1024) := Lib.hid (by
    rcases hown1.2 with ⟨h, _⟩ | ⟨g, cap, cur, h, _, hh, _, _, hs, hx⟩
    · cases h
    · simp only [Value.slice.injEq, Option.some.injEq, Addr.mk.injEq] at h
      obtain ⟨⟨rfl, _⟩, _, rfl⟩ := h
      exact ⟨cur, hh, by simpa using hs⟩)
  clear hown1 hg1
  go_wp2
  go_loopg [6] 1024 (fun m i wr => ∃ j : Nat, j ≤ 1024 ∧ m + j = 1024 ∧ i = .int .i64 j ∧ Hid (Fr No w wr ∧ ∃ cur, wr.heap[w.heap.size]? = some (.cells cur 34 (0, 0)) ∧ cur.size = 1024 ∧ ∀ t, t < j → cur[t]? = some (.slice (some ⟨b, 0 + t * 128, none⟩) 128 128)))
  case atStart => exact ⟨0, by omega, by omega, rfl, Lib.hid ⟨HF1.out, by obtain ⟨cur, h1, h2⟩ := HC1.out; exact ⟨cur, h1, h2, fun t ht => by omega⟩⟩⟩
  case round =>
    obtain ⟨j, hj, hm, rfl, HR⟩ := hrel
    by_cases hlt : j < 1024
    · obtain ⟨hf, cur, hcur, hsz, hall⟩ := HR.out
      have hbr : b < wr.heap.size := by have := hf.size; omega
      obtain ⟨z, hz⟩ : ∃ z, cur[j]? = some z := ⟨_, Array.getElem?_eq_getElem (by omega)⟩
      have hzc := cell_blk hcur hz
      have hzf := free_blk hcur j
      have hwr : w.heap.size < wr.heap.size := lt_of_block hcur
      have HH := Lib.hid (And.intro hf (And.intro hcur (And.intro hsz hall)))
      clear hf hcur hsz hall hz
      go_wp2_with fail
      go_roundg (1024 - (j + 1))
      case rel =>
        refine ⟨j + 1, by omega, by omega, by go_num, Lib.hid ⟨HH.out.1.put (.inr (Nat.le_refl _)) _ _, cur.setIfInBounds j _, heap_setCell_same _ _ _ _ _ _ HH.out.2.1, by rw [Array.size_setIfInBounds]; exact HH.out.2.2.1, fun t ht => ?_⟩⟩
        by_cases e : t = j
        · subst e
          rw [Array.getElem?_setIfInBounds_self_of_lt (by rw [HH.out.2.2.1]; omega)]
          simp
        · rw [Array.getElem?_setIfInBounds_ne (fun h => e h.symm)]
          exact HH.out.2.2.2 t (by omega)
      case measure => omega
    · obtain rfl : j = 1024 := by omega
      obtain ⟨hf, cur, hcur, hsz, hall⟩ := HR.out
      have hj := join_any wr w.heap.size 1024 b 0 131072 D.flat (by omega) (Lib.hid rfl) (Lib.hid (flat_len H.out.ok)) (fun t ht => cell_blk hcur (hall t ht)) (fun i hi => by
        have hd := (H.out.keep hf id id).med (s := i / 128) (j := i % 128) (by omega) (by omega)
        rw [show i / 128 * 128 + i % 128 = 0 + i by omega] at hd
        rw [hd]
        congr 2
        have := flat_at H.out.ok (s := i / 128) (j := i % 128) (by omega) (by omega)
        rw [show i / 128 * 128 + i % 128 = i by omega] at this
        simp only [List.getD_eq_getElem?_getD, this]) (by have := hf.size; omega) (lt_of_block hcur)
      have HJ := Lib.hid hj
      have HF := Lib.hid hf
      clear hf hcur hsz hall hj
      go_wp2_with fail
      refine HJ.out.mono ?_
      rintro e w5 ⟨g, rfl, hg, hc, hb⟩
      have HG := Lib.hid (And.intro hg (And.intro hc (HF.out.trans (Fr.of_below hb))))
      clear hg hc hb
      go_wp2_with fail
      go_ret
      exact ⟨g, rfl, by have := HF.out.size; have := HG.out.1; omega, HG.out.2.1, HG.out.2.2⟩

/-- The disk that carries the bytes X, of j sectors. -/
def Dk.of (X : List UInt8) (j : Nat) : Dk := { Dk.new with med := fun s => if s < j ∧ s < 1024 then (X.drop (s * 128)).take 128 else List.replicate 128 0 }
theorem of_step (X : List UInt8) (j : Nat) (hj : j < 1024) : Dk.of X (j + 1) = { Dk.of X j with med := fun k => if k = j then (X.drop (j * 128)).take 128 else (Dk.of X j).med k } := by
  have e : (Dk.of X (j + 1)).med = fun k => if k = j then (X.drop (j * 128)).take 128 else (Dk.of X j).med k := by
    funext s
    show (if s < j + 1 ∧ s < 1024 then _ else _) = if s = j then _ else (if s < j ∧ s < 1024 then _ else _)
    by_cases h : s = j
    · subst h; rw [if_pos ⟨by omega, hj⟩, if_pos rfl]
    · rw [if_neg h]
      by_cases h2 : s < j ∧ s < 1024
      · rw [if_pos h2, if_pos (by omega)]
      · rw [if_neg h2, if_neg (by omega)]
  show _ = ({ Dk.of X j with med := _ } : Dk)
  rw [← e]
  rfl

set_option maxRecDepth 100000 in
set_option maxHeartbeats 4000000 in
theorem Of_any (w : World) (a : Option Addr) (cap : Nat) (X : List UInt8) (hX : X.length = 131072) (hv : LAt w (.slice a 131072 cap) (X.map bv)) :
    Calls Try.prog 37 #[.slice a 131072 cap] w fun e w' => e = .returned (.tuple #[.pointer (some ⟨w.heap.size, 0, none⟩), .int .i64 0]) ∧ DiskAt w' w.heap.size w.heap.size (Dk.of X 1024) ∧ Fr No w w' := by
  have hcap : 131072 ≤ cap := by obtain ⟨_, _, e, hc⟩ := hv.len; simp only [Value.slice.injEq] at e; rw [List.length_map, hX] at hc; omega
  obtain ⟨g, o, rfl, hseg⟩ := hv.segOf (by rw [List.length_map]; omega)
  have HS := Lib.hid hseg
  have HX := Lib.hid hX
  clear hv hseg hX
  go_enter Try.func37, Try.ntmps37
  go_wp2_with fail
  refine (New_any _).mono ?_
  rintro e w1 ⟨rfl, hd, hf⟩
  have H1 := Lib.hid (And.intro hd hf)
  clear hd hf
  go_wp2_with fail
  go_loopg [10] 1024 (fun m i wr => ∃ j : Nat, j ≤ 1024 ∧ m + j = 1024 ∧ i = .int .i64 j ∧ Hid (Fr No w wr ∧ DiskAt wr w.heap.size w.heap.size (Dk.of X j)))
  case atStart => exact ⟨0, by omega, by omega, rfl, Lib.hid ⟨H1.out.2, by have := H1.out.1; simpa [Dk.of, Dk.new] using this⟩⟩
  case round =>
    obtain ⟨j, hj, hm, rfl, HR⟩ := hrel
    by_cases hlt : j < 1024
    · have hbr := HR.out.2.lt.1
      obtain ⟨S, hS⟩ : ∃ S, Hid (S = (X.drop (j * 128)).take 128) := ⟨_, Lib.hid rfl⟩
      have hSl : Hid (S.length = 128) := Lib.hid (by rw [hS.out, List.length_take, List.length_drop, HX.out]; omega)
      have hj0 : (0 : Int) ≤ (j : Int) := by omega
      have hj1 : (j : Int) < 1024 := by omega
      have hj2 : (0 : Int) ≤ (j : Int) * 128 := by omega
      have hj3 : (j : Int) * 128 ≤ 131072 := by omega
      have hw64 : IntKind.i64.wrap ((j : Int) * 128) = (j : Int) * 128 := IntWalk.i64_in _ (by omega)
      have hw65 : ((j : Int) * 128).toNat = j * 128 := by omega
      have hw66 : j * 128 ≤ 131072 := by omega
      have hj4 : ¬ cap = j * 128 := by omega
      go_wp2_with fail
      refine region_tail 10 (by kernel_rfl) (by kernel_rfl) ?_
      simp only [List.take_succ_cons, List.take_zero, List.drop_succ_cons, List.drop_zero]
      repeat still_step
      refine wpStill_nil ?_
      refine wpList_copy_seg rfl (.tmp 18) (.tmp 22) 34 34 rfl 5 Try.underlying34 Try.size5 (some ⟨w.heap.size, j * 128, none⟩) (some ⟨g, o + j * 128, none⟩) 128 128 (131072 - j * 128) (cap - j * 128) rfl rfl w.heap.size (j * 128) (S.map bv) ?cn ?cpos ?croom ?cone ?_
      case cn => rw [List.length_map, hSl.out]; simp [Nat.min_def]; omega
      case cpos =>
        intro h0
        refine ⟨rfl, g, o + j * 128, rfl, fun i u hu => ?_⟩
        rw [hS.out] at hu
        obtain ⟨h1, h2, rfl⟩ := seg_get hu
        have hc := HS.out (j * 128 + i) (bv (X.getD (j * 128 + i) 0)) (by
          rw [List.getElem?_map, List.getElem?_eq_getElem h2]
          simp [List.getD_eq_getElem?_getD, List.getElem?_eq_getElem h2])
        have hgw := World.block_lt_of_cell? _ _ hc
        rw [← Nat.add_assoc] at hc
        exact (HR.out.1.drew.cell (p := ⟨g, o + j * 128 + i, none⟩) hgw id).trans hc
      case croom => intro _; rw [List.length_map, hSl.out]; exact (HR.out.2.keep (S := No) (Fr.refl _ _).drew id id).room hlt
      case cone => exact bvs_one _
      rw [List.length_map, hSl.out]
      go_wp2
      go_roundg (1024 - (j + 1))
      case rel =>
        refine ⟨j + 1, by omega, by omega, by go_num, Lib.hid ⟨HR.out.1.drew.seg (.inr (Nat.le_refl _)) _ _, ?_⟩⟩
        rw [of_step X j hlt, ← hS.out]
        exact (HR.out.2.keep (S := No) (Fr.refl _ _).drew id id).setMed hlt hSl.out
      case measure => omega
    · obtain rfl : j = 1024 := by omega
      go_wp2
      go_ret2
      exact ⟨rfl, HR.out.2, HR.out.1⟩
end Go.Proofs.Ytppllhdocajfiaa
