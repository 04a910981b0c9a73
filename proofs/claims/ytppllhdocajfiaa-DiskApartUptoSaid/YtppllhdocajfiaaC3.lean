/- Whole sectors and whole waiting writes, loaded and stored; drain. -/
import Derived.Test.YtppllhdocajfiaaC1
set_option linter.unusedSimpArgs false
set_option linter.unusedVariables false
namespace Go.Proofs.Ytppllhdocajfiaa
open Go.RowKit
section
variable {ρ : Operand → Value} {d : Option Tmp} {x y : Operand} {ty : TypeId} {pos : String} {aft : Array Edge} {gd : Option (Nat × Bool)} {w : World} {g off : Nat} {L : List Value}
theorem ex_load94 : Sem.run Try.prog (execOp ρ ⟨d, .load 94 x, ty, pos, aft, gd⟩) w = loadNow Try.prog w 94 (ρ x) := rfl
theorem ex_store94 : Sem.run Try.prog (execOp ρ ⟨d, .store 94 x y, ty, pos, aft, gd⟩) w = storeNow Try.prog w 94 (ρ x) (ρ y) := rfl
theorem ex_load102 : Sem.run Try.prog (execOp ρ ⟨d, .load 102 x, ty, pos, aft, gd⟩) w = loadNow Try.prog w 102 (ρ x) := rfl
theorem ex_store102 : Sem.run Try.prog (execOp ρ ⟨d, .store 102 x y, ty, pos, aft, gd⟩) w = storeNow Try.prog w 102 (ρ x) (ρ y) := rfl
theorem load94 (h : SegAt w g off L) (hl : L.length = 128) : loadNow Try.prog w 94 (.pointer (some ⟨g, off, none⟩)) = .ok (.value (.agg L.toArray)) w := loadNow_seg Try.isAgg94 Try.sizeOf94 hl h
theorem store94 (h : RoomAt w g off 128) (hl : L.length = 128) (h1 : OneL L) : storeNow Try.prog w 94 (.pointer (some ⟨g, off, none⟩)) (.agg L.toArray) = .ok .skip (World.setSeg w g off L) := storeNow_seg Try.sizeOf94 hl h1 h
theorem load102 (h : SegAt w g off L) (hl : L.length = 129) : loadNow Try.prog w 102 (.pointer (some ⟨g, off, none⟩)) = .ok (.value (.agg L.toArray)) w := loadNow_seg Try.isAgg102 Try.sizeOf102 hl h
theorem store102 {cs : Array Value} {e m : Nat} (hm : m = w.heap.size) (hc : cs.size = 129) (hl : L.length = 129) (h1 : OneL L) :
    storeNow Try.prog (w.alloc (.cells cs e)) 102 (.pointer (some ⟨m, 0, none⟩)) (.agg L.toArray) = .ok .skip (w.alloc (.cells L.toArray e)) := storeNow_new Try.sizeOf102 hm hc hl h1
end
attribute [local go_sem ↓] ex_load94 ex_store94 ex_load102 ex_store102
attribute [local go_sem] store102

theorem f52_any (i : Int) (w : World) : Calls Try.prog 52 #[.int .i64 i] w fun e w' => e = .returned (.bool true) ∧ w = w' := by
  go_enter Try.func52, Try.ntmps52
  go_wp2
  go_ret
  exact ⟨rfl, rfl⟩

/-- A list of bools in memory. -/
abbrev BoolsAt (w : World) (v : Value) (K : List Bool) : Prop := LAt w v (K.map Value.bool)

set_option maxRecDepth 100000 in
theorem f55_any (i : Nat) (w : World) (kb : Nat) (v : Value) (K : List Bool) (hv : w.cell? ⟨kb, 0, none⟩ = some v) (hK : BoolsAt w v K) (hi : i ≤ 1152921504606846976) :
    Calls Try.prog 55 #[.int .i64 i, .pointer (some ⟨kb, 0, none⟩)] w fun e w' => e = .returned (.bool (K.getD i false)) ∧ w = w' := by
  rcases hK with ⟨rfl, h0⟩ | ⟨a, cap, rfl, _, hc⟩
  · obtain rfl : K = [] := by simpa using h0
    clear h0
    go_enter Try.func55, Try.ntmps55
    go_wp2
    go_ret
    exact ⟨rfl, rfl⟩
  · obtain ⟨n, hn⟩ : ∃ n, Hid (K.length = n) := ⟨_, Lib.hid rfl⟩
    rw [List.length_map, hn.out] at hv hc
    by_cases hlt : i < n
    · obtain ⟨g, o, rfl, hseg⟩ := hc (by omega)
      have h1 := hseg i (.bool (K.getD i false)) (by have := hn.out; simp [List.getD, List.getElem?_eq_getElem (show i < K.length by omega)])
      obtain ⟨r, hr⟩ : ∃ r, Hid (K.getD i false = r) := ⟨_, Lib.hid rfl⟩
      rw [hr.out] at h1
      rw [hr.out]
      clear hc hseg
      go_enter Try.func55, Try.ntmps55
      go_wp2
      go_ret
      exact ⟨rfl, rfl⟩
    · have hd : decide (i < n) = false := by simpa using hlt
      have hr : K.getD i false = false := by have := hn.out; simp [List.getD]; rw [List.getElem?_eq_none (by omega)]; rfl
      rw [hr]
      clear hc hr
      go_enter Try.func55, Try.ntmps55
      go_wp2
      go_ret
      exact ⟨rfl, rfl⟩

/-- The writes that are kept, laid over the medium in their order; from the i-th on. -/
def laidOn (kept : Nat → Bool) : Nat → List (Nat × List UInt8) → (Nat → List UInt8) → (Nat → List UInt8)
  | _, [], m => m
  | i, p :: l, m => laidOn kept (i + 1) l (if kept i then (fun s => if s = p.1 then p.2 else m s) else m)
def keptOf (kept : Nat → Bool) : Nat → List (Nat × List UInt8) → Nat
  | _, [] => 0
  | i, _ :: l => (if kept i then 1 else 0) + keptOf kept (i + 1) l
/-- What drain makes of a disk. -/
def Dk.drain (D : Dk) (kept : Nat → Bool) : Dk := { D with med := laidOn kept 0 D.cache D.med, cache := [] }

section
variable {w : World} {b c : Nat} {D : Dk}

set_option maxHeartbeats 1000000 in
set_option maxRecDepth 100000 in
theorem drain52 (h : DiskAt w b c D) (hlen : D.cache.length ≤ 1152921504606846976) :
    Calls Try.prog 51 #[.pointer (some ⟨b, 0, none⟩), .func (.func 52) #[] #[]] w fun e w' => e = .returned (.int .i64 (keptOf (fun _ => true) 0 D.cache)) ∧ DiskAt w' b b (D.drain (fun _ => true)) ∧ Fr (One b) w w' := by
  obtain ⟨cv, hcv, hca⟩ := h.cache
  obtain ⟨a, cap, rfl⟩ : ∃ a cap, cv = .slice a D.cache.length cap := by
    rcases hca with ⟨rfl, h0⟩ | ⟨cap, cur, rfl, _⟩
    · exact ⟨none, 0, by rw [h0]; rfl⟩
    · exact ⟨_, _, rfl⟩
  obtain ⟨n, hn⟩ : ∃ n, Hid (D.cache.length = n) := ⟨_, Lib.hid rfl⟩
  rw [hn.out] at hcv hlen
  have H := Lib.hid h
  have HCA := Lib.hid hca
  have hblt0 : b < w.heap.size := h.lt.1
  clear h hca
  go_enter Try.func51, Try.ntmps51
  go_wp2
  go_loopg [5, 13] n (fun m t i wr => ∃ (j u : Nat) (M : Nat → List UInt8), j ≤ n ∧ m + j = n ∧ i = .int .i64 j ∧ t = .int .i64 u ∧ u ≤ j ∧
    Hid (laidOn (fun _ => true) j (D.cache.drop j) M = laidOn (fun _ => true) 0 D.cache D.med ∧ u + keptOf (fun _ => true) j (D.cache.drop j) = keptOf (fun _ => true) 0 D.cache) ∧
    Hid (DiskAt wr b c { D with med := M } ∧ CacheAt wr b c (.slice a D.cache.length cap) D.cache ∧ Fr (One b) w wr))
  case atStart => exact ⟨0, 0, D.med, by omega, by omega, rfl, rfl, by omega, Lib.hid ⟨by simp, by simp⟩, Lib.hid ⟨H.out, HCA.out, Fr.refl _ _⟩⟩
  case round =>
    obtain ⟨j, u, M, hj, hm, rfl, rfl, hu, HP, HD⟩ := hrel
    by_cases hlt : j < n
    · obtain ⟨hd, hca, hf⟩ := HD.out
      have hjl : j < D.cache.length := by have := hn.out; omega
      obtain ⟨p, hp⟩ : ∃ p, D.cache[j]? = some p := ⟨_, List.getElem?_eq_getElem hjl⟩
      obtain ⟨hcb, ⟨cap', hcv', _⟩, hseg⟩ := hca.seg H.out.ok.cache hp
      obtain ⟨rfl, rfl⟩ : a = some ⟨c, 0, none⟩ ∧ cap = cap' := by simpa using hcv'
      have hpok := H.out.ok.cache p (List.mem_of_getElem? hp)
      have hdrop : D.cache.drop j = p :: D.cache.drop (j + 1) := by
        rw [List.drop_eq_getElem_cons hjl]; congr 1; exact (List.getElem?_eq_some_iff.1 hp).2
      obtain ⟨s, X⟩ := p
      simp only at hpok
      obtain ⟨S, hS⟩ : ∃ S, Hid (S = X.map bv) := ⟨_, Lib.hid rfl⟩
      have hpc : pcells (s, X) = .int .i64 s :: S := by rw [hS.out]; rfl
      rw [hpc] at hseg
      have hSl : S.length = 128 := by rw [hS.out]; simpa using hpok.2
      have hS1 : OneL S := by rw [hS.out]; exact bvs_one _
      have hL1 : OneL (.int .i64 s :: S) := by rw [← hpc]; exact pcells_one _
      have hs2 : s < 1024 := hpok.1
      have hs3 : (s : Int) < 1024 := by omega
      have hload1 := load102 hseg (by simp [hSl])
      have hload2 := load94 (w := (wr.alloc (.cells (Value.int .i64 s :: S).toArray 102)).drew) (g := wr.heap.size) (off := 1) (L := S) (SegAt.of_block (heap_alloc_new wr _) (fun i v hv => by
        simpa [Nat.add_comm 1 i] using hv)) hSl
      have hstore := store94 (w := (wr.alloc (.cells (Value.int .i64 s :: S).toArray 102)).drew) (g := b) (off := s * 128) (L := S) ((hd.keep (S := No) ((Fr.refl _ wr).alloc _) id id).room hs2) hSl hS1
      have HH := Lib.hid (And.intro hd hca)
      have HF := Lib.hid hf
      have HX := Lib.hid hpok.2
      have Hp := Lib.hid hp
      have HDr := Lib.hid hdrop
      have hblt : b < wr.heap.size := HH.out.1.lt.1
      clear hd hca hf hpok hp hcv' hcv hseg hpc hdrop
      go_wp2_with (go_at_call 52; refine (f52_any _ _).mono ?_; rintro e w' ⟨rfl, rfl⟩)
      refine region_tail 8 (by kernel_rfl) (by kernel_rfl) ?_
      simp only [List.take_succ_cons, List.take_zero, List.drop_succ_cons, List.drop_zero]
      repeat still_step
      refine wpStill_nil ?_
      go_wp2
      go_roundg (n - (j + 1))
      case rel =>
        have hP := HP.out
        rw [HDr.out] at hP
        simp only [laidOn, keptOf, Nat.zero_add, if_true] at hP
        have hd2 := (HH.out.1.keep (S := No) ((Fr.refl _ wr).alloc (.cells (Value.int .i64 s :: S).toArray 102)) id id)
        refine ⟨j + 1, u + 1, fun k => if k = s then X else M k, by omega, by omega, by go_num, by go_num, by omega, Lib.hid ⟨hP.1, by omega⟩, Lib.hid ⟨?_, ?_, ?_⟩⟩
        · have hS' := hS.out
          subst hS'
          exact (hd2.setMed hs2 HX.out).keep (S := No) (Fr.refl _ _).drew id id
        · refine HH.out.2.keep ?_
          show (World.setSeg (wr.alloc _) b _ S).heap[c]? = _
          rw [World.heap_setSeg_other _ _ _ _ hcb]
          exact heap_alloc_old wr _ HH.out.1.lt.2
        · exact ((HF.out.alloc _).seg (.inl (One.self b)) _ _).drew
      case measure => omega
    · obtain ⟨hd, hca, hf⟩ := HD.out
      obtain ⟨cv2, hcv2, hca2⟩ := hd.cache
      have hfree := hd.free 131072
      obtain rfl : n = j := by omega
      have hP := HP.out
      rw [List.drop_eq_nil_of_le (by have := hn.out; omega)] at hP
      have HPP := Lib.hid hP
      have HH := Lib.hid hd
      have HF := Lib.hid hf
      clear hd hca hf hcv hca2 hP
      go_wp2
      go_ret
      obtain ⟨h1, h2⟩ := HPP.out
      simp only [laidOn, keptOf, Nat.add_zero] at h1 h2
      refine ⟨by rw [← h2]; rfl, ?_, HF.out.put (.inl (One.self b)) _ _⟩
      have := HH.out.setCache (c' := b) (cv := .slice none 0 0) (l := []) (by simp) HH.out.lt.1 (.inl ⟨rfl, rfl⟩)
      rw [Dk.drain, ← h1]
      exact this

set_option maxHeartbeats 1000000 in
set_option maxRecDepth 100000 in
theorem drain55 (h : DiskAt w b c D) (hlen : D.cache.length ≤ 1152921504606846976)
    (kb : Nat) (v : Value) (K : List Bool) (hv : w.cell? ⟨kb, 0, none⟩ = some v) (hkb : kb < w.heap.size ∧ kb ≠ b) (hKk : ∀ w', Fr (One b) w w' → BoolsAt w' v K) :
    Calls Try.prog 51 #[.pointer (some ⟨b, 0, none⟩), .func (.func 55) #[] #[.pointer (some ⟨kb, 0, none⟩)]] w fun e w' => e = .returned (.int .i64 (keptOf (fun i => K.getD i false) 0 D.cache)) ∧ DiskAt w' b b (D.drain (fun i => K.getD i false)) ∧ Fr (One b) w w' := by
  obtain ⟨cv, hcv, hca⟩ := h.cache
  obtain ⟨a, cap, rfl⟩ : ∃ a cap, cv = .slice a D.cache.length cap := by
    rcases hca with ⟨rfl, h0⟩ | ⟨cap, cur, rfl, _⟩
    · exact ⟨none, 0, by rw [h0]; rfl⟩
    · exact ⟨_, _, rfl⟩
  obtain ⟨n, hn⟩ : ∃ n, Hid (D.cache.length = n) := ⟨_, Lib.hid rfl⟩
  rw [hn.out] at hcv hlen
  have H := Lib.hid h
  have HCA := Lib.hid hca
  have hblt0 : b < w.heap.size := h.lt.1
  clear h hca
  go_enter Try.func51, Try.ntmps51
  go_wp2
  go_loopg [5, 13] n (fun m t i wr => ∃ (j u : Nat) (M : Nat → List UInt8), j ≤ n ∧ m + j = n ∧ i = .int .i64 j ∧ t = .int .i64 u ∧ u ≤ j ∧
    Hid (laidOn (fun i => K.getD i false) j (D.cache.drop j) M = laidOn (fun i => K.getD i false) 0 D.cache D.med ∧ u + keptOf (fun i => K.getD i false) j (D.cache.drop j) = keptOf (fun i => K.getD i false) 0 D.cache) ∧
    Hid (DiskAt wr b c { D with med := M } ∧ CacheAt wr b c (.slice a D.cache.length cap) D.cache ∧ Fr (One b) w wr))
  case atStart => exact ⟨0, 0, D.med, by omega, by omega, rfl, rfl, by omega, Lib.hid ⟨by simp, by simp⟩, Lib.hid ⟨H.out, HCA.out, Fr.refl _ _⟩⟩
  case round =>
    obtain ⟨j, u, M, hj, hm, rfl, rfl, hu, HP, HD⟩ := hrel
    by_cases hlt : j < n
    · obtain ⟨hd, hca, hf⟩ := HD.out
      have hjl : j < D.cache.length := by have := hn.out; omega
      obtain ⟨p, hp⟩ : ∃ p, D.cache[j]? = some p := ⟨_, List.getElem?_eq_getElem hjl⟩
      obtain ⟨hcb, ⟨cap', hcv', _⟩, hseg⟩ := hca.seg H.out.ok.cache hp
      obtain ⟨rfl, rfl⟩ : a = some ⟨c, 0, none⟩ ∧ cap = cap' := by simpa using hcv'
      have hpok := H.out.ok.cache p (List.mem_of_getElem? hp)
      have hdrop : D.cache.drop j = p :: D.cache.drop (j + 1) := by
        rw [List.drop_eq_getElem_cons hjl]; congr 1; exact (List.getElem?_eq_some_iff.1 hp).2
      obtain ⟨s, X⟩ := p
      simp only at hpok
      obtain ⟨S, hS⟩ : ∃ S, Hid (S = X.map bv) := ⟨_, Lib.hid rfl⟩
      have hpc : pcells (s, X) = .int .i64 s :: S := by rw [hS.out]; rfl
      rw [hpc] at hseg
      have hSl : S.length = 128 := by rw [hS.out]; simpa using hpok.2
      have hS1 : OneL S := by rw [hS.out]; exact bvs_one _
      have hL1 : OneL (.int .i64 s :: S) := by rw [← hpc]; exact pcells_one _
      have hs2 : s < 1024 := hpok.1
      have hs3 : (s : Int) < 1024 := by omega
      have hload1 := load102 hseg (by simp [hSl])
      have hload2 := load94 (w := (wr.alloc (.cells (Value.int .i64 s :: S).toArray 102)).drew) (g := wr.heap.size) (off := 1) (L := S) (SegAt.of_block (heap_alloc_new wr _) (fun i v hv => by
        simpa [Nat.add_comm 1 i] using hv)) hSl
      have hstore := store94 (w := (wr.alloc (.cells (Value.int .i64 s :: S).toArray 102)).drew) (g := b) (off := s * 128) (L := S) ((hd.keep (S := No) ((Fr.refl _ wr).alloc _) id id).room hs2) hSl hS1
      have HH := Lib.hid (And.intro hd hca)
      have HF := Lib.hid hf
      have HX := Lib.hid hpok.2
      have Hp := Lib.hid hp
      have HDr := Lib.hid hdrop
      have hblt : b < wr.heap.size := HH.out.1.lt.1
      clear hd hca hf hpok hp hcv' hcv hseg hpc hdrop
      have hkb1 : (wr.alloc (.cells (Value.int .i64 s :: S).toArray 102)).cell? ⟨kb, 0, none⟩ = some v := by
        rw [(HF.out.alloc _).cell (p := ⟨kb, 0, none⟩) hkb.1 hkb.2]; exact hv
      have HK1 := Lib.hid (hKk _ (HF.out.alloc (.cells (Value.int .i64 s :: S).toArray 102)))
      cases hk : K.getD j false
      · have HKJ := Lib.hid hk
        have hc55 := f55_any j _ kb v K hkb1 HK1.out (by omega)
        rw [hk] at hc55
        clear hk hkb1
        go_wp2_with (go_at_call 55; refine (hc55).mono ?_; rintro e w' ⟨rfl, rfl⟩)
        go_roundg (n - (j + 1))
        case rel =>
          have hP := HP.out
          rw [HDr.out] at hP
          simp only [laidOn, keptOf, HKJ.out, if_false, Bool.false_eq_true] at hP
          have hd2 := (HH.out.1.keep (S := No) ((Fr.refl _ wr).alloc (.cells (Value.int .i64 s :: S).toArray 102)) id id)
          refine ⟨j + 1, u, M, by omega, by omega, by go_num, rfl, by omega, Lib.hid ⟨hP.1, by omega⟩, Lib.hid ⟨hd2, ?_, HF.out.alloc _⟩⟩
          exact HH.out.2.keep (heap_alloc_old wr _ HH.out.1.lt.2)
        case measure => omega
      · have HKJ := Lib.hid hk
        have hc55 := f55_any j _ kb v K hkb1 HK1.out (by omega)
        rw [hk] at hc55
        clear hk hkb1
        go_wp2_with (go_at_call 55; refine (hc55).mono ?_; rintro e w' ⟨rfl, rfl⟩)
        refine region_tail 8 (by kernel_rfl) (by kernel_rfl) ?_
        simp only [List.take_succ_cons, List.take_zero, List.drop_succ_cons, List.drop_zero]
        repeat still_step
        refine wpStill_nil ?_
        go_wp2
        go_roundg (n - (j + 1))
        case rel =>
          have hP := HP.out
          rw [HDr.out] at hP
          simp only [laidOn, keptOf, HKJ.out, if_true] at hP
          have hd2 := (HH.out.1.keep (S := No) ((Fr.refl _ wr).alloc (.cells (Value.int .i64 s :: S).toArray 102)) id id)
          refine ⟨j + 1, u + 1, fun k => if k = s then X else M k, by omega, by omega, by go_num, by go_num, by omega, Lib.hid ⟨hP.1, by omega⟩, Lib.hid ⟨?_, ?_, ?_⟩⟩
          · have hS' := hS.out
            subst hS'
            exact (hd2.setMed hs2 HX.out).keep (S := No) (Fr.refl _ _).drew id id
          · refine HH.out.2.keep ?_
            show (World.setSeg (wr.alloc _) b _ S).heap[c]? = _
            rw [World.heap_setSeg_other _ _ _ _ hcb]
            exact heap_alloc_old wr _ HH.out.1.lt.2
          · exact ((HF.out.alloc _).seg (.inl (One.self b)) _ _).drew
        case measure => omega
    · obtain ⟨hd, hca, hf⟩ := HD.out
      obtain ⟨cv2, hcv2, hca2⟩ := hd.cache
      have hfree := hd.free 131072
      obtain rfl : n = j := by omega
      have hP := HP.out
      rw [List.drop_eq_nil_of_le (by have := hn.out; omega)] at hP
      have HPP := Lib.hid hP
      have HH := Lib.hid hd
      have HF := Lib.hid hf
      clear hd hca hf hcv hca2 hP
      go_wp2
      go_ret
      obtain ⟨h1, h2⟩ := HPP.out
      simp only [laidOn, keptOf, Nat.add_zero] at h1 h2
      refine ⟨by rw [← h2]; rfl, ?_, HF.out.put (.inl (One.self b)) _ _⟩
      have := HH.out.setCache (c' := b) (cv := .slice none 0 0) (l := []) (by simp) HH.out.lt.1 (.inl ⟨rfl, rfl⟩)
      rw [Dk.drain, ← h1]
      exact this

end
end Go.Proofs.Ytppllhdocajfiaa
