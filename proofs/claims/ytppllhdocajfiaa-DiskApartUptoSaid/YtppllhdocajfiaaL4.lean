/- begun: a disk behind a script's calls; fresh. -/
import Derived.Test.YtppllhdocajfiaaL3
set_option linter.unusedSimpArgs false
set_option linter.unusedVariables false
namespace Go.Proofs.Ytppllhdocajfiaa
open Go.RowKit

/-- Behind j calls. -/
def BegunAt (w wr : World) (j : Nat) : Prop := ∃ c D, DiskAt wr w.heap.size c D ∧ w.heap.size ≤ c ∧ D.cache.length ≤ j ∧ D.acts ≤ j ∧ Fr No w wr

theorem BegunAt.step {w wr w1 w' : World} {j c : Nat} {D : Dk} (h1 : DiskAt wr w.heap.size c D) (h2 : w.heap.size ≤ c) (h3 : D.cache.length ≤ j) (h4 : D.acts ≤ j) (h5 : Fr No w wr) (hf : Fr No wr w1) (hr : Rough w1 w.heap.size c D w') : BegunAt w w' (j + 1) := by
  obtain ⟨c', D', hd, hl, ha, hc, hf2⟩ := hr
  have hs := h5.size
  have hs2 := hf.size
  refine ⟨c', D', hd, by omega, by omega, by omega, (h5.trans hf).then hf2 fun i hi h => ?_⟩
  rcases h with h | h <;> omega

theorem OpOk.no {w w' : World} {o : OpD} (h : OpOk w o) (hf : Fr No w w') : OpOk w' o := ⟨h.data.no hf, h.keep.no hf, h.dlen, h.klen, h.place⟩

set_option maxHeartbeats 4000000 in
set_option maxRecDepth 100000 in
theorem begun_any (w : World) (v : Value) (l : List OpD) (hl : OpsAt w v l) (hlen : l.length ≤ 2097152) :
    Calls Try.prog 49 #[v] w fun e w' => e = .returned (.pointer (some ⟨w.heap.size, 0, none⟩)) ∧ BegunAt w w' l.length := by
  obtain ⟨a, cap, rfl, hcap, _⟩ := hl.1.len
  obtain ⟨n, hn⟩ : ∃ n, Hid (l.length = n) := ⟨_, Lib.hid rfl⟩
  rw [hn.out] at hlen hcap
  rw [hn.out]
  have HL := Lib.hid hl
  clear hl
  go_enter Try.func49, Try.ntmps49
  go_wp2_with (go_at_call 38; refine (New_any _).mono ?_; rintro e w1 ⟨rfl, hd, hf⟩)
  go_loopg [4] n (fun m i wr => ∃ j : Nat, j ≤ n ∧ m + j = n ∧ i = .int .i64 j ∧ Hid (BegunAt w wr j))
  case atStart => exact ⟨0, by omega, by omega, rfl, Lib.hid ⟨w.heap.size, Dk.new, hd, Nat.le_refl _, by simp [Dk.new], by simp [Dk.new], hf⟩⟩
  case round =>
    clear hd hf
    obtain ⟨j, hj, hm, rfl, HR⟩ := hrel
    by_cases hlt : j < n
    · obtain ⟨c, D, hd, hc, hcl, hac, hf⟩ := HR.out
      have hjl : j < l.length := by have := hn.out; omega
      obtain ⟨p, hp⟩ : ∃ p, l[j]? = some p := ⟨_, List.getElem?_eq_getElem hjl⟩
      obtain ⟨g, o, cap', e, hcap', hseg⟩ := HL.out.get hp
      simp only [Value.slice.injEq] at e
      obtain ⟨rfl, _, rfl⟩ := e
      have hok := HL.out.2 p (List.mem_of_getElem? hp)
      have hgw : g < w.heap.size := hseg.lt (by simp [opcells])
      have hseg2 := hseg.keep (hf.block g hgw id)
      obtain ⟨kind, two, sector, place, dv, data, fill, kv, keep⟩ := p
      have hgr : g < wr.heap.size := by have := hf.size; omega
      have ok2 : OpOk wr ⟨kind, two, sector, place, dv, data, fill, kv, keep⟩ := ⟨hok.data.no hf, hok.keep.no hf, hok.dlen, hok.klen, hok.place⟩
      have hdl : data.length ≤ 2097152 := hok.dlen
      have hkl : keep.length ≤ 2097152 := hok.klen
      obtain ⟨a1, c1, ed, _⟩ := hok.data.len
      obtain ⟨a2, c2, ek, _⟩ := hok.keep.len
      simp only [List.length_map] at ed ek
      subst ed ek
      have k0 := hseg2 0 _ rfl
      have k1 := hseg2 1 _ rfl
      have k2 := hseg2 2 _ rfl
      have k3 := hseg2 3 _ rfl
      have k4 := hseg2 4 _ rfl
      have k5 := hseg2 5 _ rfl
      have k6 := hseg2 6 _ rfl
      simp only [Nat.add_zero] at k0
      clear hseg hseg2 hp hcap'
      have hbr : w.heap.size < wr.heap.size := hd.lt.1
      have hS : Hid (∀ w1 w', Fr No wr w1 → Rough w1 w.heap.size c D w' → BegunAt w w' (j + 1)) := Lib.hid fun w1 w' h1 h2 => BegunAt.step hd hc hcl hac hf h1 h2
      have HD := Lib.hid hd
      have HOK := Lib.hid ok2
      have hA : D.acts ≤ 4611686018427387904 := by omega
      have hC : D.cache.length ≤ 1073741824 := by omega
      have HP := Lib.hid hok.place
      clear hd hc hcl hac hf hok ok2
      by_cases q2 : kind = 2
      · subst q2
        go_wp2_with fail
        obtain ⟨W, hW⟩ : ∃ W, W = wr.alloc (.cells #[.int .i64 2, .bool two, .int .i64 sector, .int .i64 place, .slice a1 data.length c1, .bool fill, .slice a2 keep.length c2] 86) := ⟨_, rfl⟩
        have HPG2 : Hid (∀ w' : World, w'.heap[wr.heap.size]? = W.heap[wr.heap.size]? → w'.cell? ⟨wr.heap.size, 0, none⟩ = some (.int .i64 2) ∧ w'.cell? ⟨wr.heap.size, 1, none⟩ = some (.bool two) ∧ w'.cell? ⟨wr.heap.size, 2, none⟩ = some (.int .i64 sector) ∧ w'.cell? ⟨wr.heap.size, 3, none⟩ = some (.int .i64 place) ∧
            w'.cell? ⟨wr.heap.size, 4, none⟩ = some (.slice a1 data.length c1) ∧ w'.cell? ⟨wr.heap.size, 5, none⟩ = some (.bool fill) ∧ w'.cell? ⟨wr.heap.size, 6, none⟩ = some (.slice a2 keep.length c2)) := Lib.hid fun w' hk => by
          have hb : w'.heap[wr.heap.size]? = some (.cells #[.int .i64 2, .bool two, .int .i64 sector, .int .i64 place, .slice a1 data.length c1, .bool fill, .slice a2 keep.length c2] 86 (0, 0)) := by
            rw [hk, hW]; exact heap_alloc_new wr _
          exact ⟨cell_blk hb rfl, cell_blk hb rfl, cell_blk hb rfl, cell_blk hb rfl, cell_blk hb rfl, cell_blk hb rfl, cell_blk hb rfl⟩
        have HF : Hid (Fr No wr W) := Lib.hid (by rw [hW]; exact (Fr.refl _ wr).alloc _)
        have hsz : W.heap.size = wr.heap.size + 1 := by rw [hW]; simp
        have HSZ := Lib.hid hsz
        have hclt : c < wr.heap.size := HD.out.lt.2
        have HPG := Lib.hid (fun w' (hf : Fr No W w') => HPG2.out w' (hf.block _ (by omega) id))
        have HKEEP := Lib.hid (fun w1 w2 (hff : Fr No W.drew w1) (hr : Rough w1 w.heap.size c D w2) => HPG2.out w2 (by
          obtain ⟨_, _, _, _, _, _, hf2⟩ := hr
          have h1 := hff.size
          rw [hf2.block _ (by simp at h1; omega) (Two.not (by omega) (by omega))]
          exact hff.block _ (by simp; omega) id))
        rw [← hW]
        obtain ⟨p0, p1, p2, p3, p4, p5, p6⟩ := HPG.out W (Fr.refl _ _)
        clear hW hsz k0 k1 k2 k3 k4 k5 k6
        go_region_held3 (fun w' => w'.cell? ⟨wr.heap.size, 0, none⟩ = some (.int .i64 2) ∧ w'.cell? ⟨wr.heap.size, 1, none⟩ = some (.bool two) ∧ w'.cell? ⟨wr.heap.size, 2, none⟩ = some (.int .i64 sector) ∧ w'.cell? ⟨wr.heap.size, 3, none⟩ = some (.int .i64 place) ∧
            w'.cell? ⟨wr.heap.size, 4, none⟩ = some (.slice a1 data.length c1) ∧ w'.cell? ⟨wr.heap.size, 5, none⟩ = some (.bool fill) ∧ w'.cell? ⟨wr.heap.size, 6, none⟩ = some (.slice a2 keep.length c2))
          (first | go_keep | exact HPG.out _ (Fr.refl _ _).drew | exact HPG.out _ ((Fr.refl _ _).drew.trans hff) | exact HKEEP.out _ _ hff hr)
          (first
            | (go_at_call 65; refine (handed_any _ ⟨2, two, sector, place, .slice a1 data.length c1, data, fill, .slice a2 keep.length c2, keep⟩ (HOK.out.no (HF.out.drew))).mono ?_; rintro e w1 ⟨v1, rfl, hown, hff⟩)
            | (go_at_call 16; refine (Write_rough (HD.out.keep (HF.out.drew.trans hff) id id) sector _ _ hown (by simp [HSZ.out]; omega) hA hC).mono ?_; rintro e w2 ⟨r, rfl, hr⟩))
        all_goals
          go_wp2
          go_roundg (n - (j + 1))
          case rel => exact ⟨j + 1, by omega, by omega, by go_num, Lib.hid (hS.out _ _ (HF.out.drew.trans hff) hr)⟩
          case measure => omega
      have e2 : (kind == 2) = false := by simpa using q2
      by_cases q3 : kind = 3
      · subst q3
        go_wp2_with (go_at_call 15; refine (Flush_rough (HD.out.keep (S := No) ((Fr.refl _ wr).alloc _) id id) hA hC).mono ?_; rintro e w' ⟨r, rfl, hr⟩)
        go_roundg (n - (j + 1))
        case rel => exact ⟨j + 1, by omega, by omega, by go_num, Lib.hid (hS.out _ _ ((Fr.refl _ wr).alloc _) hr)⟩
        case measure => omega
      have e3 : (kind == 3) = false := by simpa using q3
      by_cases q5 : kind = 5
      · subst q5
        go_wp2_with (go_at_call 13; refine (Arm_rough (HD.out.keep (S := No) ((Fr.refl _ wr).alloc _) id id) place HP.out.2).mono ?_; rintro e w' ⟨r, rfl, hr⟩)
        go_roundg (n - (j + 1))
        case rel => exact ⟨j + 1, by omega, by omega, by go_num, Lib.hid (hS.out _ _ ((Fr.refl _ wr).alloc _) hr)⟩
        case measure => omega
      have e5 : (kind == 5) = false := by simpa using q5
      by_cases q7 : kind = 7
      · subst q7
        have HFL := Lib.hid (fun w0 : World => fun (hf : Fr No wr w0) => flags_any w0 (.slice a2 keep.length c2) (keep.map Value.bool) (HOK.out.no hf).keep (fun v hv => by obtain ⟨x, _, rfl⟩ := List.mem_map.1 hv; rfl) (by simp; omega))
        go_wp2_with (first
          | (go_at_call 25; refine (HFL.out _ ((Fr.refl No wr).alloc _)).mono ?_; rintro e w1 ⟨v1, rfl, hown, hff⟩)
          | (go_at_call 21; refine (Crash_rough (HD.out.keep (((Fr.refl No wr).alloc _).trans hff) id id) hC _ keep (fun w' hf => (LAt.of_own hown).1.fr hf fun g hg hv => One.not (by have := (LAt.of_own hown).2.2 g hv; simp at this; omega))).mono ?_; rintro e w2 ⟨r, rfl, hr⟩))
        go_roundg (n - (j + 1))
        case rel => exact ⟨j + 1, by omega, by omega, by go_num, Lib.hid (hS.out _ _ (((Fr.refl No wr).alloc _).trans hff) hr)⟩
        case measure => omega
      have e7 : (kind == 7) = false := by simpa using q7
      by_cases q8 : kind = 8
      · subst q8
        go_wp2_with fail
        obtain ⟨W, hW⟩ : ∃ W, W = wr.alloc (.cells #[.int .i64 8, .bool two, .int .i64 sector, .int .i64 place, .slice a1 data.length c1, .bool fill, .slice a2 keep.length c2] 86) := ⟨_, rfl⟩
        have HPG2 : Hid (∀ w' : World, w'.heap[wr.heap.size]? = W.heap[wr.heap.size]? → w'.cell? ⟨wr.heap.size, 0, none⟩ = some (.int .i64 8) ∧ w'.cell? ⟨wr.heap.size, 1, none⟩ = some (.bool two) ∧ w'.cell? ⟨wr.heap.size, 2, none⟩ = some (.int .i64 sector) ∧ w'.cell? ⟨wr.heap.size, 3, none⟩ = some (.int .i64 place) ∧
            w'.cell? ⟨wr.heap.size, 4, none⟩ = some (.slice a1 data.length c1) ∧ w'.cell? ⟨wr.heap.size, 5, none⟩ = some (.bool fill) ∧ w'.cell? ⟨wr.heap.size, 6, none⟩ = some (.slice a2 keep.length c2)) := Lib.hid fun w' hk => by
          have hb : w'.heap[wr.heap.size]? = some (.cells #[.int .i64 8, .bool two, .int .i64 sector, .int .i64 place, .slice a1 data.length c1, .bool fill, .slice a2 keep.length c2] 86 (0, 0)) := by
            rw [hk, hW]; exact heap_alloc_new wr _
          exact ⟨cell_blk hb rfl, cell_blk hb rfl, cell_blk hb rfl, cell_blk hb rfl, cell_blk hb rfl, cell_blk hb rfl, cell_blk hb rfl⟩
        have HF : Hid (Fr No wr W) := Lib.hid (by rw [hW]; exact (Fr.refl _ wr).alloc _)
        have hsz : W.heap.size = wr.heap.size + 1 := by rw [hW]; simp
        have HSZ := Lib.hid hsz
        have hclt : c < wr.heap.size := HD.out.lt.2
        have HPG := Lib.hid (fun w' (hf : Fr No W w') => HPG2.out w' (hf.block _ (by omega) id))
        have HKEEP := Lib.hid (fun w1 w2 (hff : Fr No W.drew w1) (hr : Rough w1 w.heap.size c D w2) => HPG2.out w2 (by
          obtain ⟨_, _, _, _, _, _, hf2⟩ := hr
          have h1 := hff.size
          rw [hf2.block _ (by simp at h1; omega) (Two.not (by omega) (by omega))]
          exact hff.block _ (by simp; omega) id))
        rw [← hW]
        obtain ⟨p0, p1, p2, p3, p4, p5, p6⟩ := HPG.out W (Fr.refl _ _)
        clear hW hsz k0 k1 k2 k3 k4 k5 k6
        go_region_held3 (fun w' => w'.cell? ⟨wr.heap.size, 0, none⟩ = some (.int .i64 8) ∧ w'.cell? ⟨wr.heap.size, 1, none⟩ = some (.bool two) ∧ w'.cell? ⟨wr.heap.size, 2, none⟩ = some (.int .i64 sector) ∧ w'.cell? ⟨wr.heap.size, 3, none⟩ = some (.int .i64 place) ∧
            w'.cell? ⟨wr.heap.size, 4, none⟩ = some (.slice a1 data.length c1) ∧ w'.cell? ⟨wr.heap.size, 5, none⟩ = some (.bool fill) ∧ w'.cell? ⟨wr.heap.size, 6, none⟩ = some (.slice a2 keep.length c2))
          (first | go_keep | exact HPG.out _ (Fr.refl _ _).drew | exact HPG.out _ ((Fr.refl _ _).drew.trans hff) | exact HKEEP.out _ _ hff hr)
          (first
            | (go_at_call 28; refine (copied_any _ _ _ (HOK.out.no HF.out.drew).data (bvs_one _) (by simp; omega)).mono ?_; rintro e w1 ⟨v1, rfl, hown, hff⟩)
            | (go_at_call 29; refine (Edit_rough (HD.out.keep (HF.out.drew.trans hff) id id) sector place _ data (LAt.of_own hown).1 hdl).mono ?_; rintro e w2 ⟨r, rfl, hr⟩))
        all_goals
          go_wp2
          go_roundg (n - (j + 1))
          case rel => exact ⟨j + 1, by omega, by omega, by go_num, Lib.hid (hS.out _ _ (HF.out.drew.trans hff) hr)⟩
          case measure => omega
      have e8 : (kind == 8) = false := by simpa using q8
      go_wp2
      go_roundg (n - (j + 1))
      case rel => exact ⟨j + 1, by omega, by omega, by go_num, Lib.hid (hS.out _ _ ((Fr.refl _ wr).alloc _) ⟨c, D, HD.out.keep (S := No) ((Fr.refl _ wr).alloc _) id id, by omega, by omega, .inl rfl, Fr.refl _ _⟩)⟩
      case measure => omega
    · go_wp2
      go_ret
      obtain rfl : n = j := by omega
      exact ⟨rfl, HR.out⟩
end Go.Proofs.Ytppllhdocajfiaa
