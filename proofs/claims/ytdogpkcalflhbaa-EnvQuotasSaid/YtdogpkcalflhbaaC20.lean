/- Destroy. -/
import Derived.Test.YtdogpkcalflhbaaC19
set_option linter.unusedSimpArgs false
set_option linter.unusedVariables false
namespace Go.Proofs.Ytdogpkcalflhbaa
open Go.RowKit
section
variable {w w' : World} {b : Nat} {L : Lay} {T : Tb}
theorem Destroy_none (h : TabAt w b L T) (e : Int) (hr : T.at e = none) : Calls Try.prog 18 #[.pointer (some ⟨b, 0, none⟩), .int .i64 e] w fun v w' => v = .returned (.tuple #[.slice none 0 0, .int .i64 90]) ∧ Left w b L T w' := by
  have h1 := h.head
  have HB := Lib.hid (at_none h hr)
  have H := Lib.hid h
  clear h hr
  go_enter Try.func18, Try.ntmps18
  go_wp2_with fail
  refine HB.out.mono ?_
  rintro r w1 ⟨rfl, hf⟩
  have HF := Lib.hid hf
  clear hf
  go_wp2_with fail
  go_ret2
  exact ⟨rfl, H.out.no HF.out, HF.out.anyOwn⟩
theorem Destroy_zero (h : TabAt w b L T) (r : Rec) (hr : T.live 0 = some r) : Calls Try.prog 18 #[.pointer (some ⟨b, 0, none⟩), .int .i64 0] w fun v w' => v = .returned (.tuple #[.slice none 0 0, .int .i64 92]) ∧ Left w b L T w' := by
  have h1 := h.head
  have HB := Lib.hid (at_some h hr)
  have H := Lib.hid h
  clear h hr
  go_enter Try.func18, Try.ntmps18
  go_wp2_with fail
  refine HB.out.mono ?_
  rintro r w1 ⟨rfl, hf⟩
  have HF := Lib.hid hf
  clear hf
  go_wp2_with fail
  go_ret2
  exact ⟨rfl, H.out.no HF.out, HF.out.anyOwn⟩

/-- What Destroy needs of the tree. -/
structure Ends (T : Tb) (n p : Nat) (r rp : Rec) (t : List Nat) : Prop where
  he : T.live n = some r
  n0 : n ≠ 0
  par : r.parent = (p : Int)
  hp : T.live p = some rp
  np : n ≠ p
  tree : Forest T [n] t
  nodup : t.Nodup
  len : t.length ≤ 16
  pt : p ∉ t
  ok : Rok r
  sum : (rp.carved.minus r.whole.child).in64
  one : in64 (r.whole.e + 1)
  kids : rp.kids.length ≤ 16
/-- What Destroy leaves. -/
structure Gone (w : World) (b : Nat) (L : Lay) (T' : Tb) (lv : Value) (t : List Nat) (w' : World) : Prop where
  own : w'.ownsRow w.heap.size 3 1 lv t.length (kidv t)
  tab : ∃ L', TabAt w' b L' T' ∧ (∀ k, Own L' k → Own L k ∨ w.heap.size ≤ k) ∧ ∀ g, lv.ownBlock = some g → ¬ Own L' g
  fr : Fr (Own L) w w'

theorem drops_snoc (T : Tb) (l : List Nat) (n : Nat) : T.drops (l ++ [n]) = (T.drops l).drop n := by unfold Tb.drops; rw [List.foldl_append]; rfl
set_option maxRecDepth 10000 in
set_option maxHeartbeats 8000000 in
theorem Destroy_ok (h : TabAt w b L T) (n p : Nat) (r rp : Rec) (t : List Nat) (E : Ends T n p r rp t) : Calls Try.prog 18 #[.pointer (some ⟨b, 0, none⟩), .int .i64 (n : Int)] w fun v w' => ∃ lv, v = .returned (.tuple #[lv, .int .i64 0]) ∧ Gone w b L (T.gone p n rp r t) lv t w' := by
  obtain ⟨i3, hi3, hz30, hz31, hz32⟩ := info_parts Try.info3
  have h1 := h.head
  have HB := Lib.hid (at_some h E.he)
  have H := Lib.hid h
  have HE := Lib.hid E
  have hn0 : ((n : Int) == 0) = false := by have := E.n0; simp; omega
  clear h E
  go_enter Try.func18, Try.ntmps18
  go_wp2_with fail
  refine HB.out.mono ?_
  rintro v w1 ⟨rfl, hf⟩
  have HF1 := Lib.hid hf
  have HT1 := Lib.hid (H.out.no hf)
  clear hf
  go_wp2_with fail
  refine (walk_any 16 w1 n t (.slice none 0 0) [] w1.heap.size HT1.out HE.out.tree HE.out.len (World.ownsRow_nil _ _ _ _) (Nat.le_refl _) (fun g hg => by cases hg) (by have := HE.out.len; simp; omega)).mono ?_
  rintro v w2 ⟨lv, rfl, hw2⟩
  have HW2 : Hid (w2.ownsRow w1.heap.size 3 1 lv t.length (kidv t) ∧ Fr No w1 w2) := Lib.hid ⟨hw2.own, hw2.fr.mono fun k _ hk => by cases hk⟩
  have HT2 := Lib.hid (HT1.out.no HW2.out.2)
  clear hw2
  have KC : Hid (∀ w', Fr No w2 w' → w'.cell? ⟨b, 0, none⟩ = some (.pointer (some ⟨L.tb, 0, none⟩)) ∧ w'.cell? ⟨L.rb n, 1, none⟩ = some (.int .i64 (p : Int))) := Lib.hid fun w' hf => ⟨(HT2.out.no hf).head, by rw [← HE.out.par]; exact (HT2.out.no hf).c1 HE.out.he⟩
  have KT : Hid (∀ w', Fr No w2 w' → TabAt w' b L T) := Lib.hid fun w' hf => HT2.out.no hf
  obtain ⟨c0, c1⟩ := KC.out _ (Fr.refl _ _)
  have lt0 : b < w2.heap.size := World.block_lt_of_cell? _ _ c0
  have lt1 : L.rb n < w2.heap.size := World.block_lt_of_cell? _ _ c1
  go_wp2_with fail
  go_region_held3 (fun w' => w'.cell? ⟨b, 0, none⟩ = some (.pointer (some ⟨L.tb, 0, none⟩)) ∧ w'.cell? ⟨L.rb n, 1, none⟩ = some (.int .i64 (p : Int)))
    (first | (with_reducible exact KC.out _ (Fr.refl _ _).drew) | (with_reducible exact KC.out _ ((Fr.refl _ _).drew.trans hf3)) | go_keep)
    (first
      | ((with_reducible refine (at_some (KT.out _ (Fr.refl _ _).drew) HE.out.hp).mono ?_); rintro v w3 ⟨rfl, hf3⟩))
  have HF3 : Hid (Fr No w2 w3) := Lib.hid ((Fr.refl _ _).drew.trans hf3)
  have HT3 := Lib.hid (KT.out _ HF3.out)
  clear hf3 c0 c1 lt0 lt1
  have hrne : L.rb n ≠ L.rb p := fun e => by
    have h1 := HT3.out.frb n r HE.out.he
    rw [e, HT3.out.frb p rp HE.out.hp] at h1
    have := HE.out.np
    simp at h1
    omega
  have HRNE := Lib.hid hrne
  have KD : Hid (∀ w', Fr (One (L.rb p)) w3 w' → w'.cell? ⟨L.rb n, 21, none⟩ = some (.int .i64 r.whole.f) ∧ w'.cell? ⟨L.rb n, 22, none⟩ = some (.int .i64 r.whole.e) ∧ w'.cell? ⟨L.rb n, 23, none⟩ = some (.int .i64 r.whole.x)) := Lib.hid fun w' hf => by
    have hb := hf.heap (HT3.out.hrb n r HE.out.he) (One.not HRNE.out)
    exact ⟨cell_blk hb rfl, cell_blk hb rfl, cell_blk hb rfl⟩
  obtain ⟨c0, c1, c2⟩ := KD.out _ (Fr.refl _ _)
  have lt1 : L.rb n < w3.heap.size := World.block_lt_of_cell? _ _ c0
  clear hrne
  go_wp2_with fail
  go_region_held3 (fun w' => w'.cell? ⟨L.rb n, 21, none⟩ = some (.int .i64 r.whole.f) ∧ w'.cell? ⟨L.rb n, 22, none⟩ = some (.int .i64 r.whole.e) ∧ w'.cell? ⟨L.rb n, 23, none⟩ = some (.int .i64 r.whole.x))
    (first | (with_reducible exact KD.out _ (Fr.refl _ _).drew) | (with_reducible exact KD.out _ ((Fr.refl _ _).drew.trans hf4)) | go_keep)
    (first
      | ((with_reducible refine (uncarve_raw (Fr.heap (Fr.refl No w3).drew (HT3.out.hrb p rp HE.out.hp) id) r.whole.f r.whole.e r.whole.x HE.out.one HE.out.sum).mono ?_); rintro v w4 ⟨rfl, hh4, hf4⟩))
  have HT4 : Hid (TabAt w4 b L (T.set p { rp with carved := rp.carved.minus r.whole.child })) := Lib.hid ((HT3.out.no (Fr.refl _ _).drew).putRec HE.out.hp rfl hh4 hf4)
  have HF4 : Hid (Fr (One (L.rb p)) w3 w4) := Lib.hid ((Fr.refl _ _).drew.trans hf4)
  clear hh4 hf4 c0 c1 c2 lt1
  have hlive4 : (T.set p { rp with carved := rp.carved.minus r.whole.child }).live p = some { rp with carved := rp.carved.minus r.whole.child } := Tb.set_same _ _ _
  have HL4 := Lib.hid hlive4
  obtain ⟨ak, capk, hkv, hk0⟩ := own_slice (HT4.out.hkb p _ hlive4)
  have hk0 : 0 < rp.kids.length → ∃ g, ak = some ⟨g, 0, none⟩ ∧ rp.kids.length ≤ capk ∧ 0 ≤ g ∧ g < w4.heap.size := hk0
  have hkv : L.kv p = .slice ak rp.kids.length capk := hkv
  have HKV := Lib.hid hkv
  have HK0 := Lib.hid hk0
  have c30 := HT4.out.c30 hlive4
  rw [hkv] at c30
  have ltp := HT4.out.ltRec hlive4
  obtain ⟨nk, hnk⟩ : ∃ nk, rp.kids.length = nk := ⟨_, rfl⟩
  rw [hnk] at c30 HKV HK0
  have HNK := Lib.hid hnk
  have hnk16 : nk ≤ 16 := by have := HE.out.kids; omega
  clear hkv hk0 hlive4 hnk
  go_wp2_with fail
  go_loopg [9, 51] nk (fun m vr i wr => ∃ j : Nat, j ≤ nk ∧ m + j = nk ∧ i = .int .i64 j ∧ Hid (wr.ownsRow w4.heap.size 3 1 vr ((rp.kids.take j).filter fun c => c != n).length (kidv ((rp.kids.take j).filter fun c => c != n)) ∧ Fr No w4 wr))
  case atStart => exact ⟨0, by omega, by omega, rfl, Lib.hid ⟨by simpa [kidv] using World.ownsRow_nil _ _ _ _, Fr.refl _ _⟩⟩
  case round =>
    obtain ⟨j, hj, hm, rfl, HR⟩ := hrel
    by_cases hlt : j < nk
    · obtain ⟨c, hc⟩ : ∃ c, rp.kids[j]? = some c := ⟨_, List.getElem?_eq_getElem (by rw [HNK.out]; exact hlt)⟩
      obtain ⟨gq, rfl, _⟩ := HK0.out (by omega)
      have hcell : wr.cell? ⟨gq, j, none⟩ = some (.int .i64 (c : Int)) := by
        have h1 := (HT4.out.no HR.out.2).hkb p _ HL4.out
        have h1 : wr.ownsRow 0 3 1 (L.kv p) rp.kids.length (kidv rp.kids) := h1
        rw [HKV.out, HNK.out] at h1
        exact own_cell h1 (by unfold kidv; rw [List.getElem?_map, hc]; rfl)
      have hcg : gq < wr.heap.size := World.block_lt_of_cell? _ _ hcell
      have htk : rp.kids.take (j + 1) = rp.kids.take j ++ [c] := by rw [List.take_add_one, hc]; rfl
      have HTK := Lib.hid htk
      have HLN : Hid (((rp.kids.take j).filter fun c => c != n).length ≤ 16) := Lib.hid (by
        have h1 := List.length_filter_le (fun c => c != n) (rp.kids.take j)
        have h2 : (rp.kids.take j).length ≤ j := List.length_take_le _ _
        omega)
      obtain ⟨X, hX⟩ : ∃ X, Hid (((rp.kids.take j).filter fun c => c != n) = X) := ⟨_, Lib.hid rfl⟩
      rw [hX.out] at HR HLN
      clear hc htk
      by_cases hce : c = n
      · have hce' : ((c : Int) != (n : Int)) = false := by subst hce; simp
        have HCE := Lib.hid hce
        clear hce
        go_wp2_with fail
        go_roundg (nk - (j + 1))
        case rel => exact ⟨j + 1, by omega, by omega, by go_num, Lib.hid (by rw [HTK.out, List.filter_append, hX.out, HCE.out]; simpa using HR.out)⟩
        case measure => omega
      · have hce' : ((c : Int) != (n : Int)) = true := by simp; omega
        have HCE := Lib.hid hce
        clear hce
        go_wp2_with (with_reducible show wpList _ _ _ (Oper.mk (some 61) _ _ _ _ _ :: _) _ _; refine Stop.mk ?_)
        obtain ⟨W5, hW5⟩ : ∃ W, W = wr.alloc (.cells #[.int .i64 (c : Int)] 3) := ⟨_, rfl⟩
        rw [← hW5]
        have HA5 : Hid (Fr No wr W5 ∧ W5.heap[wr.heap.size]? = some (.cells #[.int .i64 (c : Int)] 3 (0, 0)) ∧ W5.heap.size = wr.heap.size + 1) := Lib.hid (by rw [hW5]; exact ⟨(Fr.refl _ _).alloc _, heap_alloc_new _ _, by simp⟩)
        clear hW5
        refine Stop.go ?_
        refine wpList_append_lies _ rfl (.tmp 58) (.tmp 60) 22 rfl w4.heap.size 3 i3 (.int .i64 0) 1 8 Try.underlying22 hi3 hz30 hz31 hz32 rfl (by omega) u9 X.length (kidv X) rfl (own_fr HR.out.1 HA5.out.1 fun _ _ => id) ⟨wr.heap.size, 0, none⟩ 1 1 [.int .i64 (c : Int)] rfl rfl ?news ?one (by omega) (by have := HLN.out; unfold maxLen; omega) (by have := HLN.out; omega) (by have := HR.out.2.size; have := HA5.out.2.2; omega) (wr.heap.size + 1) (by rw [HA5.out.2.2]) ?_
        case news => exact World.news_of_block (cs := #[.int .i64 (c : Int)]) (t := 3) (fr := (0, 0)) HA5.out.2.1
        case one => intro u hu; simp at hu; subst hu; rfl
        intro g6 cap6 w6 hown6 hgrow6 hat6 hlt6
        have HR6 : Hid (w6.ownsRow w4.heap.size 3 1 (.slice (some ⟨g6, 0, none⟩) (X.length + 1) cap6) (X ++ [c]).length (kidv (X ++ [c])) ∧ Fr No w4 w6) := Lib.hid ⟨by rw [List.length_append, kidv_append]; exact hown6, Fr.grown (HR.out.2.trans HA5.out.1) hgrow6 fun k hk => .inr (by have := HR.out.1.lt k hk; omega)⟩
        clear hown6 hgrow6 hat6 hlt6
        go_wp2_with fail
        go_roundg (nk - (j + 1))
        case rel => exact ⟨j + 1, by omega, by omega, by go_num, Lib.hid (by
          have e : ((rp.kids.take j ++ [c]).filter fun c => c != n) = X ++ [c] := by
            rw [List.filter_append, hX.out]
            have := HCE.out
            simp [this]
          rw [HTK.out, e]; exact HR6.out)⟩
        case measure => omega
    · obtain rfl : j = nk := by omega
      have hfull : rp.kids.take j = rp.kids := List.take_of_length_le (by rw [HNK.out]; omega)
      rw [hfull] at HR
      obtain ⟨X, hX⟩ : ∃ X, Hid ((rp.kids.filter fun c => c != n) = X) := ⟨_, Lib.hid rfl⟩
      rw [hX.out] at HR
      clear hfull
      obtain ⟨ar, capr, hu9, _⟩ := own_slice HR.out.1
      obtain ⟨nr, hnr⟩ : ∃ nr, Hid (X.length = nr) := ⟨_, Lib.hid rfl⟩
      rw [hnr.out] at HR hu9
      subst hu9
      have HTR := Lib.hid (HT4.out.no HR.out.2)
      have d30 := HTR.out.c30 HL4.out
      have d30f := HTR.out.free HL4.out 30
      have dlt := HTR.out.ltRec HL4.out
      have HVR : Hid (∀ g, (Value.slice ar nr capr).ownBlock = some g → w4.heap.size ≤ g) := Lib.hid fun g hg => (HR.out.1.lt g hg).1
      have HS34 : Hid (w.heap.size ≤ w1.heap.size ∧ w1.heap.size ≤ w2.heap.size ∧ w2.heap.size ≤ w3.heap.size ∧ w3.heap.size ≤ w4.heap.size ∧ w4.heap.size ≤ wr.heap.size) := Lib.hid ⟨HF1.out.size, HW2.out.2.size, HF3.out.size, HF4.out.size, HR.out.2.size⟩
      have HT5 : Hid (TabAt (wr.setCell ⟨L.rb p, 30, none⟩ (.slice ar nr capr)) b (L.kids p (.slice ar nr capr)) (T.set p (rp.without n r))) := Lib.hid (by
        have h1 := HT4.out.setKids (w' := wr) HL4.out (l := X) (v := (.slice ar nr capr)) (HR.out.2.mono fun _ _ h => h.elim) (by rw [hnr.out]; exact own_mono HR.out.1 (Nat.zero_le _)) (fun g hg => .inr (by
          cases e : L.F g with
          | none => rfl
          | some tg =>
            have h1 := H.out.flt g (by unfold Own; rw [e]; simp)
            have h2 := HVR.out g hg
            have h3 := HS34.out
            omega))
        rw [Tb.set_set] at h1
        unfold Rec.without
        rw [hX.out]
        exact h1)
      have HLV : Hid (∀ g, lv.ownBlock = some g → w1.heap.size ≤ g ∧ g < w2.heap.size) := Lib.hid fun g hg => HW2.out.1.lt g hg
      have HOL : Hid (∀ k, Own (L.kids p (.slice ar nr capr)) k → (Own L k ∧ k < w.heap.size) ∨ w4.heap.size ≤ k) := Lib.hid fun k hk => by
        unfold Own at hk
        simp only [Lay.kids] at hk
        by_cases e : (Value.slice ar nr capr).ownBlock = some k
        · exact .inr (HVR.out k e)
        · rw [if_neg e] at hk
          exact .inl ⟨hk, H.out.flt k hk⟩
      have HLO : Hid (∀ g, lv.ownBlock = some g → ¬ Own (L.kids p (.slice ar nr capr)) g) := Lib.hid fun g hg ho => by
        have h1 := HLV.out g hg
        have h2 := HS34.out
        rcases HOL.out g ho with h3 | h3 <;> omega
      have HOP : Hid (Own L (L.rb p)) := Lib.hid (H.out.ownRec HE.out.hp)
      have HFW : Hid (Fr (Own L) w (wr.setCell ⟨L.rb p, 30, none⟩ (.slice ar nr capr))) := Lib.hid (((((HF1.out.trans HW2.out.2).trans HF3.out).anyOwn.trans (HF4.out.mono fun k _ hk => by have e : k = L.rb p := hk; rw [e]; exact HOP.out)).trans HR.out.2.anyOwn).own HOP.out)
      have HO5 : Hid ((wr.setCell ⟨L.rb p, 30, none⟩ (.slice ar nr capr)).ownsRow w1.heap.size 3 1 lv t.length (kidv t)) := Lib.hid (by
        have hne : ∀ g, lv.ownBlock = some g → g ≠ L.rb p := fun g hg e => by
          have h1 := HLV.out g hg
          have h2 := H.out.flt _ HOP.out
          have h3 := HS34.out
          omega
        exact own_fr (own_fr (own_fr (own_fr HW2.out.1 HF3.out fun _ _ => id) HF4.out fun g hg => One.not (hne g hg)) HR.out.2 fun _ _ => id) (Fr.set1 _ _ _ _) fun g hg => One.not (hne g hg))
      obtain ⟨w5, hw5⟩ : ∃ w5, w5 = wr.setCell ⟨L.rb p, 30, none⟩ (.slice ar nr capr) := ⟨_, rfl⟩
      rw [← hw5] at HT5 HFW HO5
      have HW5 := Lib.hid hw5
      clear hw5
      obtain ⟨al, capl, hlv, hl0⟩ := own_slice HO5.out
      have HL0 := Lib.hid hl0
      subst hlv
      obtain ⟨nt, hnt⟩ : ∃ nt, t.length = nt := ⟨_, rfl⟩
      rw [hnt] at HL0 HO5 HLO HLV ⊢
      have hnt16 : nt ≤ 16 := by have := HE.out.len; omega
      have HNT := Lib.hid hnt
      have HS5 : Hid (w.heap.size ≤ w5.heap.size) := Lib.hid HFW.out.size
      clear hl0 hnt
      go_wp2_with (with_reducible show wpList _ _ _ (Oper.mk (some 68) _ _ _ _ _ :: _) _ _; refine Stop.mk ?_)
      rw [← HW5.out]
      clear d30 d30f dlt
      refine Stop.go ?_
      go_wp2_with fail
      go_loopg [69] nt (fun m i wr => ∃ j : Nat, j ≤ nt ∧ m + j = nt ∧ i = .int .i64 j ∧ Hid (TabAt wr b (L.kids p (.slice ar nr capr)) ((T.set p (rp.without n r)).drops (t.take j)) ∧ Fr (Own (L.kids p (.slice ar nr capr))) w5 wr))
      case atStart => exact ⟨0, by omega, by omega, rfl, Lib.hid ⟨by simpa [Tb.drops] using HT5.out, Fr.refl _ _⟩⟩
      case round =>
        obtain ⟨j, hj, hm, rfl, HR2⟩ := hrel
        by_cases hlt : j < nt
        · obtain ⟨c, hc⟩ : ∃ c, t[j]? = some c := ⟨_, List.getElem?_eq_getElem (by rw [HNT.out]; exact hlt)⟩
          obtain ⟨gq, rfl, _⟩ := HL0.out (by omega)
          have hcell : wr.cell? ⟨gq, j, none⟩ = some (.int .i64 (c : Int)) := own_cell (own_fr HO5.out HR2.out.2 fun g hg => HLO.out g hg) (by unfold kidv; rw [List.getElem?_map, hc]; rfl)
          have hcg : gq < wr.heap.size := World.block_lt_of_cell? _ _ hcell
          obtain ⟨rc, hrc⟩ := HE.out.tree.live c (List.mem_of_getElem? hc)
          have hcp : c ≠ p := fun e => HE.out.pt (e ▸ List.mem_of_getElem? hc)
          have hcj : c ∉ t.take j := fun hx => by
            obtain ⟨i, hi⟩ := List.getElem?_of_mem hx
            rw [List.getElem?_take] at hi
            split at hi
            · rename_i hij
              have hp := List.pairwise_iff_getElem.1 HE.out.nodup
              obtain ⟨l3, v3⟩ := List.getElem?_eq_some_iff.1 hi
              obtain ⟨l4, v4⟩ := List.getElem?_eq_some_iff.1 hc
              exact hp i j l3 l4 hij (by rw [v3, v4])
            · cases hi
          have HLC : Hid (((T.set p (rp.without n r)).drops (t.take j)).live c = some rc) := Lib.hid (by rw [drops_live, if_neg hcj, T.set_other _ hcp]; exact hrc)
          have HTK : Hid (t.take (j + 1) = t.take j ++ [c]) := Lib.hid (by rw [List.take_add_one, hc]; rfl)
          have hhd := HR2.out.1.head
          have hbg : b < wr.heap.size := World.block_lt_of_cell? _ _ hhd
          have htb : (L.kids p (.slice ar nr capr)).tb = L.tb := rfl
          rw [htb] at hhd
          have HDR := Lib.hid (Drop_any HR2.out.1 HLC.out)
          rw [htb] at HDR
          clear hc hrc hcp hcj htb
          go_wp2_with fail
          refine HDR.out.mono ?_
          rintro x w7 ⟨⟨v7, rfl⟩, hl7⟩
          have HR7 := Lib.hid (And.intro hl7.tab (HR2.out.2.trans hl7.fr))
          clear hl7
          go_wp2_with fail
          go_roundg (nt - (j + 1))
          case rel => exact ⟨j + 1, by omega, by omega, by go_num, Lib.hid (by rw [HTK.out, drops_snoc]; exact HR7.out)⟩
          case measure => omega
        · obtain rfl : j = nt := by omega
          have hfull : t.take j = t := List.take_of_length_le (by rw [HNT.out]; omega)
          rw [hfull] at HR2
          clear hfull
          go_wp2_with fail
          go_ret2
          refine ⟨_, rfl, own_mono (by rw [HNT.out]; exact own_fr HO5.out HR2.out.2 fun g hg => HLO.out g hg) (HS34.out.1), ⟨_, HR2.out.1, fun k hk => ?_, HLO.out⟩, HFW.out.then HR2.out.2 fun i hi hk => ?_⟩
          · have := HS34.out
            rcases HOL.out k hk with h3 | h3
            · exact .inl h3.1
            · right; omega
          · have := HS34.out
            rcases HOL.out i hk with h3 | h3
            · exact h3.1
            · omega
end
end Go.Proofs.Ytdogpkcalflhbaa
