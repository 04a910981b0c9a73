/- Create: done. -/
import Derived.Test.YtdogpkcalflhbaaC12
set_option linter.unusedSimpArgs false
set_option linter.unusedVariables false
namespace Go.Proofs.Ytdogpkcalflhbaa
open Go.RowKit
theorem Try.info3 : (Try.prog.info? 3).map (fun i => (i.zero, i.size, i.bytes)) = some (some (.int .i64 0), 1, 8) := by kernel_rfl
theorem kidv_one (l : List Nat) : ∀ v ∈ kidv l, v.oneCell' = true := by
  intro v hv
  obtain ⟨x, _, rfl⟩ := List.mem_map.1 hv
  rfl
section
variable {w w' W : World} {b : Nat} {L : Lay} {T : Tb} {q0 q1 q2 : Int}
theorem TabAt.two_own (h : TabAt w b L T) {a c : World} (hf : Fr (Two L.tb L.cb) a c) : Fr (Own L) a c := hf.mono fun k _ hk => by
  rcases hk with rfl | rfl
  · unfold Own; rw [h.ftb]; simp
  · unfold Own; rw [h.fcb]; simp
set_option maxRecDepth 100000 in
set_option maxHeartbeats 4000000 in
theorem Create_ok (h : TabAt w b L T) (n : Nat) (r : Rec) (hn : T.live n = some r) (ok : Rok r) (s q0 q1 q2 : Int) (hg : goodB ⟨q0, q1, q2⟩ = true) (hs1 : T.last < s) (hs2 : s ≤ 4611686018427387903) (hfit : fitB (Qt.child ⟨q0, q1, q2⟩) r.left = true) (nn : Nat) (hx : T.low ≤ nn ∧ nn < 16 ∧ T.live nn = none ∧ ∀ m, T.low ≤ m → m < nn → (T.live m).isSome = true) (hsum : (r.carved.plus (Qt.child ⟨q0, q1, q2⟩)).in64) (hkl : r.kids.length ≤ 16) :
    Calls Try.prog 17 #[.pointer (some ⟨b, 0, none⟩), .int .i64 (n : Int), .int .i64 s, .agg #[.int .i64 q0, .int .i64 q1, .int .i64 q2]] w fun e w' =>
    e = .returned (.tuple #[.int .i64 (nn : Int), .int .i64 0]) ∧ Moved w b L { (T.add nn (Rec.new s n ⟨q0, q1, q2⟩)).set n { r with carved := r.carved.plus (Qt.child ⟨q0, q1, q2⟩), kids := r.kids ++ [nn] } with last := s } w' := by
  obtain ⟨i3, hi3, hz30, hz31, hz32⟩ := info_parts Try.info3
  have h1 := h.head
  have hbw : b < w.heap.size := lt_of_block h.hb
  obtain ⟨W, hW⟩ : ∃ W, Hid (W = w.alloc (.cells #[.int .i64 q0, .int .i64 q1, .int .i64 q2] 39)) := ⟨_, Lib.hid rfl⟩
  have HQ : Hid (Boxed w q0 q1 q2 W) := Lib.hid (by rw [hW.out]; exact Boxed.mk' _ _ _ _)
  have H := Lib.hid h
  have HN := Lib.hid hn
  have HB := Lib.hid (at_some (h.no HQ.out.fr) hn)
  have HG := Lib.hid (fun w => good_raw q0 q1 q2 w)
  rw [hg] at HG
  have HC := Lib.hid (good_child hg)
  have HOK := Lib.hid ok
  have HFI := Lib.hid (fun w => fits_raw q0 (q1 + 1) q2 r.left.f r.left.e r.left.x w)
  have hfit' : fitB ⟨q0, q1 + 1, q2⟩ ⟨r.left.f, r.left.e, r.left.x⟩ = true := hfit
  rw [hfit'] at HFI
  obtain ⟨last, hl⟩ : ∃ l, Hid (T.last = l) := ⟨_, Lib.hid rfl⟩
  rw [hl.out] at hs1
  obtain ⟨g, hgg⟩ : ∃ g, Hid (L.rb n = g) := ⟨_, Lib.hid rfl⟩
  rw [hgg.out] at HB
  have KH : Hid (∀ w', Fr No w w' → w'.heap[g]? = some (.cells (reccells r (L.kv n)) 80 (0, 0))) := Lib.hid fun w' hf => by rw [← hgg.out]; exact hf.heap (H.out.hrb n r HN.out) id
  have HX := Lib.hid hx
  have HSUM := Lib.hid hsum
  have HKL := Lib.hid hkl
  have KT : Hid (∀ w', Fr No w w' → TabAt w' b L T) := Lib.hid fun w' hf => H.out.no hf
  have HLT : Hid (b ≠ L.tb ∧ b ≠ L.cb ∧ w.heap.size ≠ L.tb ∧ w.heap.size ≠ L.cb ∧ L.tb < w.heap.size ∧ L.cb < w.heap.size ∧ b < w.heap.size) := Lib.hid (by
    have e1 := H.out.flt L.tb (by unfold Own; rw [H.out.ftb]; simp)
    have e2 := H.out.flt L.cb (by unfold Own; rw [H.out.fcb]; simp)
    refine ⟨fun e => ?_, fun e => ?_, by omega, by omega, e1, e2, hbw⟩
    · have := H.out.fb; rw [e, H.out.ftb] at this; simp at this
    · have := H.out.fb; rw [e, H.out.fcb] at this; simp at this)
  clear h hn hg hfit hfit' ok hx hsum hkl
  go_enter Try.func17, Try.ntmps17
  go_wp2_with fail
  rw [← hW.out]
  refine HB.out.mono ?_
  rintro v w1 ⟨rfl, hf⟩
  have HQ1 := Lib.hid (HQ.out.no hf)
  have c0 := HQ1.out.c0
  have c1 := HQ1.out.c1
  have c2 := HQ1.out.c2
  have clt := HQ1.out.lt
  clear hf
  go_wp2_with fail
  refine (HG.out _).mono ?_
  rintro v w2 ⟨rfl, hf⟩
  have HQ2 := Lib.hid (HQ1.out.no hf)
  have k := (H.out.no HQ2.out.fr).last
  rw [hl.out] at k
  have klt : b < w2.heap.size := World.block_lt_of_cell? _ _ k
  clear hf c0 c1 c2 clt
  have hs3 : ¬ s ≤ last := by omega
  have hs4 : ¬ 4611686018427387903 < s := by omega
  have KC : Hid (∀ w', Fr No w2 w' → w'.cell? ⟨w.heap.size, 0, none⟩ = some (.int .i64 q0) ∧ w'.cell? ⟨w.heap.size, 1, none⟩ = some (.int .i64 q1) ∧ w'.cell? ⟨w.heap.size, 2, none⟩ = some (.int .i64 q2)) := Lib.hid fun w' hf => ⟨(HQ2.out.no hf).c0, (HQ2.out.no hf).c1, (HQ2.out.no hf).c2⟩
  obtain ⟨c0, c1, c2⟩ := KC.out _ (Fr.refl _ _)
  have clt := HQ2.out.lt
  have HFW := Lib.hid HQ2.out.fr
  go_wp2_with fail
  go_region_held3 (fun w' => w'.cell? ⟨w.heap.size, 0, none⟩ = some (.int .i64 q0) ∧ w'.cell? ⟨w.heap.size, 1, none⟩ = some (.int .i64 q1) ∧ w'.cell? ⟨w.heap.size, 2, none⟩ = some (.int .i64 q2))
    (first | go_keep | (with_reducible exact KC.out _ (Fr.refl _ _).drew) | (with_reducible exact KC.out _ ((Fr.refl _ _).drew.trans hf3)) | (with_reducible exact KC.out _ ((Fr.refl _ _).drew.trans hf4)) | (with_reducible exact KC.out _ (((Fr.refl _ _).drew.trans hf3).trans hf4)) | (with_reducible exact KC.out _ (((Fr.refl _ _).drew.trans hf4).trans hf3)) | (with_reducible exact KC.out _ ((((Fr.refl _ _).drew.trans hf3).trans hf4).trans hf5)) | (with_reducible exact KC.out _ ((((Fr.refl _ _).drew.trans hf4).trans hf3).trans hf5)))
    (first
      | ((with_reducible refine (forChild_raw q0 q1 q2 _ HC.out).mono ?_); rintro e w3 ⟨rfl, hf3⟩)
      | ((with_reducible refine (left_any (KH.out _ (HFW.out.trans (Fr.refl _ _).drew)) HOK.out).mono ?_); rintro e w4 ⟨rfl, hf4⟩; unfold qv)
      | ((with_reducible refine (left_any (KH.out _ ((HFW.out.trans (Fr.refl _ _).drew).trans hf3)) HOK.out).mono ?_); rintro e w4 ⟨rfl, hf4⟩; unfold qv)
      | ((with_reducible refine (HFI.out _).mono ?_); rintro e w5 ⟨rfl, hf5⟩))
  have HQ5 : Hid (Boxed w q0 q1 q2 w5) := Lib.hid (HQ2.out.no ((((Fr.refl _ _).drew.trans hf3).trans hf4).trans hf5))
  have HF5 : Hid (Fr No w w5) := Lib.hid (HFW.out.trans ((((Fr.refl _ _).drew.trans hf3).trans hf4).trans hf5))
  clear hf3 hf4 hf5
  have KD : Hid (∀ w' w'', Fr No w5 w' → Fr (Two L.tb L.cb) w' w'' → w''.cell? ⟨b, 0, none⟩ = some (.pointer (some ⟨L.tb, 0, none⟩)) ∧ w''.cell? ⟨w.heap.size, 0, none⟩ = some (.int .i64 q0) ∧ w''.cell? ⟨w.heap.size, 1, none⟩ = some (.int .i64 q1) ∧ w''.cell? ⟨w.heap.size, 2, none⟩ = some (.int .i64 q2)) := Lib.hid fun w' w'' hf hf2 => by
    have e := HLT.out
    have hb := hf2.heap ((HF5.out.trans hf).heap H.out.hb id) (Two.not e.1 e.2.1)
    have hq := hf2.heap ((HQ5.out.no hf).blk) (Two.not e.2.2.1 e.2.2.2.1)
    exact ⟨cell_blk hb rfl, cell_blk hq rfl, cell_blk hq rfl, cell_blk hq rfl⟩
  clear c0 c1 c2 clt k klt
  obtain ⟨cb0, c0, c1, c2⟩ := KD.out _ _ (Fr.refl _ _) (Fr.refl _ _)
  have clt : w.heap.size < w5.heap.size := World.block_lt_of_cell? _ _ c0
  have blt : b < w5.heap.size := World.block_lt_of_cell? _ _ cb0
  go_wp2_with fail
  go_region_held3 (fun w' => w'.cell? ⟨b, 0, none⟩ = some (.pointer (some ⟨L.tb, 0, none⟩)) ∧ w'.cell? ⟨w.heap.size, 0, none⟩ = some (.int .i64 q0) ∧ w'.cell? ⟨w.heap.size, 1, none⟩ = some (.int .i64 q1) ∧ w'.cell? ⟨w.heap.size, 2, none⟩ = some (.int .i64 q2))
    (first | go_keep | (with_reducible exact KD.out _ _ (Fr.refl _ _).drew (Fr.refl _ _)) | (with_reducible exact KD.out _ _ ((Fr.refl _ _).alloc _).drew (Fr.refl _ _)) | (with_reducible exact KD.out _ _ ((Fr.refl _ _).alloc _).drew hf6))
    (first
      | ((with_reducible refine (Put_ok (KT.out _ ((HF5.out.alloc _).drew)) nn HX.out.1 HX.out.2.1 HX.out.2.2.1 HX.out.2.2.2 _).mono ?_); rintro e w6 ⟨rfl, hl6⟩; have hf6 := hl6.fr))
  have HFW6 : Hid (Fr No w ((w5.alloc (.cells (reccells (Rec.new s n ⟨q0, q1, q2⟩) (.slice none 0 0)) 80)).drew)) := Lib.hid ((HF5.out.alloc _).drew)
  have hl6' : Laid ((w5.alloc (.cells (reccells (Rec.new s n ⟨q0, q1, q2⟩) (.slice none 0 0)) 80)).drew) L nn (.pointer (some ⟨w5.heap.size, 0, none⟩)) w6 := hl6
  have HL6 := Lib.hid hl6'
  have hno : L.F w5.heap.size = none := by
    cases e : L.F w5.heap.size with
    | none => rfl
    | some t => have h1 := H.out.flt w5.heap.size (by unfold Own; rw [e]; simp); have := HF5.out.size; omega
  have hg6 : w6.heap[w5.heap.size]? = some (.cells (reccells (Rec.new s n ⟨q0, q1, q2⟩) (.slice none 0 0)) 80 (0, 0)) := by
    refine hl6'.fr.heap (Fr.heap (Fr.refl No _).drew (heap_alloc_new w5 _) id) (Two.not ?_ ?_)
    · have := HLT.out; have := HF5.out.size; omega
    · have := HLT.out; have := HF5.out.size; omega
  have HT6 := Lib.hid ((KT.out _ HFW6.out).add hno hl6' hg6 rfl HX.out.2.2.1 HX.out.2.1)
  have HNN : Hid (n ≠ nn) := Lib.hid (fun e => by have h1 := HN.out; rw [e, HX.out.2.2.1] at h1; cases h1)
  have HN6 : Hid ((T.add nn (Rec.new s n ⟨q0, q1, q2⟩)).live n = some r) := Lib.hid (by simp only [Tb.add, Tb.set]; rw [if_neg HNN.out]; exact HN.out)
  have HR6 : Hid ((L.add nn w5.heap.size).rb n = g) := Lib.hid (by simp only [Lay.add]; rw [if_neg HNN.out]; exact hgg.out)
  have HV6 : Hid ((L.add nn w5.heap.size).kv n = L.kv n) := Lib.hid (by simp only [Lay.add]; rw [if_neg HNN.out])
  have HNO := Lib.hid hno
  obtain ⟨kv, hkv⟩ : ∃ kv, Hid (L.kv n = kv) := ⟨_, Lib.hid rfl⟩
  have HG6 : Hid (w6.heap[g]? = some (.cells (reccells r kv) 80 (0, 0))) := Lib.hid (by
    have := HT6.out.hrb n r HN6.out
    rw [HR6.out, HV6.out, hkv.out] at this
    exact this)
  have HGQ : Hid (g ≠ w.heap.size) := Lib.hid (by have := lt_of_block (KH.out _ (Fr.refl _ _)); omega)
  have HO6 : Hid (Fr (Own L) w w6) := Lib.hid (HFW6.out.anyOwn.trans (H.out.two_own hl6'.fr))
  clear hl6 hl6' hno hg6
  have KE : Hid (∀ w', Fr (One g) w6 w' → w'.cell? ⟨w.heap.size, 0, none⟩ = some (.int .i64 q0) ∧ w'.cell? ⟨w.heap.size, 1, none⟩ = some (.int .i64 q1) ∧ w'.cell? ⟨w.heap.size, 2, none⟩ = some (.int .i64 q2)) := Lib.hid fun w' hf => by
    have e := HLT.out
    have hq := hf.heap (HL6.out.fr.heap ((HQ5.out.no ((Fr.refl No w5).alloc (.cells (reccells (Rec.new s n ⟨q0, q1, q2⟩) (.slice none 0 0)) 80)).drew).blk) (Two.not e.2.2.1 e.2.2.2.1)) (One.not (Ne.symm HGQ.out))
    exact ⟨cell_blk hq rfl, cell_blk hq rfl, cell_blk hq rfl⟩
  clear cb0 c0 c1 c2 clt blt hf6
  obtain ⟨c0, c1, c2⟩ := KE.out _ (Fr.refl _ _)
  have clt : w.heap.size < w6.heap.size := World.block_lt_of_cell? _ _ c0
  go_wp2_with fail
  go_region_held3 (fun w' => w'.cell? ⟨w.heap.size, 0, none⟩ = some (.int .i64 q0) ∧ w'.cell? ⟨w.heap.size, 1, none⟩ = some (.int .i64 q1) ∧ w'.cell? ⟨w.heap.size, 2, none⟩ = some (.int .i64 q2))
    (first | go_keep | (with_reducible exact KE.out _ (Fr.refl _ _).drew) | (with_reducible exact KE.out _ ((Fr.refl _ _).drew.trans hf7)))
    (first
      | ((with_reducible refine (carve_raw (Fr.heap (Fr.refl No w6).drew HG6.out id) q0 q1 q2 HC.out HSUM.out).mono ?_); rintro e w7 ⟨rfl, hh7, hf7⟩))
  have HG7 := Lib.hid hh7
  have HT7 : Hid (TabAt w7 b (L.add nn w5.heap.size) ((T.add nn (Rec.new s n ⟨q0, q1, q2⟩)).set n { r with carved := r.carved.plus (Qt.child ⟨q0, q1, q2⟩) })) := Lib.hid (by
    refine (HT6.out.no (Fr.refl _ _).drew).putRec HN6.out rfl ?_ (by rw [HR6.out]; exact hf7)
    rw [HR6.out, HV6.out, hkv.out]
    exact hh7)
  have HOG : Hid (Own L g) := Lib.hid (by rw [← hgg.out]; exact H.out.ownRec HN.out)
  have HO7 : Hid (Fr (Own L) w w7) := Lib.hid (HO6.out.drew.trans (hf7.mono fun k _ hk => by have e : k = g := hk; rw [e]; exact HOG.out))
  have HW7 : Hid (w7.ownsRow 0 3 1 kv r.kids.length (kidv r.kids)) := Lib.hid (by
    have := HT7.out.hkb n _ (Tb.set_same _ _ _)
    rw [HV6.out, hkv.out] at this
    exact this)
  have d30 : w7.cell? ⟨g, 30, none⟩ = some kv := cell_blk HG7.out rfl
  have dlt : g < w7.heap.size := lt_of_block HG7.out
  clear hh7 hf7 c0 c1 c2 clt
  go_wp2_with (with_reducible show wpList _ _ _ (Oper.mk (some 77) _ _ _ _ _ :: _) _ _; refine Stop.mk ?_)
  obtain ⟨W7, hW7⟩ : ∃ W, W = w7.alloc (.cells #[.int .i64 (nn : Int)] 3) := ⟨_, rfl⟩
  rw [← hW7]
  have HA7 : Hid (Fr No w7 W7 ∧ W7.heap[w7.heap.size]? = some (.cells #[.int .i64 (nn : Int)] 3 (0, 0)) ∧ W7.heap.size = w7.heap.size + 1) := Lib.hid (by
    rw [hW7]; exact ⟨(Fr.refl _ _).alloc _, heap_alloc_new _ _, by simp⟩)
  clear hW7 d30
  refine Stop.go ?_
  refine wpList_append_lies _ rfl (.tmp 74) (.tmp 76) 22 rfl 0 3 i3 (.int .i64 0) 1 8 Try.underlying22 hi3 hz30 hz31 hz32 rfl (by omega) kv r.kids.length (kidv r.kids) rfl (own_fr HW7.out HA7.out.1 fun _ _ => id) ⟨w7.heap.size, 0, none⟩ 1 1 [.int .i64 (nn : Int)] rfl rfl ?news ?one (by omega) (by have := HKL.out; unfold maxLen; omega) (by have := HKL.out; omega) (Nat.zero_le _) (w7.heap.size + 1) (by rw [HA7.out.2.2]) ?_
  case news => exact World.news_of_block (cs := #[.int .i64 (nn : Int)]) (t := 3) (fr := (0, 0)) HA7.out.2.1
  case one => intro v hv; simp at hv; subst hv; rfl
  intro g8 cap8 w8 hown8 hgrow8 hat8 hlt8
  have HF8 : Hid (Fr (fun k => kv.ownBlock = some k) w7 w8) := Lib.hid (Fr.grown (HA7.out.1.mono fun _ _ h => h.elim) hgrow8 fun k hk => .inl hk)
  have HKB : Hid (∀ k, kv.ownBlock = some k → L.F k = some (.kids n)) := Lib.hid fun k hk => H.out.fkb n r k HN.out (by rw [hkv.out]; exact hk)
  have HFG : Hid (L.F g = some (.record n)) := Lib.hid (by rw [← hgg.out]; exact H.out.frb n r HN.out)
  have HG8 : Hid (w8.heap[g]? = some (.cells (reccells { r with carved := r.carved.plus (Qt.child ⟨q0, q1, q2⟩) } kv) 80 (0, 0))) := Lib.hid (HF8.out.heap HG7.out fun hx => by have := HKB.out g hx; rw [HFG.out] at this; simp at this)
  have d30 : w8.cell? ⟨g, 30, none⟩ = some kv := cell_blk HG8.out rfl
  have d30f := free_blk HG8.out 30
  have dlt8 : g < w8.heap.size := lt_of_block HG8.out
  have HAT : Hid (kv.ownBlock = some g8 ∨ g8 = w7.heap.size + 1) := Lib.hid hat8
  have HT8 : Hid (TabAt (w8.setCell ⟨g, 30, none⟩ (.slice (some ⟨g8, 0, none⟩) (r.kids.length + 1) cap8)) b ((L.add nn w5.heap.size).kids n (.slice (some ⟨g8, 0, none⟩) (r.kids.length + 1) cap8)) ((T.add nn (Rec.new s n ⟨q0, q1, q2⟩)).set n { r with carved := r.carved.plus (Qt.child ⟨q0, q1, q2⟩), kids := r.kids ++ [nn] })) := Lib.hid (by
    have h1 := HT7.out.setKids (w' := w8) (Tb.set_same _ _ _) (l := r.kids ++ [nn]) (v := .slice (some ⟨g8, 0, none⟩) (r.kids.length + 1) cap8) (by rw [HV6.out, hkv.out]; exact HF8.out) (by
      rw [List.length_append]
      have e : kidv (r.kids ++ [nn]) = kidv r.kids ++ [.int .i64 (nn : Int)] := by simp [kidv]
      rw [e]
      exact hown8) (fun q hq => by
        simp only [Value.ownBlock, Option.some.injEq] at hq
        subst hq
        rw [HV6.out, hkv.out]
        rcases HAT.out with h | h
        · exact .inl h
        · refine .inr ?_
          cases e : (L.add nn w5.heap.size).F g8 with
          | none => rfl
          | some t => have h1 := HT7.out.flt g8 (by unfold Own; rw [e]; simp); omega)
    rw [HR6.out, Tb.set_set] at h1
    exact h1)
  have HO8 : Hid (Fr (Own L) w w8) := Lib.hid (HO7.out.trans (HF8.out.mono fun k _ hk => by unfold Own; rw [HKB.out k hk]; simp))
  have HS7 : Hid (w.heap.size ≤ w7.heap.size) := Lib.hid HO7.out.size
  clear hown8 hgrow8 hat8 hlt8
  have hbb : w8.setCell ⟨g, 30, none⟩ (.slice (some ⟨g8, 0, none⟩) (r.kids.length + 1) cap8) = w8.setCell ⟨g, 30, none⟩ (.slice (some ⟨g8, 0, none⟩) (r.kids.length + 1) cap8) := rfl
  obtain ⟨w9, hw9⟩ : ∃ w9, w9 = w8.setCell ⟨g, 30, none⟩ (.slice (some ⟨g8, 0, none⟩) (r.kids.length + 1) cap8) := ⟨_, rfl⟩
  rw [← hw9] at HT8
  have e1 : w9.cell? ⟨b, 1, none⟩ = some (.int .i64 last) := by
    have := HT8.out.last
    rw [this]
    show some (Value.int .i64 T.last) = _
    rw [hl.out]
  have e1f : w9.frozen? ⟨b, 1, none⟩ = false := free_blk HT8.out.hb 1
  have e1g : b < w9.heap.size := lt_of_block HT8.out.hb
  have HO9 : Hid (Fr (Own L) w w9) := Lib.hid (by rw [hw9]; exact HO8.out.own HOG.out)
  go_wp2_with (with_reducible show wpList _ _ _ (Oper.mk none (.store 3 _ _) _ _ _ _ :: _) _ _; refine Stop.mk ?_)
  rw [← hw9]
  clear hw9 hbb d30 d30f dlt8
  refine Stop.go ?_
  go_wp2_with fail
  go_ret2
  refine ⟨rfl, _, HT8.out.setLast s, HO9.out.own (by unfold Own; rw [H.out.fb]; simp), fun k hk => ?_⟩
  unfold Own at hk
  simp only [Lay.kids, Lay.add, Value.ownBlock, Option.some.injEq] at hk
  by_cases ek : g8 = k
  · subst ek
    rcases HAT.out with h | h
    · left; unfold Own; rw [HKB.out g8 h]; simp
    · right; have := HS7.out; omega
  · rw [if_neg ek] at hk
    by_cases e2 : k = w5.heap.size
    · right; have := HF5.out.size; omega
    · rw [if_neg e2] at hk; exact .inl hk
end
end Go.Proofs.Ytdogpkcalflhbaa
