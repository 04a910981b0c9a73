/- Write. -/
import Derived.Test.YtppllhdocajfiaaC5
set_option linter.unusedSimpArgs false
set_option linter.unusedVariables false
namespace Go.Proofs.Ytppllhdocajfiaa
open Go.RowKit
attribute [local go_sem ↓] ex_load94 ex_store94 ex_load102 ex_store102

section
variable {ρ : Operand → Value} {d : Option Tmp} {x y : Operand} {ty : TypeId} {pos : String} {aft : Array Edge} {gd : Option (Nat × Bool)} {w : World}
theorem ex_build96 : Sem.run Try.prog (execOp ρ ⟨d, .buildSlice 96 1 #[(0, x)], ty, pos, aft, gd⟩) w = buildNow Try.prog w 96 (ρ x) := exec_build1 _ _ _ _ _ _ _ _ _ _
theorem build96 {L : List Value} (hl : L.length = 129) : buildNow Try.prog w 96 (.agg L.toArray) = .ok (.value (.slice (some ⟨w.heap.size, 0, none⟩) 1 1)) (w.alloc (.cells L.toArray 102)) :=
  buildNow_one (z := .agg Try.zeroCells102) Try.runUnderlying96 Try.sizeOf102 Try.zeroValue102 (by simp [Value.cells]) (by omega) (by omega) hl
end
theorem zero102_one : OneL Try.zeroCells102.toList := by
  have h : Try.zeroCells102.toList.all (fun v => v.oneCell') = true := by kernel_rfl
  exact fun v hv => List.all_eq_true.1 h v hv
theorem zero102_set (v : Value) (hv : v.oneCell' = true) : OneL (Try.zeroCells102.setIfInBounds 0 v).toList := by
  intro u hu
  rw [Array.toList_setIfInBounds] at hu
  rcases List.mem_or_eq_of_mem_set hu with h | rfl
  · exact zero102_one u h
  · exact hv
theorem zero102_cons (v : Value) : ∃ R : List Value, R.length = 128 ∧ (Try.zeroCells102.setIfInBounds 0 v).toList = v :: R := by
  have hsz : Try.zeroCells102.toList.length = 129 := by simp
  rw [Array.toList_setIfInBounds]
  cases h : Try.zeroCells102.toList with
  | nil => rw [h] at hsz; simp at hsz
  | cons a R => exact ⟨R, by rw [h] at hsz; simpa using hsz, by simp⟩
theorem store102A {w : World} {A : Array Value} (hA : A.size = 129) (h1 : OneL A.toList) :
    storeNow Try.prog (w.alloc (.cells Try.zeroCells102 102)) 102 (.pointer (some ⟨w.heap.size, 0, none⟩)) (.agg A) = .ok .skip (w.alloc (.cells A 102)) := by
  have := store102 (w := w) (cs := Try.zeroCells102) (e := 102) (m := w.heap.size) (L := A.toList) rfl (by simp) (by simpa using hA) h1
  simpa using this

attribute [local go_sem ↓] ex_build96
def Dk.write (D : Dk) (s : Nat) (X : List UInt8) : Dk × Int := if D.act.2 then ({ D.act.1 with cache := D.cache ++ [(s, X)] }, 0) else (D.act.1, 42)
theorem Try.info102 : (Try.prog.info? 102).map (fun i => (i.zero, i.size, i.bytes)) = some (some (.agg Try.zeroCells102), 129, 136) := by kernel_rfl
section
variable {w : World} {b c : Nat} {D : Dk}

set_option maxHeartbeats 1000000 in
set_option maxRecDepth 100000 in
theorem Write_go (h : DiskAt w b c D) (s : Nat) (hs : s < 1024) (g o cap : Nat) (X : List UInt8) (hX : X.length = 128) (hcap : 128 ≤ cap)
    (hv : ∀ w', Fr (One b) w w' → SegAt w' g o (X.map bv)) (ha : D.acts ≤ 4611686018427387904) (hlen : D.cache.length ≤ 1073741824) (D' : Dk) (r : Int) (hr : D.write s X = (D', r)) :
    Calls Try.prog 16 #[.pointer (some ⟨b, 0, none⟩), .int .i64 s, .slice (some ⟨g, o, none⟩) 128 cap] w fun e w' => e = .returned (.int .i64 r) ∧ (∃ c', DiskAt w' b c' D' ∧ (c' = c ∨ w.heap.size ≤ c')) ∧ Fr (Two b c) w w' := by
  obtain ⟨D1, r1, h1⟩ : ∃ D1 r1, D.act = (D1, r1) := ⟨_, _, rfl⟩
  have hc1 := (act_cache D).1
  simp only [Dk.write, h1] at hr hc1
  have H := Lib.hid h
  have H1 := Lib.hid h1
  have HC1 := Lib.hid hc1
  have HR := Lib.hid hr
  have HV := Lib.hid hv
  clear h h1 hr hc1 hv
  cases r1
  · go_enter Try.func16, Try.ntmps16
    go_wp2_with (first | (go_at_call 53; refine (there_yes _ _ (by omega)).mono ?_; rintro e w' ⟨rfl, rfl⟩) | (go_at_call 50; refine (act_any H.out ha D1 false H1.out).mono ?_; rintro e w1 ⟨rfl, hd1, hf1⟩))
    go_ret
    have := HR.out
    simp at this
    obtain ⟨rfl, rfl⟩ := this
    exact ⟨rfl, ⟨c, hd1, .inl rfl⟩, hf1.one_two⟩
  · have hst := fun w0 : World => store102A (w := w0) (A := Try.zeroCells102.setIfInBounds 0 (.int .i64 s)) (by simp) (zero102_set _ rfl)
    go_enter Try.func16, Try.ntmps16
    go_wp2_with (first | (go_at_call 53; refine (there_yes _ _ (by omega)).mono ?_; rintro e w' ⟨rfl, rfl⟩) | (go_at_call 50; refine (act_any H.out ha D1 true H1.out).mono ?_; rintro e w1 ⟨rfl, hd1, hf1⟩) | (with_reducible show wpList _ _ _ (Oper.mk (some 22) _ _ _ _ _ :: _) _ _; refine Stop.mk ?_))
    refine Stop.go ?_
    clear hst
    obtain ⟨R, hR, hcur⟩ := zero102_cons (.int .i64 s)
    obtain ⟨S, hS⟩ : ∃ S, Hid (S = X.map bv) := ⟨_, Lib.hid rfl⟩
    have hSl : Hid (S.length = 128) := Lib.hid (by rw [hS.out]; simpa using hX)
    have hseg := HV.out _ (hf1.alloc (.cells (Try.zeroCells102.setIfInBounds 0 (.int .i64 s)) 102))
    rw [← hS.out] at hseg
    refine wpList_copy_splice rfl (.tmp 20) (.tmp 21) 34 34 rfl 5 Try.underlying34 Try.size5 (some ⟨w1.heap.size, 1, none⟩) (some ⟨g, o, none⟩) 128 128 128 cap rfl rfl w1.heap.size 1 (.int .i64 s :: R) 102 ?row S ?cn ?cpos ?cfit ?cone w1.heap.size w1 ?below (Nat.le_refl _) ?_
    case row => rw [heap_alloc_new w1 _, ← hcur]
    case cn => rw [hSl.out]; rfl
    case cpos => exact fun _ => ⟨rfl, _, rfl, fun j v hv => by rw [addr_add]; exact hseg j v hv⟩
    case cfit => rw [hSl.out]; simp [hR]
    case cone => rw [hS.out]; exact bvs_one _
    case below => exact (Below.refl _ _).alloc (Nat.le_refl _) _
    intro w2 hrow hb2
    have hspl : splice (Value.int .i64 s :: R) 1 S = .int .i64 s :: S := by
      have := splice_pre [Value.int .i64 s] S R 1 128 rfl hSl.out (by omega)
      rw [List.drop_eq_nil_of_le (by omega)] at this
      simpa using this
    rw [hSl.out]
    rw [hspl] at hrow
    clear hspl hcur hseg
    have hd2 := hd1.keep (Fr.of_below hb2) id id
    obtain ⟨cv, hcv, hca⟩ := hd2.cache
    have hfree := hd2.free 131072
    have HD2 := Lib.hid hd2
    have HCA := Lib.hid hca
    have HD1 := Lib.hid hd1
    have HF1 := Lib.hid hf1
    have hblt : b < w1.heap.size := hd1.lt.1
    have hlt2 : w1.heap.size < w2.heap.size := lt_of_block hrow.out
    clear hd1 hd2 hf1 hca
    go_wp2_with fail
    have hl2 := load102 (w := w2.drew) (g := w1.heap.size) (off := 0) (L := .int .i64 s :: S) (SegAt.of_block hrow.out (fun j v hv => by simpa using hv)) (by simp [hSl.out])
    have hbs := fun w0 : World => build96 (w := w0) (L := .int .i64 s :: S) (by simp [hSl.out])
    obtain ⟨i0, hi, hz0, hz1, hz2⟩ := info_parts Try.info102
    have hcl : Hid (D1.cache.length = D.cache.length) := Lib.hid (by rw [HC1.out])
    have hown2 := Lib.hid (HCA.out.own HD1.out.ok.cache)
    have hblt2 : b < w2.heap.size := by omega
    have hne : some b ≠ cv.ownBlock := by
      rcases HCA.out.own_block with h | ⟨h, hcb⟩
      · rw [h]; simp
      · rw [h]; simp; exact Ne.symm hcb
    go_region_law (refine step_append_lies _ rfl (.tmp 27) (.tmp 29) 96 rfl 0 102 i0 (.agg Try.zeroCells102) 129 136 Try.underlying96 hi hz0 hz1 hz2 (by simp [Value.cells]) (by omega) cv D1.cache.length (D1.cache.flatMap pcells) rfl (by exact (hown2.out.alloc _).drew) ⟨w2.heap.size, 0, none⟩ 1 1 (.int .i64 s :: S) rfl (by simp [hSl.out]) (by exact World.news_of_block (cs := (Value.int .i64 s :: S).toArray) (heap_alloc_new w2 _)) (by rw [hS.out]; exact pcells_one (s, X)) (by omega) (by rw [hcl.out]; unfold maxLen; omega) (by rw [hcl.out]; omega) (Nat.zero_le _) (w2.heap.size + 1) (by simp) ?_; intro g1 cap1 w3 hown hgrow hat hlt; have k0 : w3.cell? ⟨b, 131072, none⟩ = some cv := (hgrow.cell_far ⟨b, 131072, none⟩ (by simp; omega) hne).trans ((World.cell?_alloc_lt w2 _ _ hblt2).trans hcv); have f0 : w3.frozen? ⟨b, 131072, none⟩ = false := (hgrow.frozen_far ⟨b, 131072, none⟩ (by simp; omega) hne).trans ((World.frozen?_of_block (heap_alloc_old w2 _ hblt2)).trans hfree))
    all_goals
      have HH := Lib.hid (And.intro hown (And.intro hgrow (And.intro hat hlt)))
      clear hown hgrow hat hlt
      go_wp2
      go_ret
      obtain ⟨hown, hgrow, hat, hlt⟩ := HH.out
      have hr2 := HR.out
      simp at hr2
      obtain ⟨rfl, rfl⟩ := hr2
      have hlen1 : (D1.cache ++ [(s, X)]).length = D1.cache.length + 1 := by simp
      have hfl : (D1.cache ++ [(s, X)]).flatMap pcells = D1.cache.flatMap pcells ++ (.int .i64 s :: S) := by rw [hS.out, List.flatMap_append]; simp [pcells]
      have hg1 : g1 ≠ b := by
        rcases hat with h | h
        · intro e; subst e; exact hne h.symm
        · omega
      rw [← hlen1, ← hfl] at hown
      have hca3 := CacheAt.of_own hown hg1
      have hblk : w3.heap[b]? = w2.heap[b]? := (hgrow.block b (by simp; omega) hne).trans (heap_alloc_old w2 _ hblt2)
      have hd3 := HD2.out.newCache hblk (l := D1.cache ++ [(s, X)]) (by
        intro p hp
        rcases List.mem_append.1 hp with hp | hp
        · exact HD1.out.ok.cache p hp
        · simp at hp; subst hp; exact ⟨hs, hX⟩) hlt hca3
      rw [hlen1] at hd3
      rw [← HC1.out]
      refine ⟨rfl, ⟨g1, hd3, ?_⟩, ?_⟩
      · rcases hat with h | h
        · rcases HCA.out.own_block with h2 | ⟨h2, _⟩
          · rw [h2] at h; cases h
          · rw [h2] at h; cases h; exact .inl rfl
        · have := HF1.out.size; right; omega
      · have hf3 : Fr (Two b c) w w3 := by
          refine Fr.grown (((HF1.out.one_two (c := c)).trans ((Fr.of_below hb2).mono fun _ _ => False.elim)).alloc _).drew hgrow ?_
          intro k hk
          rcases HCA.out.own_block with h2 | ⟨h2, _⟩
          · rw [h2] at hk; cases hk
          · rw [h2] at hk; cases hk; exact .inl (Two.right b c)
        exact hf3.put (.inl (Two.left b c)) _ _
end
end Go.Proofs.Ytppllhdocajfiaa
