/- DiskCarried: the walk. -/
import Derived.Test.YtppllhdocajfiaaF0
import Derived.Deep.QuietTactic
import Derived.BigQuiet
set_option linter.unusedSimpArgs false
set_option linter.unusedVariables false
namespace Go.Proofs.Ytppllhdocajfiaa
open Go.RowKit

theorem Try.info5c : (Try.prog.info? 5).map (fun i => (i.zero, i.size, i.bytes)) = some (some (.int .u8 0), 1, 1) := by kernel_rfl

theorem not_u8 (y : UInt8) : ∃ z : UInt8, bits BinOp.xor IntKind.u8 IntKind.u8.max (y.toNat : Int) = (z.toNat : Int) := by
  have h : ∀ n : Fin 256, bits BinOp.xor IntKind.u8 IntKind.u8.max ((n.val : Nat) : Int) = ((255 - n.val : Nat) : Int) := by decide +kernel
  have := h ⟨y.toNat, y.toNat_lt⟩
  refine ⟨UInt8.ofNat (255 - y.toNat), ?_⟩
  rw [this]
  have := y.toNat_lt
  simp
  omega
theorem full_225 (w : World) : Calls Try.prog 18 #[.int .u8 225] w fun e w' => ∃ g cap, e = .returned (.slice (some ⟨g, 0, none⟩) 128 cap) ∧ w'.ownsRow w.heap.size 5 1 (.slice (some ⟨g, 0, none⟩) 128 cap) 128 ((List.replicate 128 (225 : UInt8)).map bv) ∧ Fr No w w' := full_any w 225
theorem Fr.past {w w1 w' : World} {T : Nat → Prop} (h : Fr No w w1) (k : Fr T w1 w') (hT : ∀ i, T i → w.heap.size ≤ i) : Fr No w w' := h.then k fun i hi hx => by have := hT i hx; omega
theorem seg_med {w : World} {base g cap : Nat} {D : Dk} {T : List Value} {F : List UInt8} (hF : D.flat = F) (h : w.ownsRow base 5 1 (.slice (some ⟨g, 0, none⟩) 131074 cap) 131074 (F.map bv ++ T)) (hok : D.Ok) {s : Nat} (hs : s < 1024) (hc : 131074 ≤ cap) :
    LAt w (.slice (some ⟨g, s * 128, none⟩) 128 (cap - s * 128)) ((D.med s).map bv) := by
  refine .inr ⟨_, _, by rw [List.length_map, hok.med], by rw [List.length_map, hok.med]; omega, fun _ => ⟨g, s * 128, rfl, fun i u hu => ?_⟩⟩
  have hi : i < 128 := by have := (List.getElem?_eq_some_iff.1 hu).1; rw [List.length_map, hok.med] at this; exact this
  refine own_cell h (j := s * 128 + i) ?_
  have hl : D.flat.length = 131072 := flat_len hok
  rw [List.getElem?_append_left (by rw [List.length_map, ← hF, hl]; omega), List.getElem?_map, ← hF, flat_at hok hs hi, ← List.getElem?_map]
  exact hu

set_option maxHeartbeats 16000000 in
set_option maxRecDepth 100000 in
theorem carried_walk (w : World) (vs vl vm : Value) (script : List OpD) (l more : List PutD) (hs : OpsAt w vs script) (hl : PutsAt w vl l) (hmo : PutsAt w vm more) (hsl : script.length ≤ 2097152) (hll : l.length ≤ 1048576) (hml : more.length ≤ 1048576) :
    Calls Try.prog 11 #[vs, vl, vm] w fun e w' => e = .returned (.bool true) ∧ Fr No w w' := by
  obtain ⟨i5, hi5, hz50, hz51, hz52⟩ := info_parts Try.info5c
  have HB := Lib.hid (fresh_any w vs script hs hsl)
  obtain ⟨sa, scap, rfl, _⟩ := hs.1.len
  obtain ⟨a, cap, rfl, hcap, _⟩ := hl.len
  obtain ⟨ma, mcap, rfl, hmcap, _⟩ := hmo.len
  obtain ⟨n, hn⟩ : ∃ n, Hid (l.length = n) := ⟨_, Lib.hid rfl⟩
  obtain ⟨sn, hsn⟩ : ∃ n, Hid (script.length = n) := ⟨_, Lib.hid rfl⟩
  obtain ⟨mn, hmn⟩ : ∃ n, Hid (more.length = n) := ⟨_, Lib.hid rfl⟩
  rw [hn.out] at hll hcap hl
  rw [hmn.out] at hml hmcap hmo
  rw [hn.out, hmn.out]
  rw [hsn.out] at HB hsl ⊢
  have HL := Lib.hid hl
  have HMO := Lib.hid hmo
  clear hs hl hmo
  go_enter Try.func11, Try.ntmps11
  go_wp2_with fail
  refine HB.out.mono ?_
  rintro e w1 ⟨rfl, c0, D0, S0, hu0, ha0⟩
  have S0 := Lib.hid S0
  have HU0 := Lib.hid hu0
  clear hu0 HB
  go_wp2_with fail
  have hlaid := laid_ok S0.out.disk HU0.out.down HU0.out.armed (.slice a n cap) l (fun w' hf => HL.out.no (S0.out.two hf)) (by rw [HU0.out.cache, hn.out]; simp; omega) (by rw [hn.out]; omega)
  refine hlaid.mono ?_
  clear hlaid
  rintro e w2 ⟨rfl, ⟨c2, hd2, hc2⟩, hf2⟩
  rw [hn.out] at hd2
  obtain ⟨D1, hD1⟩ : ∃ D1 : Dk, Hid (D1 = { D0 with cache := D0.cache ++ l.map PutD.pend, acts := D0.acts + n }) := ⟨_, Lib.hid rfl⟩
  rw [← hD1.out] at hd2
  have HU1 : Hid (D1.down = false ∧ D1.armed = false ∧ D1.cache.length = n ∧ D1.acts ≤ sn + 1 + n) := Lib.hid (by
    rw [hD1.out]; exact ⟨HU0.out.down, HU0.out.armed, by simp [HU0.out.cache, hn.out], by simp only; omega⟩)
  have S2 := Lib.hid (S0.out.op hd2 (by omega) hf2)
  clear hd2 hc2 hf2 S0 ha0
  go_wp2_with fail
  refine (Flush_any S2.out.disk (by have := HU1.out.2.2.2; omega) (by have := HU1.out.2.2.1; omega) _ _ (flush_up HU1.out.1 HU1.out.2.1)).mono ?_
  rintro e w3 ⟨rfl, ⟨c3, hd3, hc3⟩, hf3⟩
  obtain ⟨D2, hD2⟩ : ∃ D2 : Dk, Hid (D2 = ({ D1 with acts := D1.acts + 1 } : Dk).drain (fun _ => true)) := ⟨_, Lib.hid rfl⟩
  rw [← hD2.out] at hd3
  have HU2 : Hid (D2.down = false ∧ D2.armed = false ∧ D2.cache = [] ∧ D2.acts ≤ sn + 1 + n + 1) := Lib.hid (by
    rw [hD2.out]; exact ⟨HU1.out.1, HU1.out.2.1, rfl, by have := HU1.out.2.2.2; show D1.acts + 1 ≤ _; omega⟩)
  have S3 := Lib.hid (S2.out.op1 hd3 (by omega) hf3)
  clear hd3 hc3 hf3 S2
  go_wp2_with (with_reducible show wpList _ _ _ (Oper.mk (some 45) _ _ _ _ _ :: _) _ _; refine Stop.mk ?_)
  obtain ⟨W4, hW4⟩ : ∃ W4, W4 = w3.alloc (.cells #[.int .i64 0, .int .u8 0, .int .i64 1023, .int .u8 0] 30) := ⟨_, rfl⟩
  rw [← hW4]
  have HA4 : Hid (Fr No w3 W4 ∧ W4.ownsRow w3.heap.size 30 2 (.slice (some ⟨w3.heap.size, 0, none⟩) 2 2) 2 ([⟨0, 0⟩, ⟨1023, 0⟩].flatMap putcells)) := Lib.hid (by
    rw [hW4]
    refine ⟨(Fr.refl _ w3).alloc _, rfl, .inr ⟨w3.heap.size, 2, _, rfl, Nat.le_refl _, heap_alloc_new w3 _, Nat.le_refl _, by unfold maxLen; omega, rfl, rfl⟩⟩)
  clear hW4
  refine Stop.go ?_
  refine append_puts rfl (.tmp 43) (.tmp 44) rfl w3.heap.size (.slice (some ⟨w3.heap.size, 0, none⟩) 2 2) [⟨0, 0⟩, ⟨1023, 0⟩] l (.slice a n cap) rfl HA4.out.2 rfl ((HL.out.no S3.out.fr).no HA4.out.1) (by rw [hn.out]; simp; omega) HA4.out.1.size ?_
  intro v5 w5 hown5 hg5
  obtain ⟨l5, hl5⟩ : ∃ l5, Hid ([⟨0, 0⟩, ⟨1023, 0⟩] ++ l = l5) := ⟨_, Lib.hid rfl⟩
  rw [hl5.out] at hown5
  have HN5 : Hid (l5.length = n + 2) := Lib.hid (by rw [← hl5.out]; simp [hn.out])
  rw [HN5.out] at hown5
  obtain ⟨a5, cap5, rfl, _⟩ := own_slice hown5
  have HF5 : Hid (Fr No w3 w5) := Lib.hid (Fr.grown HA4.out.1 hg5 fun k hk => .inr (by simp [Value.ownBlock] at hk; omega))
  have HO5 := Lib.hid hown5
  clear hown5 hg5
  go_wp2_with fail
  have S5 := Lib.hid (S3.out.no HF5.out)
  have hr := next_any w5 a cap l (by rw [hn.out]; exact HL.out.no S5.out.fr) (by rw [hn.out]; omega)
  rw [hn.out] at hr
  refine hr.mono ?_
  clear hr
  rintro e w6 ⟨v6, rfl, hown6, hf6⟩
  have HF6 := Lib.hid (HF5.out.trans hf6)
  have HN6 : Hid ((l.map nextP).length = n) := Lib.hid (by rw [List.length_map]; exact hn.out)
  have HO5' := Lib.hid (own_fr HO5.out hf6 fun _ _ => id)
  have HP6 := Lib.hid (PutsK.of_own (w := w) (c := c3) hown6 (by have := S5.out.size; omega) S5.out.disk.lt.2).1
  clear hown6 hf6
  go_wp2_with (with_reducible show wpList _ _ _ (Oper.mk (some 49) _ _ _ _ _ :: _) _ _; refine Stop.mk ?_)
  refine Stop.go ?_
  refine append_puts rfl (.tmp 46) (.tmp 48) rfl w3.heap.size (.slice a5 (n + 2) cap5) l5 (l.map nextP) v6 rfl (by rw [HN5.out]; exact HO5'.out) rfl HP6.out.1 (by rw [HN5.out, HN6.out]; omega) HF6.out.size ?_
  intro v7 w7 hown7 hg7
  obtain ⟨asked, hask⟩ : ∃ asked, Hid (l5 ++ l.map nextP = asked) := ⟨_, Lib.hid rfl⟩
  rw [hask.out] at hown7
  obtain ⟨an, han⟩ : ∃ an, Hid (asked.length = an) := ⟨_, Lib.hid rfl⟩
  have HAN : an ≤ 4194304 ∧ 2 ≤ an := by
    have h1 := han.out
    rw [← hask.out, List.length_append, HN5.out, HN6.out] at h1
    omega
  rw [han.out] at hown7
  obtain ⟨a7, cap7, rfl, _⟩ := own_slice hown7
  have HF7 : Hid (Fr No w3 w7) := Lib.hid (Fr.grown HF6.out hg7 fun k hk => .inr (by have := HO5.out.lt k hk; exact this.1))
  have P7 := Lib.hid (PutsK.of_own (w := w) (c := c3) hown7 (by have := S3.out.size; omega) S3.out.disk.lt.2).1
  have S7 := Lib.hid (S3.out.no HF7.out)
  clear hown7 hg7
  go_wp2_with fail
  have hr := raws_any S7.out a7 cap7 asked (by rw [han.out]; exact P7.out.1) (by rw [han.out]; omega)
  rw [han.out] at hr
  refine hr.mono ?_
  clear hr
  rintro e w8 ⟨v8, rfl, hx8, hf8⟩
  obtain ⟨a8, cap8, rfl⟩ := hx8.len
  rw [List.length_map, han.out] at hx8 ⊢
  have S8 := Lib.hid (S7.out.no hf8)
  have X8 := Lib.hid hx8
  have P8 := Lib.hid (P7.out.step (hf8.mono fun _ _ h => False.elim h) (.inl rfl))
  clear hx8 hf8
  go_wp2_with fail
  have hlaid := laid_ok S8.out.disk HU2.out.1 HU2.out.2.1 (.slice ma mn mcap) more (fun w' hf => HMO.out.no (S8.out.two hf)) (by rw [HU2.out.2.2.1, hmn.out]; simp; omega) (by rw [hmn.out]; have := HU2.out.2.2.2; omega)
  refine hlaid.mono ?_
  clear hlaid
  rintro e w9 ⟨rfl, ⟨c9, hd9, hc9⟩, hf9⟩
  rw [hmn.out] at hd9
  obtain ⟨D3, hD3⟩ : ∃ D3 : Dk, Hid (D3 = { D2 with cache := D2.cache ++ more.map PutD.pend, acts := D2.acts + mn }) := ⟨_, Lib.hid rfl⟩
  rw [← hD3.out] at hd9
  have HU3 : Hid (D3.med = D2.med ∧ D3.cache.length = mn) := Lib.hid (by
    rw [hD3.out]; exact ⟨rfl, by simp [HU2.out.2.2.1, hmn.out]⟩)
  have S9 := Lib.hid ((Since.start S8.out).op hd9 (by omega) hf9)
  clear hd9 hc9 hf9
  have X9 := Lib.hid (S9.out.rows X8.out)
  have P9 := Lib.hid (S9.out.puts P8.out)
  go_wp2_with fail
  refine (Medium_any S9.out.st.disk).mono ?_
  rintro e w10 ⟨gm, rfl, hgm, hhm, hf10⟩
  obtain ⟨F, hF⟩ : ∃ F, Hid (D3.flat = F) := ⟨_, Lib.hid rfl⟩
  have HFL : Hid (F.length = 131072) := Lib.hid (by rw [← hF.out]; exact flat_len S9.out.st.disk.ok)
  rw [hF.out] at hhm
  have S10 := Lib.hid (S9.out.st.no hf10)
  have X10 := Lib.hid (X9.out.no hf10)
  have P10 := Lib.hid (P9.out.step (hf10.mono fun _ _ h => False.elim h) (.inl rfl))
  have HM10 := Lib.hid hhm
  have HGM := Lib.hid hgm
  have HF10 := Lib.hid hf10
  clear hgm hhm hf10
  go_wp2_with (with_reducible show wpList _ _ _ (Oper.mk (some 64) _ _ _ _ _ :: _) _ _; refine Stop.mk ?_)
  obtain ⟨W11, hW11⟩ : ∃ W11, W11 = w10.alloc (.cells #[.int .u8 165, .int .u8 166] 5) := ⟨_, rfl⟩
  rw [← hW11]
  have HA11 : Hid (Fr No w10 W11 ∧ W11.heap[w10.heap.size]? = some (.cells #[.int .u8 165, .int .u8 166] 5 (0, 0)) ∧ W11.heap.size = w10.heap.size + 1) := Lib.hid (by
    rw [hW11]; exact ⟨(Fr.refl _ w10).alloc _, heap_alloc_new w10 _, by simp⟩)
  clear hW11
  have HG9 : Hid (w9.heap.size ≤ gm ∧ Fr No w9 w10) := Lib.hid ⟨HGM.out, HF10.out⟩
  have HOM : Hid (W11.ownsRow w9.heap.size 5 1 (.slice (some ⟨gm, 0, none⟩) 131072 131072) 131072 (F.map bv)) := Lib.hid (by
    refine ⟨by rw [List.length_map, HFL.out], .inr ⟨gm, 131072, _, rfl, HG9.out.1, HA11.out.1.heap HM10.out id, Nat.le_refl _, by unfold maxLen; omega, by simp [HFL.out], ?_⟩⟩
    rw [List.take_of_length_le (by simp [HFL.out])])
  refine Stop.go ?_
  refine wpList_append_lies _ rfl (.tmp 62) (.tmp 63) 34 rfl w9.heap.size 5 i5 (.int .u8 0) 1 1 Try.underlying34 hi5 hz50 hz51 hz52 rfl (by omega) (.slice (some ⟨gm, 0, none⟩) 131072 131072) 131072 (F.map bv) rfl HOM.out ⟨w10.heap.size, 0, none⟩ 2 2 [.int .u8 165, .int .u8 166] rfl rfl ?news ?one (by omega) (by unfold maxLen; omega) (by omega) (by have := HG9.out.2.size; have := HA11.out.2.2; omega) (w10.heap.size + 1) (by rw [HA11.out.2.2]) ?_
  case news => exact World.news_of_block (cs := #[.int .u8 165, .int .u8 166]) (t := 5) (fr := (0, 0)) HA11.out.2.1
  case one => intro v hv; simp at hv; rcases hv with rfl | rfl <;> rfl
  intro g1 cap1 w11 hown11 hgrow hat hlt11
  have HF11 : Hid (Fr No w9 w11) := Lib.hid (Fr.grown (HG9.out.2.trans HA11.out.1) hgrow fun k hk => .inr (by simp [Value.ownBlock] at hk; have := HG9.out.1; omega))
  have HO11 := Lib.hid hown11
  have HCAP : 131074 ≤ cap1 ∧ w9.heap.size ≤ g1 := by have := own_base hown11; omega
  clear hown11 hgrow hat hlt11
  have HCUT : Hid (LAt w11 (.slice (some ⟨g1, 0, none⟩) 131072 cap1) (F.map bv)) := Lib.hid (by
    have := own_cut HO11.out (m := 131072) (by omega)
    rw [List.take_append_of_le_length (by rw [List.length_map, HFL.out]; omega), List.take_of_length_le (by rw [List.length_map, HFL.out]; omega)] at this
    exact (LAt.of_own this).1)
  have S11 := Lib.hid (S9.out.no HF11.out)
  go_wp2_with fail
  refine (Of_any w11 (some ⟨g1, 0, none⟩) cap1 F HFL.out HCUT.out).mono ?_
  rintro e w12 ⟨rfl, hd12, hf12⟩
  obtain ⟨b2, hb2⟩ : ∃ b2, b2 = w11.heap.size := ⟨_, rfl⟩
  rw [← hb2] at hd12 ⊢
  obtain ⟨U0, hU0⟩ : ∃ U0, Hid (U0 = Dk.of F 1024) := ⟨_, Lib.hid rfl⟩
  rw [← hU0.out] at hd12
  have HU : Hid (U0.down = false ∧ U0.armed = false ∧ U0.cache = [] ∧ U0.acts = 0 ∧ ∀ s, s < 1024 → U0.med s = D2.med s) := Lib.hid (by
    refine ⟨by rw [hU0.out]; rfl, by rw [hU0.out]; rfl, by rw [hU0.out]; rfl, by rw [hU0.out]; rfl, fun s hs => ?_⟩
    rw [← HU3.out.1, ← flat_sector S9.out.st.disk.ok hs, hF.out, hU0.out]
    show (if s < 1024 ∧ s < 1024 then _ else _) = _
    rw [if_pos ⟨hs, hs⟩])
  have HG1 : Hid (g1 < b2 ∧ g1 ≠ w.heap.size ∧ g1 ≠ c9 ∧ w.heap.size ≤ g1 ∧ w9.heap.size ≤ b2) := Lib.hid (by
    have h1 := (own_base HO11.out).2.1; have h2 := S9.out.st.disk.lt; have h3 := HF11.out.size; omega)
  have U12 : Hid (Duo w b2 w12 c9 D3 b2 U0) := Lib.hid (by
    have h1 := S11.out.st.disk.lt; have h2 := S11.out.st.own
    exact ⟨S11.out.st.disk.keep hf12 id id, hd12, h2, by omega, by omega, by omega, by omega, by omega, S11.out.st.fr.trans hf12⟩)
  have HO12 := Lib.hid (own_fr HO11.out hf12 fun _ _ => id)
  have HF12 := Lib.hid (HF11.out.trans hf12)
  have q1 := own_cell HO12.out (j := 131072) (v := .int .u8 165) (by rw [List.getElem?_append_right (by rw [List.length_map, HFL.out]; omega), List.length_map, HFL.out]; rfl)
  have q2 := own_cell HO12.out (j := 131073) (v := .int .u8 166) (by rw [List.getElem?_append_right (by rw [List.length_map, HFL.out]; omega), List.length_map, HFL.out]; rfl)
  have q3 : g1 < w12.heap.size := World.block_lt_of_cell? _ _ q1
  clear hd12 hf12 hb2
  go_wp2_with fail
  refine (Down_any U12.out.two).mono ?_
  rintro e w' ⟨rfl, rfl⟩
  rw [HU.out.1]
  go_wp2_with fail
  refine (Acts_any U12.out.two).mono ?_
  rintro e w' ⟨rfl, rfl⟩
  rw [HU.out.2.2.2.1]
  go_wp2_with fail
  refine (Pending_any U12.out.two (by rw [HU.out.2.2.1]; simp)).mono ?_
  rintro e w13 ⟨v13, rfl, hown13, hf13⟩
  obtain ⟨a13, cap13, rfl, _⟩ := own_slice hown13
  rw [HU.out.2.2.1]
  have U13 := Lib.hid (U12.out.no hf13)
  have HF13 := Lib.hid (HF12.out.trans hf13)
  have HO13 := Lib.hid (own_fr HO12.out hf13 fun _ _ => id)
  have X13 := Lib.hid (X9.out.no HF13.out)
  have P13 := Lib.hid (P9.out.step (HF13.out.mono fun _ _ h => False.elim h) (.inl rfl))
  clear hown13 hf13 q1 q2 q3
  go_wp2_with fail
  go_loopg [13] an (fun m i wr => ∃ j : Nat, j ≤ an ∧ m + j = an ∧ i = .int .i64 j ∧ Hid (Fr No w13 wr))
  case atStart => exact ⟨0, by omega, by omega, rfl, Lib.hid (Fr.refl _ _)⟩
  case round =>
    obtain ⟨j, hj, hm, rfl, HR⟩ := hrel
    by_cases hlt : j < an
    · have hjl : j < asked.length := by have := han.out; omega
      obtain ⟨p, hpp⟩ : ∃ p, asked[j]? = some p := ⟨_, List.getElem?_eq_getElem hjl⟩
      obtain ⟨g, o, ea, hg, hcells⟩ := P13.out.1.get' hpp
      subst ea
      have k0 := (hcells _ HR.out).1
      have hgq : g < wr.heap.size := World.block_lt_of_cell? _ _ k0
      have hb := pl_lt p.sector
      obtain ⟨s, hs⟩ : ∃ s, pl p.sector = s := ⟨_, rfl⟩
      rw [hs] at hb
      obtain ⟨gr, or', g', er, hrow, hblk, _⟩ := X13.out.get (j := j) (X := D2.med s) (by rw [List.getElem?_map, hpp, ← hs]; rfl)
      subst er
      have HROW := Lib.hid hrow
      have HX128 : Hid ((D2.med s).length = 128) := Lib.hid (S3.out.disk.ok.med s)
      have HSS := Lib.hid hs
      clear hcells hpp hrow hblk hs
      go_wp2_with fail
      refine (place_any _ _).mono ?_; rintro e w' ⟨rfl, rfl⟩
      rw [HSS.out]
      go_wp2_with fail
      refine (Raw_any (U13.out.no HR.out).two s hb).mono ?_
      rintro e w14 ⟨g14, rfl, hg14, hh14, hf14⟩
      rw [HU.out.2.2.2.2 s hb] at hh14
      have G14 := Lib.hid (And.intro hh14 (HR.out.trans hf14))
      clear hg14 hh14 hf14
      have r1 := (HROW.out _ G14.out.2).1
      have hgr : gr < w14.heap.size := World.block_lt_of_cell? _ _ r1
      have HSAME1 : Hid (∀ m, Calls Try.prog 27 #[.slice (some ⟨g14, 0, none⟩) 128 128, .slice (some ⟨g', 0, none⟩) 128 128] (w14.drewN m) fun e w' => e = .returned (.bool true) ∧ w' = w14.drewN m) := Lib.hid fun m => by
        have hf := G14.out.2.drewN m
        have := same_blk (w := w14.drewN m) (v := .slice (some ⟨g', 0, none⟩) 128 128) G14.out.1 HX128.out (HROW.out _ hf).2
        rw [show (D2.med s == D2.med s) = true by simp] at this
        exact this.mono fun _ _ h => ⟨h.1, h.2.symm⟩
      have HSAME2 : Hid (∀ m, Calls Try.prog 27 #[.slice (some ⟨g1, s * 128, none⟩) 128 (cap1 - s * 128), .slice (some ⟨g', 0, none⟩) 128 128] (w14.drewN m) fun e w' => e = .returned (.bool true) ∧ w' = w14.drewN m) := Lib.hid fun m => by
        have hf := G14.out.2.drewN m
        have hm := seg_med hF.out (own_fr HO13.out hf fun _ _ => id) S9.out.st.disk.ok hb HCAP.1
        rw [HU3.out.1] at hm
        have := same_any (w14.drewN m) _ (.slice (some ⟨g', 0, none⟩) 128 128) (D2.med s) (D2.med s) hm (HROW.out _ hf).2
        rw [show (D2.med s == D2.med s) = true by simp] at this
        exact this.mono fun _ _ h => ⟨h.1, h.2.symm⟩
      have hi0 : (0 : Int) ≤ (j : Int) := by omega
      have hi1 : (j : Int) < (an : Int) := by omega
      have e1 : IntKind.i64.wrap ((s : Int) * 128) = (s : Int) * 128 := IntWalk.i64_in _ (by omega)
      have e2 : IntKind.i64.wrap ((s : Int) + 1) = (s : Int) + 1 := IntWalk.i64_in _ (by omega)
      have e3 : IntKind.i64.wrap (((s : Int) + 1) * 128) = ((s : Int) + 1) * 128 := IntWalk.i64_in _ (by omega)
      have e4 : ((s : Int) * 128).toNat = s * 128 := by omega
      have e5 : (((s : Int) + 1) * 128).toNat = (s + 1) * 128 := by omega
      have e6 : (0 : Int) ≤ (s : Int) * 128 := by omega
      have e7 : (s : Int) * 128 ≤ ((s : Int) + 1) * 128 := by omega
      have e8 : ((s : Int) + 1) * 128 ≤ (cap1 : Int) := by omega
      have e9 : (s + 1) * 128 - s * 128 = 128 := by omega
      have e10 : ¬ cap1 = s * 128 := by omega
      have e11 : (0 : Int) ≤ ((s : Int) + 1) * 128 := by omega
      have e12 : s * 128 ≤ (s + 1) * 128 := by omega
      have e13 : (s + 1) * 128 ≤ cap1 := by omega
      go_wp2_with fail
      go_quiet (first | (go_at_call 27; first | refine Calls.quiet_of_same (HSAME1.out _) | refine Calls.quiet_of_same (HSAME2.out _)))
      go_wp2_with fail
      go_roundg (an - (j + 1))
      case rel => exact ⟨j + 1, by omega, by omega, by go_num, Lib.hid (G14.out.2.drewN _)⟩
      case measure => omega
    · obtain rfl : an = j := by omega
      have U14 := Lib.hid (U13.out.no HR.out)
      have HF14 := Lib.hid (HF13.out.trans HR.out)
      have HO14 := Lib.hid (own_fr HO13.out HR.out fun _ _ => id)
      clear HR
      go_wp2_with fail
      obtain ⟨cur0, hcur0, hall0⟩ : ∃ cur, wr.heap[g1]? = some (.cells cur 5 (0, 0)) ∧ ∀ t, t < 131074 → ∃ y : UInt8, cur[t]? = some (bv y) := by
        rcases HO14.out.2 with ⟨h, _⟩ | ⟨g', cap', cur, h, _, hh, _, _, hs, hx⟩
        · cases h
        · simp only [Value.slice.injEq, Option.some.injEq, Addr.mk.injEq] at h
          obtain ⟨⟨rfl, _⟩, _, rfl⟩ := h
          refine ⟨cur, hh, fun t ht => ?_⟩
          have e : cur.toList[t]? = (F.map bv ++ [.int .u8 165, .int .u8 166])[t]? := by
            rw [← hx, List.getElem?_take_of_lt (by omega)]
          rw [Array.getElem?_toList] at e
          rw [e]
          by_cases h1 : t < 131072
          · obtain ⟨y, hy⟩ : ∃ y, F[t]? = some y := ⟨_, List.getElem?_eq_getElem (by rw [HFL.out]; exact h1)⟩
            exact ⟨y, by rw [List.getElem?_append_left (by rw [List.length_map, HFL.out]; exact h1), List.getElem?_map, hy]; rfl⟩
          · rw [List.getElem?_append_right (by rw [List.length_map, HFL.out]; omega), List.length_map, HFL.out]
            rcases (by omega : t = 131072 ∨ t = 131073) with rfl | rfl
            · exact ⟨165, rfl⟩
            · exact ⟨166, rfl⟩
      have HC0 := Lib.hid (And.intro hcur0 hall0)
      clear hcur0 hall0
      obtain ⟨w15, hw15⟩ : ∃ w15, w15 = wr := ⟨_, rfl⟩
      rw [← hw15] at HC0 U14 HF14 ⊢
      clear hw15 HO14
      obtain ⟨N, hN⟩ : ∃ N : Nat, Hid (N = 131074) := ⟨_, Lib.hid rfl⟩
      rw [← hN.out] at HC0 HCAP ⊢
      have hN1 : N ≤ 1000000 := by have := hN.out; omega
      go_loopg [17] N (fun m i wr => ∃ j : Nat, j ≤ N ∧ m + j = N ∧ i = .int .i64 j ∧ Hid (Fr (One g1) w15 wr ∧ ∃ cur, wr.heap[g1]? = some (.cells cur 5 (0, 0)) ∧ ∀ t, t < N → ∃ y : UInt8, cur[t]? = some (bv y)))
      case atStart => exact ⟨0, by omega, by omega, rfl, Lib.hid ⟨Fr.refl _ _, cur0, HC0.out⟩⟩
      case round =>
        obtain ⟨j, hj, hm, rfl, HR⟩ := hrel
        by_cases hlt : j < N
        · obtain ⟨hf, cur, hcur, hall⟩ := HR.out
          obtain ⟨y, hy⟩ := hall j hlt
          have hc := cell_blk hcur hy
          have hfz := free_blk hcur j
          have hgw : g1 < wr.heap.size := lt_of_block hcur
          have HH := Lib.hid (And.intro hf (And.intro hcur hall))
          clear hf hcur hall hy
          unfold bv at hc
          go_wp2_with fail
          go_roundg (N - (j + 1))
          case rel =>
            obtain ⟨z, hz⟩ := not_u8 y
            rw [hz]
            refine ⟨j + 1, by omega, by omega, by go_num, Lib.hid ⟨HH.out.1.trans (Fr.set1 _ _ _ _), cur.setIfInBounds j (bv z), heap_setCell_same _ _ _ _ _ _ HH.out.2.1, fun t ht => ?_⟩⟩
            by_cases e : t = j
            · subst e
              obtain ⟨y2, hy2⟩ := HH.out.2.2 t ht
              exact ⟨z, by rw [Array.getElem?_setIfInBounds_self_of_lt (by have := (Array.getElem?_eq_some_iff.1 hy2).1; exact this)]⟩
            · obtain ⟨y2, hy2⟩ := HH.out.2.2 t ht
              exact ⟨y2, by rw [Array.getElem?_setIfInBounds_ne (fun h => e h.symm)]; exact hy2⟩
          case measure => omega
        · obtain rfl : N = j := by omega
          obtain ⟨hf16, _⟩ := HR.out
          obtain ⟨w16, hw16⟩ : ∃ w16, w16 = wr := ⟨_, rfl⟩
          rw [← hw16] at hf16 ⊢
          have HF16 := Lib.hid (HF14.out.past hf16 fun i hi => by have : i = g1 := hi; omega)
          have U16 := Lib.hid (U14.out.other hf16 HG1.out.2.1 HG1.out.2.2.1 (by have := HG1.out.1; omega) (by have := HG1.out.1; omega) HG1.out.2.2.2.1)
          clear hf16 hw16 HR HC0
          go_wp2_with fail
          refine (full_225 _).mono ?_
          rintro e w17 ⟨gf, capf, rfl, hown17, hf17⟩
          obtain ⟨R, hR⟩ : ∃ R, Hid (List.replicate 128 (225 : UInt8) = R) := ⟨_, Lib.hid rfl⟩
          rw [hR.out] at hown17
          have U17 := Lib.hid (U16.out.no hf17)
          have HF17 := Lib.hid (HF16.out.trans hf17)
          have HO17 := Lib.hid hown17
          have hgf : gf ≠ b2 := by have := (own_base hown17).1; have := U16.out.two.lt; omega
          clear hown17 hf17
          go_wp2_with fail
          refine (Write_own U17.out.two 5 (by omega) HO17.out hgf (by rw [HU.out.2.2.2.1]; omega) (by rw [HU.out.2.2.1]; simp) _ 0 (write_up HU.out.1 HU.out.2.1 _ _)).mono ?_
          rintro e w18 ⟨rfl, ⟨c18, hd18, hc18⟩, hf18⟩
          obtain ⟨U1, hU1⟩ : ∃ U1 : Dk, Hid (U1 = { U0 with cache := U0.cache ++ [(5, R)], acts := U0.acts + 1 }) := ⟨_, Lib.hid rfl⟩
          rw [← hU1.out] at hd18
          have HV1 : Hid (U1.down = false ∧ U1.armed = false ∧ U1.cache = [(5, R)] ∧ U1.acts = 1 ∧ U1.med = U0.med) := Lib.hid (by
            rw [hU1.out]; exact ⟨HU.out.1, HU.out.2.1, by simp [HU.out.2.2.1], by simp [HU.out.2.2.2.1], rfl⟩)
          have HF18 := Lib.hid (HF17.out.past hf18 fun i hi => by have := HG1.out.2.2.2.2; rcases hi with hi | hi <;> omega)
          have HC18 : Hid (w9.heap.size ≤ c18) := Lib.hid (by have := HG1.out.2.2.2.2; have := HF17.out.size; omega)
          have U18 := Lib.hid (U17.out.op2 hd18 (by omega) hf18)
          clear hd18 hc18 hf18
          go_wp2_with fail
          refine (Flush_any U18.out.two (by rw [HV1.out.2.2.2.1]; omega) (by rw [HV1.out.2.2.1]; simp) _ _ (flush_up HV1.out.1 HV1.out.2.1)).mono ?_
          rintro e w19 ⟨rfl, ⟨c19, hd19, hc19⟩, hf19⟩
          obtain ⟨U2, hU2⟩ : ∃ U2 : Dk, Hid (U2 = ({ U1 with acts := U1.acts + 1 } : Dk).drain (fun _ => true)) := ⟨_, Lib.hid rfl⟩
          rw [← hU2.out] at hd19
          have HV2 : Hid (∀ s, U2.med s = if s = 5 then R else U0.med s) := Lib.hid fun s => by
            rw [hU2.out]
            show laidOn (fun _ => true) 0 U1.cache U1.med s = _
            rw [laidOn_all, HV1.out.2.2.1, HV1.out.2.2.2.2]
            simp only [lastOf]
            by_cases h : s = 5
            · rw [if_pos h, if_pos h.symm]
            · rw [if_neg h, if_neg fun e => h e.symm]
          have HF19 := Lib.hid (HF18.out.past hf19 fun i hi => by have := HG1.out.2.2.2.2; have : i = b2 := hi; omega)
          have HC19 : Hid (w9.heap.size ≤ c19) := Lib.hid (by have := HG1.out.2.2.2.2; have := HC18.out; omega)
          have U19 := Lib.hid (U18.out.op2 hd19 (by omega) hf19.one_two)
          clear hd19 hc19 hf19
          go_wp2_with fail
          obtain ⟨W20, hW20⟩ : ∃ W20, W20 = w19.alloc (.cells #[.int .u8 226] 5) := ⟨_, rfl⟩
          rw [← hW20]
          have HA20 : Hid (Fr No w19 W20 ∧ W20.heap[w19.heap.size]? = some (.cells #[.int .u8 226] 5 (0, 0))) := Lib.hid (by
            rw [hW20]; exact ⟨(Fr.refl _ w19).alloc _, heap_alloc_new w19 _⟩)
          clear hW20
          have U20 := Lib.hid (U19.out.no HA20.out.1)
          have hed := Edit_go U20.out.two 6 (by omega) 0 (some ⟨w19.heap.size, 0, none⟩) 1 [226] (by simp) (fun _ => ⟨_, 0, rfl, SegAt.of_block HA20.out.2 fun j v hv => by simpa [bv] using hv⟩)
          refine Calls.mono hed ?_
          clear hed
          rintro e w21 ⟨rfl, hd21, hf21⟩
          obtain ⟨U3, hU3⟩ : ∃ U3 : Dk, Hid (U3 = U2.edit 6 0 [226]) := ⟨_, Lib.hid rfl⟩
          rw [← hU3.out] at hd21
          have HV3 : Hid (U3.med 5 = R ∧ ∀ s, s < 1024 → s ≠ 5 → s ≠ 6 → U3.med s = D2.med s) := Lib.hid (by
            refine ⟨by rw [hU3.out, edit_other _ _ _ _ _ (by omega), HV2.out, if_pos rfl], fun s hs h5 h6 => ?_⟩
            rw [hU3.out, edit_other _ _ _ _ _ h6, HV2.out, if_neg h5, HU.out.2.2.2.2 s hs])
          have HF21 := Lib.hid ((HF19.out.trans HA20.out.1).past hf21 fun i hi => by have := HG1.out.2.2.2.2; have : i = b2 := hi; omega)
          have U21 := Lib.hid (U20.out.op2 hd21 (.inl rfl) hf21.one_two)
          clear hd21 hf21
          go_wp2_with fail
          refine (Pending_any U21.out.one (by rw [HU3.out.2]; omega)).mono ?_
          rintro e w22 ⟨v22, rfl, hown22, hf22⟩
          obtain ⟨a22, cap22, rfl, _⟩ := own_slice hown22
          rw [HU3.out.2]
          have U22 := Lib.hid (U21.out.no hf22)
          have HF22 := Lib.hid (HF21.out.trans hf22)
          clear hown22 hf22
          go_wp2_with fail
          refine (Crash_any U22.out.one (by rw [HU3.out.2]; omega) (.slice none 0 0) [] (fun _ _ => .inl ⟨rfl, rfl⟩)).mono ?_
          rintro e w23 ⟨rfl, hd23, hf23⟩
          rw [kept_none]
          obtain ⟨D4, hD4⟩ : ∃ D4 : Dk, Hid (D4 = D3.crash []) := ⟨_, Lib.hid rfl⟩
          rw [← hD4.out] at hd23
          have HD4 : Hid (D4.med = D2.med) := Lib.hid (by rw [hD4.out, crash_none, HU3.out.1])
          have U23 := Lib.hid (U22.out.op1 hd23 (.inr (.inl rfl)) hf23.one_two)
          have X23 : Hid (RowsK w w23 w.heap.size _ _) := Lib.hid (X9.out.step ((HF22.out.mono (T := Two w.heap.size c9) fun _ _ h => False.elim h).trans (hf23.one_two)) (.inr (.inl rfl)))
          have P23 : Hid (PutsK w w23 w.heap.size _ _) := Lib.hid (P9.out.step ((HF22.out.mono (T := Two w.heap.size c9) fun _ _ h => False.elim h).trans (hf23.one_two)) (.inr (.inl rfl)))
          clear hd23 hf23
          go_wp2_with fail
          go_loopg [18] an (fun m i wr => ∃ j : Nat, j ≤ an ∧ m + j = an ∧ i = .int .i64 j ∧ Hid (Fr No w23 wr))
          case atStart => exact ⟨0, by omega, by omega, rfl, Lib.hid (Fr.refl _ _)⟩
          case round =>
            obtain ⟨j, hj, hm, rfl, HR⟩ := hrel
            by_cases hlt : j < an
            · have hjl : j < asked.length := by have := han.out; omega
              obtain ⟨p, hpp⟩ : ∃ p, asked[j]? = some p := ⟨_, List.getElem?_eq_getElem hjl⟩
              obtain ⟨g, o, ea, hg, hcells⟩ := P23.out.1.get' hpp
              subst ea
              have k0 := (hcells _ HR.out).1
              have hgq : g < wr.heap.size := World.block_lt_of_cell? _ _ k0
              have hb := pl_lt p.sector
              obtain ⟨s, hs⟩ : ∃ s, pl p.sector = s := ⟨_, rfl⟩
              rw [hs] at hb
              obtain ⟨gr, or', g', er, hrow, hblk, _⟩ := X23.out.get (j := j) (X := D2.med s) (by rw [List.getElem?_map, hpp, ← hs]; rfl)
              subst er
              have HROW := Lib.hid hrow
              have HX128 : Hid ((D2.med s).length = 128) := Lib.hid (S3.out.disk.ok.med s)
              have HSS := Lib.hid hs
              clear hcells hpp hrow hblk hs
              go_wp2_with fail
              refine (place_any _ _).mono ?_; rintro e w' ⟨rfl, rfl⟩
              rw [HSS.out]
              go_wp2_with fail
              refine (Raw_any (U23.out.no HR.out).one s hb).mono ?_
              rintro e w24 ⟨g24, rfl, hg24, hh24, hf24⟩
              rw [HD4.out] at hh24
              have G24 := Lib.hid (And.intro hh24 (HR.out.trans hf24))
              clear hg24 hh24 hf24
              go_wp2_with fail
              refine (Raw_any (U23.out.no G24.out.2).two s hb).mono ?_
              rintro e w25 ⟨g25, rfl, hg25, hh25, hf25⟩
              have G25 := Lib.hid (And.intro hh25 (G24.out.2.trans hf25))
              have H24 := Lib.hid (hf25.heap G24.out.1 id)
              clear hg25 hh25 hf25
              have r1 := (HROW.out _ G25.out.2).1
              have hgr : gr < w25.heap.size := World.block_lt_of_cell? _ _ r1
              go_wp2_with fail
              refine (same_blk H24.out HX128.out (HROW.out _ G25.out.2).2).mono ?_
              rintro e w' ⟨rfl, rfl⟩
              rw [show (D2.med s == D2.med s) = true by simp]
              by_cases h5 : s = 5
              · have h5' : ((s : Int) == 5) = true := by simp [h5]
                go_wp2_with fail
                go_roundg (an - (j + 1))
                case rel => exact ⟨j + 1, by omega, by omega, by go_num, Lib.hid G25.out.2⟩
                case measure => omega
              · have h5' : ((s : Int) == 5) = false := by simp; omega
                by_cases h6 : s = 6
                · have h6' : ((s : Int) == 6) = true := by simp [h6]
                  go_wp2_with fail
                  go_roundg (an - (j + 1))
                  case rel => exact ⟨j + 1, by omega, by omega, by go_num, Lib.hid G25.out.2⟩
                  case measure => omega
                · have h6' : ((s : Int) == 6) = false := by simp; omega
                  have G25' := Lib.hid G25.out.1
                  rw [HV3.out.2 s hb h5 h6] at G25'
                  go_wp2_with fail
                  refine (same_blk G25'.out HX128.out (HROW.out _ G25.out.2).2).mono ?_
                  rintro e w' ⟨rfl, rfl⟩
                  rw [show (D2.med s == D2.med s) = true by simp]
                  go_wp2_with fail
                  go_roundg (an - (j + 1))
                  case rel => exact ⟨j + 1, by omega, by omega, by go_num, Lib.hid G25.out.2⟩
                  case measure => omega
            · obtain rfl : an = j := by omega
              have U24 := Lib.hid (U23.out.no HR.out)
              go_wp2_with fail
              refine (Raw_any U24.out.two 5 (by omega)).mono ?_
              rintro e w26 ⟨g26, rfl, hg26, hh26, hf26⟩
              rw [HV3.out.1] at hh26
              have U26 := Lib.hid (U24.out.no hf26)
              have H26 := Lib.hid hh26
              clear hg26 hh26 hf26
              go_wp2_with fail
              refine (full_225 _).mono ?_
              rintro e w27 ⟨g27, cap27, rfl, hown27, hf27⟩
              rw [hR.out] at hown27
              have U27 := Lib.hid (U26.out.no hf27)
              have H27 := Lib.hid (hf27.heap H26.out id)
              have HO27 := Lib.hid (LAt.of_own hown27).1
              clear hown27 hf27
              go_wp2_with fail
              refine (same_blk H27.out (by rw [← hR.out]; simp) HO27.out).mono ?_
              rintro e w' ⟨rfl, rfl⟩
              rw [show (R == R) = true by simp]
              go_wp2_with fail
              go_ret
              exact ⟨rfl, U27.out.fr⟩
end Go.Proofs.Ytppllhdocajfiaa
