/- noted: destroy. -/
import Derived.Test.YtdogpkcalflhbaaC25
import Derived.RegionTactic
set_option linter.unusedSimpArgs false
set_option linter.unusedVariables false
namespace Go.Proofs.Ytdogpkcalflhbaa
open Go.RowKit
section
variable {w0 w wr w' : World} {b bb : Nat} {L : Lay} {T T' : Tb}
/-- What is told of the numbers in the middle of an end. -/
def ending (T : Tb) (t : List Nat) (j : Nat) (n : Nat) : Bool := (T.live n).isSome && !((t.take j).contains n)
theorem NS.gone (h : NS w0 b L T bb wr) {lv : Value} {t : List Nat} (hg : Gone wr b L T' lv t w') : ∃ L', Half w0 b L' T' bb T w' ∧ ∀ g, lv.ownBlock = some g → ¬ Own L' g ∧ g ≠ bb := by
  obtain ⟨L', h1, h2, h3⟩ := hg.tab
  obtain ⟨L'', hh⟩ := h.half ⟨L', h1, hg.fr, h2⟩
  have hs := h.fr.size
  refine ⟨L', ⟨h1, h.book.keep hg.fr h.ne, h.fr.then hg.fr fun i hi hk => by have := h.own i hk; omega, fun k hk => ?_, h.hbb, fun hk => ?_⟩, fun g hgg => ⟨h3 g hgg, fun e => ?_⟩⟩
  · rcases h2 k hk with h4 | h4
    · exact h.own k h4
    · omega
  · rcases h2 _ hk with h4 | h4
    · exact h.ne h4
    · have := h.book.lt; omega
  · have := (hg.own.lt g hgg).1
    have := h.book.lt
    omega
set_option maxRecDepth 100000 in
set_option maxHeartbeats 8000000 in
theorem noted_destroy (N : NS w0 b L T bb w) (o : OpE) (hk : o.kind = 3) : Calls Try.prog 15 #[.pointer (some ⟨bb, 0, none⟩), .pointer (some ⟨b, 0, none⟩), .agg (opcells o)] w (Noted w0 b T o bb) := by
  obtain ⟨k, ot, oe, onn, om, ⟨q0, q1, q2⟩, ⟨r0, r1, r2, r3, r4, r5, r6, r7, pc⟩, oon⟩ := o
  simp only at hk
  subst hk
  obtain ⟨W, hW⟩ : ∃ W, Hid (W = w.alloc (.cells (opcells ⟨3, ot, oe, onn, om, ⟨q0, q1, q2⟩, ⟨r0, r1, r2, r3, r4, r5, r6, r7, pc⟩, oon⟩) 47)) := ⟨_, Lib.hid rfl⟩
  have HN : Hid (NS w0 b L T bb W) := Lib.hid (by rw [hW.out]; exact N.no ((Fr.refl _ _).alloc _))
  have HOB : Hid (W.heap[w.heap.size]? = some (.cells (opcells ⟨3, ot, oe, onn, om, ⟨q0, q1, q2⟩, ⟨r0, r1, r2, r3, r4, r5, r6, r7, pc⟩, oon⟩) 47 (0, 0))) := Lib.hid (by rw [hW.out]; exact heap_alloc_new w _)
  have HLT : Hid (bb < w.heap.size ∧ b < w.heap.size ∧ ∀ k, Own L k → k < w.heap.size) := Lib.hid ⟨N.bblt, lt_of_block N.tab.hb, N.tab.flt⟩
  unfold opcells at hW HOB ⊢
  clear N
  cases hr : T.at oe with
  | none =>
    have HR := Lib.hid hr
    clear hr
    go_enter Try.func15, Try.ntmps15
    go_wp2_with fail
    rw [← hW.out]
    refine (Destroy_none HN.out.tab oe HR.out).mono ?_
    rintro e w1 ⟨rfl, hl⟩
    have HN1 := Lib.hid (HN.out.left hl HN.out.inv (fun _ h => h))
    clear hl
    go_wp2_with fail
    go_ret
    exact ⟨rfl, L, _, HN1.out, .inr (.inl ⟨rfl, .inl ⟨rfl, .inl HR.out⟩⟩)⟩
  | some r =>
    by_cases h0 : oe = 0
    · subst h0
      have HR : Hid (T.live 0 = some r) := Lib.hid (at_live hr)
      clear hr
      go_enter Try.func15, Try.ntmps15
      go_wp2_with fail
      rw [← hW.out]
      refine (Destroy_zero HN.out.tab r HR.out).mono ?_
      rintro e w1 ⟨rfl, hl⟩
      have HN1 := Lib.hid (HN.out.left hl HN.out.inv (fun _ h => h))
      clear hl
      go_wp2_with fail
      go_ret
      exact ⟨rfl, L, _, HN1.out, .inr (.inl ⟨rfl, .inl ⟨rfl, .inr rfl⟩⟩)⟩
    · obtain ⟨n, rfl, hn, h16⟩ := HN.out.tab.some_at hr
      have hn0 : n ≠ 0 := by omega
      obtain ⟨p, rp, t, hE, hI⟩ := ends_of HN.out.inv hn hn0
      have HE := Lib.hid hE
      have HI := Lib.hid hI
      clear hr h0 hn hE hI
      go_enter Try.func15, Try.ntmps15
      go_wp2_with fail
      rw [← hW.out]
      refine (Destroy_ok HN.out.tab n p r rp t HE.out).mono ?_
      rintro e w1 ⟨lv, rfl, hg⟩
      obtain ⟨L', hh, hlv⟩ := HN.out.gone hg
      have HH := Lib.hid hh
      have HLV := Lib.hid hlv
      have HOW := Lib.hid hg.own
      have hob : w1.heap[w.heap.size]? = some (.cells (opcells ⟨3, ot, n, onn, om, ⟨q0, q1, q2⟩, ⟨r0, r1, r2, r3, r4, r5, r6, r7, pc⟩, oon⟩) 47 (0, 0)) := hg.fr.heap HOB.out fun hk => by have := HLT.out.2.2 _ hk; omega
      have HOB1 := Lib.hid hob
      have hne1 : w.heap.size ≠ bb := by have := HLT.out.1; omega
      obtain ⟨paid, hb1, hb2⟩ := hh.book
      have HB1 := Lib.hid hb1
      have HB2 := Lib.hid hb2
      obtain ⟨al, capl, rfl, hl0⟩ := own_slice hg.own
      have HL0 := Lib.hid hl0
      obtain ⟨nt, hnt⟩ : ∃ nt, t.length = nt := ⟨_, rfl⟩
      rw [hnt] at HL0 HOW HLV ⊢
      have HNT := Lib.hid hnt
      have hnt16 : nt ≤ 16 := by have := HE.out.len; omega
      have hnt0 : 0 < nt := by
        have h1 := HE.out.tree.head n (by simp)
        have := List.length_pos_of_mem h1
        omega
      have HT0 : Hid (t[0]? = some n) := Lib.hid (by
        have h1 := HE.out.tree
        cases h1
        rfl)
      have HWL : Hid (w.heap.size < w1.heap.size) := Lib.hid (lt_of_block hob)
      have hobl : Hid (∀ g, (Value.slice al nt capl).ownBlock = some g → g ≠ w.heap.size ∧ g < w1.heap.size) := Lib.hid fun g hgg => by
        have h1 := HOW.out.lt g hgg
        have h2 : W.heap.size = w.heap.size + 1 := by rw [hW.out]; simp
        omega
      clear hg hh hlv hob hb1 hb2 hl0 hnt
      go_wp2_with fail
      go_loopg [11] nt (fun m i wr => ∃ j : Nat, j ≤ nt ∧ m + j = nt ∧ i = .int .i64 j ∧ Hid (BookAt wr bb (ending T t j) paid T.last ∧ Fr (One bb) w1 wr))
      case atStart => exact ⟨0, by omega, by omega, rfl, Lib.hid ⟨HB1.out.congr (fun m _ => by simp [ending]) (fun _ _ => rfl), Fr.refl _ _⟩⟩
      case round =>
        obtain ⟨j, hj, hm, rfl, HR2⟩ := hrel
        by_cases hlt : j < nt
        · obtain ⟨c, hc⟩ : ∃ c, t[j]? = some c := ⟨_, List.getElem?_eq_getElem (by rw [HNT.out]; exact hlt)⟩
          obtain ⟨gq, rfl, _⟩ := HL0.out (by omega)
          have hcell : wr.cell? ⟨gq, j, none⟩ = some (.int .i64 (c : Int)) := own_cell (own_fr HOW.out HR2.out.2 fun g hg => One.not (HLV.out g hg).2) (by unfold kidv; rw [List.getElem?_map, hc]; rfl)
          have hcg : gq < wr.heap.size := World.block_lt_of_cell? _ _ hcell
          obtain ⟨rc, hrc⟩ := HE.out.tree.live c (List.mem_of_getElem? hc)
          have hc16 := HN.out.inv.lt c rc hrc
          have hcj : c ∉ t.take j := fun hx => by
            obtain ⟨i, hi⟩ := List.getElem?_of_mem hx
            rw [List.getElem?_take] at hi
            split at hi
            · rename_i hij
              have hp := List.pairwise_iff_getElem.1 HE.out.nodup
              obtain ⟨l3, v3⟩ := List.getElem?_eq_some_iff.1 hi
              obtain ⟨l4, v4⟩ := List.getElem?_eq_some_iff.1 hc
              exact hp i j l3 l4 hij (by rw [v3, v4])
            · cases hi
          have hc0 : c ≠ 0 := fun e0 => by
            subst e0
            rcases HE.out.tree.up 0 (List.mem_of_getElem? hc) with h1 | ⟨p', _, rp', h2, h3⟩
            · have := HE.out.n0; simp at h1; omega
            · obtain ⟨rc', h4, h5⟩ := HN.out.inv.kid p' rp' 0 h2 h3
              exact (HN.out.inv.kser h2 h3 h4).2.2 rfl
          have hlive : ending T t j c = true := by unfold ending; rw [hrc]; simp [hcj]
          have hcI : ¬ ((c : Int) ≤ 0) := by omega
          have hcI2 : (0 : Int) ≤ (c : Int) := by omega
          have hcI3 : (c : Int) < 16 := by omega
          have HLS := Lib.hid (lives_any HR2.out.1 (c : Int))
          have hls : livesB (ending T t j) (c : Int) = true := by
            unfold livesB
            rw [decide_eq_true (by omega)]
            simpa using hlive
          rw [hls] at HLS
          have k0 := HR2.out.1.live hc16
          rw [hlive] at k0
          have kf := HR2.out.1.free c
          have klt := HR2.out.1.lt
          have HTK : Hid (t.take (j + 1) = t.take j ++ [c]) := Lib.hid (by rw [List.take_add_one, hc]; rfl)
          clear hc hrc hcj hlive hls hc0
          go_wp2_with fail
          refine HLS.out.mono ?_
          rintro e w' ⟨rfl, rfl⟩
          go_wp2_with fail
          go_region
          all_goals
            go_wp2_with fail
            go_roundg (nt - (j + 1))
            case rel =>
              refine ⟨j + 1, by omega, by omega, by go_num, Lib.hid ⟨BookAt.congr (BookAt.keep (S := No) (HR2.out.1.setLive hc16 false) (Fr.refl _ _).drew id) (fun m _ => ?_) (fun _ _ => rfl), Fr.drew (HR2.out.2.put (.inl (One.self bb)) _ _)⟩⟩
              unfold ending
              rw [HTK.out]
              by_cases e : m = c
              · subst e; simp
              · rw [if_neg e]; simp [e]
            case measure => omega
        · obtain rfl : j = nt := by omega
          obtain ⟨gq, rfl, _⟩ := HL0.out (by omega)
          have hcell : wr.cell? ⟨gq, 0, none⟩ = some (.int .i64 (n : Int)) := own_cell (own_fr HOW.out HR2.out.2 fun g hg => One.not (HLV.out g hg).2) (by unfold kidv; rw [List.getElem?_map, HT0.out]; rfl)
          have hcg : gq < wr.heap.size := World.block_lt_of_cell? _ _ hcell
          have hob2 := HR2.out.2.heap HOB1.out (One.not hne1)
          have c2 : wr.cell? ⟨w.heap.size, 2, none⟩ = some (.int .i64 (n : Int)) := cell_blk hob2 rfl
          have clt := lt_of_block hob2
          have hz0 : decide ((0 : Int) < (j : Int)) = true := by simp; omega
          have hz1 : (0 : Int) < (j : Int) := by omega
          have HBF : Hid (NS w0 b L' (T.gone p n rp r t) bb wr) := Lib.hid (by
            refine HH.out.full HI.out ⟨paid, ?_, fun m s hm => ?_⟩ HR2.out.2
            · have hl : (T.gone p n rp r t).last = T.last := by show ((T.set p _).drops t).last = _; rw [drops_last]; rfl
              rw [hl]
              refine HR2.out.1.congr (fun m _ => ?_) (fun _ _ => rfl)
              have hfull : t.take j = t := List.take_of_length_le (by rw [HNT.out]; omega)
              unfold ending
              rw [hfull]
              show (((T.set p _).drops t).live m).isSome = _
              rw [drops_live]
              by_cases e1 : m ∈ t
              · rw [if_pos e1]; simp [e1]
              · rw [if_neg e1, Tb.set_some HE.out.hp]; simp [e1]
            · have hm2 : ((T.set p (rp.without n r)).drops t).live m = some s := hm
              rw [drops_live] at hm2
              by_cases e1 : m ∈ t
              · rw [if_pos e1] at hm2; cases hm2
              · rw [if_neg e1] at hm2
                rcases Tb.set_get hm2 with ⟨rfl, rfl⟩ | ⟨_, hm3⟩
                · exact HB2.out m rp HE.out.hp
                · exact HB2.out m s hm3)
          go_wp2_with fail
          go_quiet (fail)
          go_wp2_with fail
          go_ret
          exact ⟨rfl, L', _, HBF.out.no ((Fr.refl _ _).drewN _), .inr (.inl ⟨rfl, .inr ⟨n, p, r, rp, t, rfl, HE.out.n0, HE.out.he, HE.out.par, HE.out.hp, HE.out.tree, rfl⟩⟩)⟩
end
end Go.Proofs.Ytdogpkcalflhbaa
