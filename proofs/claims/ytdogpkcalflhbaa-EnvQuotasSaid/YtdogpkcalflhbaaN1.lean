/- EnvNotices: the walk. -/
import Derived.Test.YtdogpkcalflhbaaC17
import Derived.Test.YtdogpkcalflhbaaC16
set_option linter.unusedSimpArgs false
set_option linter.unusedVariables false
namespace Go.Proofs.Ytdogpkcalflhbaa
open Go.RowKit

/-- Environment 1 of the table, as the statement's own words tell it. -/
structure Not1 (T : Tb) (r r0 : Rec) (h : Int) (s : Bool) : Prop where
  one : T.live 1 = some r
  zero : T.live 0 = some r0
  f0 : r0.frozen = false
  p0 : r0.parent = -1
  parent : r.parent = 0
  frozen : r.frozen = false
  bits : r.bits = h
  state : r.state = if s then 2 else 1
  pc : r.regs.pc = 77
  r2 : r.regs.r2 = 9
  none : s = true → h = 0
  ok : ∀ n q, T.live n = some q → Rok q
theorem Not1.word {T : Tb} {r r0 : Rec} {h : Int} {s : Bool} (H : Not1 T r r0 h s) : word h = true := by have := (H.ok 1 r H.one).bits; rw [H.bits] at this; exact this
theorem Not1.up {T : Tb} {r r0 : Rec} {h : Int} {s : Bool} (H : Not1 T r r0 h s) : Up T 1 [r, r0] := by
  refine .step (by rw [show (1 : Int) = ((1 : Nat) : Int) from rfl, T.at_nat]; exact H.one) (.step (r := r0) ?_ (.stop ?_))
  · rw [H.parent, show (0 : Int) = ((0 : Nat) : Int) from rfl, T.at_nat]; exact H.zero
  · rw [H.p0]; exact T.at_neg (by omega)
theorem Not1.set {T : Tb} {r r0 : Rec} {h : Int} {s : Bool} (H : Not1 T r r0 h s) (r' : Rec) (h' : Int) (s' : Bool) (e1 : r'.parent = r.parent) (e2 : r'.frozen = r.frozen) (e3 : r'.bits = h') (e4 : r'.state = if s' then 2 else 1) (e5 : r'.regs.pc = r.regs.pc) (e6 : r'.regs.r2 = r.regs.r2)
    (e7 : s' = true → h' = 0) (e8 : Ytdogpkcalflhbaa.word h' = true) (e9 : r'.whole = r.whole) (e10 : r'.paid = r.paid) (e11 : r'.carved = r.carved) : Not1 (T.set 1 r') r' r0 h' s' := by
  refine ⟨T.set_same _ _, by rw [T.set_other _ (by omega)]; exact H.zero, H.f0, H.p0, e1.trans H.parent, e2.trans H.frozen, e3, e4, e5.trans H.pc, e6.trans H.r2, e7, fun n q hq => ?_⟩
  rcases Tb.set_get hq with ⟨rfl, rfl⟩ | ⟨_, hq⟩
  · have := H.ok 1 r H.one
    exact ⟨by rw [e3]; exact e8, by rw [e9]; exact this.whole, by rw [e10]; exact this.paid, by rw [e11]; exact this.carved⟩
  · exact H.ok n q hq

/-- The walk's state. -/
structure NSt (w : World) (b : Nat) (L : Lay) (T : Tb) (wr : World) : Prop where
  tab : TabAt wr b L T
  fr : Fr No w wr
  own : ∀ k, Own L k → w.heap.size ≤ k
section
variable {w wr w' : World} {b : Nat} {L : Lay} {T T' : Tb}
theorem NSt.no (h : NSt w b L T wr) (hf : Fr No wr w') : NSt w b L T w' := ⟨h.tab.no hf, h.fr.trans hf, h.own⟩
theorem NSt.left (h : NSt w b L T wr) (hl : Left wr b L T' w') : NSt w b L T' w' := ⟨hl.tab, h.fr.then hl.fr fun i hi hk => by have := h.own i hk; omega, h.own⟩
end

/-- T2's environment 1 behind SetState and SetRegs. -/
def Tn : Tb := ((T2.setState 1 1 0).1.setRegs 1 ⟨9, 9, 9, 9, 9, 9, 9, 9, 77⟩).1
theorem T2_ok : ∀ n q, T2.live n = some q → Rok q := by
  intro n q h
  by_cases h0 : n = 0
  · subst h0
    have e : T2.live 0 = some { Rec.new 1 (-1) ⟨40, 24, 8⟩ with carved := ⟨20, 8, 3⟩, kids := [1] } := rfl
    rw [e] at h
    obtain rfl : _ = q := by simpa using h
    exact ⟨rfl, by unfold Qok Rec.new; simp, by unfold Qok Rec.new Qt.zero; simp, by unfold Qok; simp⟩
  · by_cases h1 : n = 1
    · subst h1
      have e : T2.live 1 = some { Rec.new 2 0 ⟨20, 7, 3⟩ with carved := ⟨6, 3, 1⟩, kids := [2] } := rfl
      rw [e] at h
      obtain rfl : _ = q := by simpa using h
      exact ⟨rfl, by unfold Qok Rec.new; simp, by unfold Qok Rec.new Qt.zero; simp, by unfold Qok; simp⟩
    · by_cases h2 : n = 2
      · subst h2
        have e : T2.live 2 = some (Rec.new 3 1 ⟨6, 2, 1⟩) := rfl
        rw [e] at h
        obtain rfl : _ = q := by simpa using h
        exact ⟨rfl, by unfold Qok Rec.new; simp, by unfold Qok Rec.new Qt.zero; simp, by unfold Qok Rec.new Qt.zero; simp⟩
      · have e : T2.live n = none := by
          show (if n = 1 then _ else if n = 2 then _ else if n = 0 then _ else if n = 1 then _ else if n = 0 then _ else none) = none
          rw [if_neg h1, if_neg h2, if_neg h0, if_neg h1, if_neg h0]
        rw [e] at h
        cases h
theorem Tn_not : ∃ r r0, Not1 Tn r r0 0 false := by
  refine ⟨_, _, rfl, rfl, rfl, rfl, rfl, rfl, rfl, rfl, rfl, rfl, (fun h => by cases h), fun n q hq => ?_⟩
  by_cases h1 : n = 1
  · subst h1
    have e : Tn.live 1 = some { Rec.new 2 0 ⟨20, 7, 3⟩ with carved := ⟨6, 3, 1⟩, kids := [2], state := 1, code := 0, regs := ⟨9, 9, 9, 9, 9, 9, 9, 9, 77⟩ } := rfl
    rw [e] at hq
    obtain rfl : _ = q := by simpa using hq
    exact ⟨rfl, by unfold Qok Rec.new; simp, by unfold Qok Rec.new Qt.zero; simp, by unfold Qok; simp⟩
  · have e : Tn.live n = T2.live n := by
      show (if n = 1 then _ else if n = 1 then _ else T2.live n) = _
      rw [if_neg h1, if_neg h1]
    rw [e] at hq
    exact T2_ok n q hq

set_option maxRecDepth 100000 in
set_option maxHeartbeats 16000000 in
theorem notices_walk (w : World) (a : Option Addr) (cap : Nat) (l : List Int) (hl : LAt w (.slice a l.length cap) (l.map fun x => .int .i64 x)) (hlen : l.length ≤ 9223372036854775807) :
    Calls Try.prog 3 #[.slice a l.length cap] w fun e w' => e = .returned (.bool true) ∧ Fr No w w' := by
  obtain ⟨N, hN⟩ : ∃ N, Hid (l.length = N) := ⟨_, Lib.hid rfl⟩
  have HL : Hid (∀ j x, l[j]? = some x → ∃ g o, a = some ⟨g, o, none⟩ ∧ w.cell? ⟨g, o + j, none⟩ = some (.int .i64 x)) := Lib.hid fun j x hx => by
    have hj := (List.getElem?_eq_some_iff.1 hx).1
    rcases hl with ⟨h, h0⟩ | ⟨a', cap', h, _, hs⟩
    · have : l = [] := by simpa using h0
      subst this; simp at hx
    · obtain ⟨g, o, rfl, hseg⟩ := hs (by simpa using by omega)
      simp only [Value.slice.injEq] at h
      exact ⟨g, o, h.1, hseg j _ (by rw [List.getElem?_map, hx]; rfl)⟩
  rw [hN.out] at hlen ⊢
  clear hl
  go_enter Try.func3, Try.ntmps3
  go_wp2_with fail
  refine (first_any w).mono ?_
  rintro e w1 ⟨b, L, bb, rfl, hb⟩
  have S1 : Hid (NSt w b L T2 w1) := Lib.hid ⟨hb.tab, hb.fr, hb.own⟩
  clear hb
  go_wp2_with fail
  refine (SetState_any S1.out.tab 1 1 0).mono ?_
  rintro e w2 ⟨rfl, hl2⟩
  have S2 := Lib.hid (S1.out.left hl2)
  clear hl2
  go_wp2_with fail
  refine (SetRegs_any S2.out.tab 1 ⟨9, 9, 9, 9, 9, 9, 9, 9, 77⟩).mono ?_
  rintro e w3 ⟨rfl, hl3⟩
  have S3 : Hid (NSt w b L Tn w3) := Lib.hid (S2.out.left hl3)
  clear hl3
  go_wp2_with fail
  go_loopg [5, 6, 7] N (fun m hv st i wr => ∃ (j : Nat) (h : Int) (s : Bool), j ≤ N ∧ m + j = N ∧ i = .int .i64 j ∧ hv = .int .i64 h ∧ st = .bool s ∧ Hid (∃ T r r0, Not1 T r r0 h s ∧ NSt w b L T wr))
  case atStart =>
    obtain ⟨r, r0, hn⟩ := Tn_not
    exact ⟨0, 0, false, by omega, by omega, rfl, rfl, rfl, Lib.hid ⟨Tn, r, r0, hn, S3.out⟩⟩
  case round =>
    obtain ⟨j, h, s, hj, hm, rfl, rfl, rfl, HR⟩ := hrel
    by_cases hlt : j < N
    · obtain ⟨T, r, r0, hn, hst⟩ := HR.out
      obtain ⟨x, hx⟩ : ∃ x, l[j]? = some x := ⟨_, List.getElem?_eq_getElem (by rw [hN.out]; exact hlt)⟩
      obtain ⟨g, o, rfl, hcw⟩ := HL.out j x hx
      have hgw : g < w.heap.size := World.block_lt_of_cell? _ _ hcw
      have hc : wr.cell? ⟨g, o + j, none⟩ = some (.int .i64 x) := (hst.fr.cell (p := ⟨g, o + j, none⟩) hgw id).trans hcw
      have hgr : g < wr.heap.size := World.block_lt_of_cell? _ _ hc
      have HN := Lib.hid hn
      have HS := Lib.hid hst
      have hone : T.at 1 = some r := by rw [show (1 : Int) = ((1 : Nat) : Int) from rfl, T.at_nat]; exact hn.one
      have HO := Lib.hid hone
      have hwd := word_iff.1 hn.word
      clear hn hst hx hcw hgw HR hone
      by_cases hx0 : x < 0
      · by_cases hh : h = 0
        · subst hh
          have hw : T.wait 1 = (T.set 1 { r with bits := 0, state := 2 }, 0, 0) := by unfold Tb.wait; rw [HO.out]; simp [HN.out.bits]
          have HW := Lib.hid (Wait_any HS.out.tab 1)
          rw [hw] at HW
          have HN2 : Hid (Not1 (T.set 1 { r with bits := 0, state := 2 }) { r with bits := 0, state := 2 } r0 0 true) := Lib.hid (HN.out.set _ _ _ rfl rfl rfl rfl rfl rfl (fun _ => rfl) rfl rfl rfl rfl)
          have hrB : runsB [{ r with bits := 0, state := 2 }, r0] = false := by unfold runsB; simp
          have HRB := Lib.hid hrB
          clear hw hrB
          cases s
          all_goals
            go_wp2_with fail
            refine HW.out.mono ?_
            rintro e w4 ⟨rfl, hl4⟩
            have S4 := Lib.hid (HS.out.left hl4)
            clear hl4
            go_wp2_with fail
            refine (Runs_any S4.out.tab 1 _ HN2.out.up).mono ?_
            rintro e w5 ⟨rfl, hf5⟩
            have S5 := Lib.hid (S4.out.no hf5)
            rw [HRB.out]
            clear hf5
            go_wp2_with fail
            go_roundg (N - (j + 1))
            case rel => exact ⟨j + 1, 0, true, by omega, by omega, by go_num, rfl, rfl, Lib.hid ⟨_, _, _, HN2.out, S5.out⟩⟩
            case measure => omega
        · obtain rfl : s = false := by
            cases s with
            | false => rfl
            | true => exact absurd (HN.out.none rfl) hh
          have hw : T.wait 1 = (T.set 1 { r with bits := 0 }, h, 0) := by unfold Tb.wait; rw [HO.out]; simp [HN.out.bits, hh]
          have HW := Lib.hid (Wait_any HS.out.tab 1)
          rw [hw] at HW
          have HN2 : Hid (Not1 (T.set 1 { r with bits := 0 }) { r with bits := 0 } r0 0 false) := Lib.hid (HN.out.set _ _ _ rfl rfl rfl (by have := HN.out.state; simpa using this) rfl rfl (fun h => by cases h) rfl rfl rfl rfl)
          have hrB : runsB [{ r with bits := 0 }, r0] = true := by
            have h1 := HN2.out.state
            have h2 := HN.out.frozen
            have h3 := HN.out.f0
            unfold runsB
            simp at h1
            simp [h1, h2, h3]
          have HRB := Lib.hid hrB
          have hh0 : (h == 0) = false := by simpa using hh
          clear hw hrB
          go_wp2_with fail
          refine HW.out.mono ?_
          rintro e w4 ⟨rfl, hl4⟩
          have S4 := Lib.hid (HS.out.left hl4)
          clear hl4
          go_wp2_with fail
          refine (Runs_any S4.out.tab 1 _ HN2.out.up).mono ?_
          rintro e w5 ⟨rfl, hf5⟩
          have S5 := Lib.hid (S4.out.no hf5)
          rw [HRB.out]
          clear hf5
          go_wp2_with fail
          go_roundg (N - (j + 1))
          case rel => exact ⟨j + 1, 0, false, by omega, by omega, by go_num, rfl, rfl, Lib.hid ⟨_, _, _, HN2.out, S5.out⟩⟩
          case measure => omega
      · have HW0 : Hid (∀ n q, T.live n = some q → word q.bits = true) := Lib.hid fun n q hq => (HN.out.ok n q hq).bits
        have HM := Lib.hid (Notify_any HS.out.tab 1 x HW0.out)
        by_cases hxw : 4294967295 < x
        · have hn1 : T.notify 1 x = (T, 1) := by
            unfold Tb.notify
            rw [HO.out]
            simp only
            rw [if_pos]
            cases e : word x with
            | false => rfl
            | true => have := word_iff.1 e; omega
          rw [hn1] at HM
          clear hn1
          go_wp2_with fail
          refine HM.out.mono ?_
          rintro e w4 ⟨rfl, hl4⟩
          have S4 := Lib.hid (HS.out.left hl4)
          clear hl4
          go_wp2_with fail
          go_roundg (N - (j + 1))
          case rel => exact ⟨j + 1, h, s, by omega, by omega, by go_num, rfl, rfl, Lib.hid ⟨_, _, _, HN.out, S4.out⟩⟩
          case measure => omega
        · have hxW : word x = true := word_iff.2 ⟨by omega, by omega⟩
          obtain ⟨B, hB⟩ : ∃ B, orW h x = B := ⟨_, rfl⟩
          have hBw : word B = true := by rw [← hB]; exact (orW_nat HN.out.word hxW).2
          have HBB : Hid (bits BinOp.or IntKind.i64 h x = B) := Lib.hid hB
          have hBb : orW r.bits x = B := by rw [HN.out.bits]; exact hB
          have HBZ : Hid (B = 0 → h = 0) := Lib.hid fun e => ((orW_zero HN.out.word hxW).1 (hB.trans e)).1
          by_cases hwake : s = true ∧ B ≠ 0
          · obtain ⟨rfl, hB0⟩ := hwake
            have hn1 : T.notify 1 x = (T.set 1 { r with bits := 0, state := 1, regs := { r.regs with r0 := 0, r1 := B } }, 0) := by
              have hst2 : r.state = 2 := by have := HN.out.state; simpa using this
              unfold Tb.notify
              rw [HO.out]
              simp only
              rw [if_neg (by rw [hxW]; simp)]
              unfold Rec.noticed
              rw [if_pos ⟨hst2, by rw [hBb]; exact hB0⟩, hBb]
              rfl
            rw [hn1] at HM
            have HN2 : Hid (Not1 (T.set 1 { r with bits := 0, state := 1, regs := { r.regs with r0 := 0, r1 := B } }) { r with bits := 0, state := 1, regs := { r.regs with r0 := 0, r1 := B } } r0 0 false) := Lib.hid (HN.out.set _ _ _ rfl rfl rfl rfl rfl rfl (fun h => by cases h) rfl rfl rfl rfl)
            have hBn : (B != 0) = true := by simpa using hB0
            have hBI := word_iff.1 hBw
            obtain ⟨hB1, hB2⟩ := hBI
            clear hn1 hB hBb hxW hBw hB0
            go_wp2_with fail
            refine HM.out.mono ?_
            rintro e w4 ⟨rfl, hl4⟩
            have S4 : Hid (NSt w b L (T.set 1 { r with bits := 0, state := 1, regs := { r.regs with r0 := 0, r1 := B } }) w4) := Lib.hid (HS.out.left hl4)
            have HI := Lib.hid (Info_some S4.out.tab 1 _ HN2.out.one (HN2.out.ok 1 _ HN2.out.one))
            clear hl4
            go_wp2_with fail
            refine HI.out.mono ?_
            rintro e w5 ⟨rfl, hf5⟩
            have S5 := Lib.hid (S4.out.no hf5)
            clear hf5
            go_wp2_with (with_reducible show wpList _ _ _ (Oper.mk none (.store 41 _ _) _ _ _ _ :: _) _ _; refine Stop.mk ?_)
            rw [HBB.out]
            obtain ⟨W5, hW5⟩ : ∃ W5, W5 = w5.alloc (.cells #[.int .i64 0, .int .i64 0, .int .i64 0, .int .i64 0, .int .i64 0, .bool false, .int .u32 0, .int .u32 0, .int .u32 0, .int .u32 0, .int .u32 0, .int .u32 0, .int .u32 0, .int .u32 0, .int .u32 0, .int .i64 0, .int .i64 0, .int .i64 0, .int .i64 0, .int .i64 0, .int .i64 0] 41) := ⟨_, rfl⟩
            rw [← hW5]
            have HW5 : Hid (W5.heap[w5.heap.size]? = some (.cells zero41 41 (0, 0)) ∧ Fr No w5 W5) := Lib.hid (by rw [hW5]; exact ⟨heap_alloc_new w5 _, (Fr.refl _ _).alloc _⟩)
            clear hW5
            refine Stop.go ?_
            refine wpList_store_seg rfl rfl (.tmp 12) (.tmp 78) 41 rfl 21 Try.sizeOf41 w5.heap.size 0 (infocells { r with bits := 0, state := 1, regs := { r.regs with r0 := 0, r1 := B } }).toList rfl rfl rfl (infocells_one _) ⟨zero41, 41, HW5.out.1, by simp [zero41]⟩ ?_
            obtain ⟨w6, hw6⟩ : ∃ w6, w6 = World.setSeg W5 w5.heap.size 0 (infocells { r with bits := 0, state := 1, regs := { r.regs with r0 := 0, r1 := B } }).toList := ⟨_, rfl⟩
            rw [← hw6]
            have HB6 : Hid (w6.heap[w5.heap.size]? = some (.cells (infocells { r with bits := 0, state := 1, regs := { r.regs with r0 := 0, r1 := B } }) 41 (0, 0)) ∧ Fr No w5 w6) := Lib.hid (by rw [hw6]; exact ⟨heap_seg_all HW5.out.1 rfl, HW5.out.2.seg (.inr (Nat.le_refl _)) _ _⟩)
            clear hw6
            have S6 := Lib.hid (S5.out.no HB6.out.2)
            have d14 : w6.cell? ⟨w5.heap.size, 14, none⟩ = some (.int .u32 77) := cell_blk HB6.out.1 (by show some (Value.int .u32 { r with bits := 0, state := 1, regs := { r.regs with r0 := 0, r1 := B } }.regs.pc) = _; rw [HN.out.pc])
            have d8 : w6.cell? ⟨w5.heap.size, 8, none⟩ = some (.int .u32 9) := cell_blk HB6.out.1 (by show some (Value.int .u32 { r with bits := 0, state := 1, regs := { r.regs with r0 := 0, r1 := B } }.regs.r2) = _; rw [HN.out.r2])
            have d2 : w6.cell? ⟨w5.heap.size, 2, none⟩ = some (.int .i64 1) := cell_blk HB6.out.1 rfl
            have d4 : w6.cell? ⟨w5.heap.size, 4, none⟩ = some (.int .i64 0) := cell_blk HB6.out.1 rfl
            have d6 : w6.cell? ⟨w5.heap.size, 6, none⟩ = some (.int .u32 0) := cell_blk HB6.out.1 rfl
            have d7 : w6.cell? ⟨w5.heap.size, 7, none⟩ = some (.int .u32 B) := cell_blk HB6.out.1 rfl
            have dlt : w5.heap.size < w6.heap.size := lt_of_block HB6.out.1
            go_wp2_with fail
            go_roundg (N - (j + 1))
            case rel => exact ⟨j + 1, 0, false, by omega, by omega, by go_num, rfl, rfl, Lib.hid ⟨_, _, _, HN2.out, S6.out⟩⟩
            case measure => omega
          · have hn1 : T.notify 1 x = (T.set 1 { r with bits := B }, 0) := by
              unfold Tb.notify
              rw [HO.out]
              simp only
              rw [if_neg (by rw [hxW]; simp)]
              unfold Rec.noticed
              rw [if_neg, hBb]
              · rfl
              · rintro ⟨h1, h2⟩
                rw [hBb] at h2
                refine hwake ⟨?_, h2⟩
                have := HN.out.state
                rw [h1] at this
                cases s with
                | true => rfl
                | false => simp at this
            rw [hn1] at HM
            have HSB : Hid (s = true → B = 0) := Lib.hid fun hs => by
              by_cases e : B = 0
              · exact e
              · exact absurd ⟨hs, e⟩ hwake
            have HN2 : Hid (Not1 (T.set 1 { r with bits := B }) { r with bits := B } r0 B s) := Lib.hid (HN.out.set _ _ _ rfl rfl rfl HN.out.state rfl rfl HSB.out hBw rfl rfl rfl)
            clear hn1 hB hBb hxW hBw hwake
            cases s
            · go_wp2_with fail
              refine HM.out.mono ?_
              rintro e w4 ⟨rfl, hl4⟩
              have S4 : Hid (NSt w b L (T.set 1 { r with bits := B }) w4) := Lib.hid (HS.out.left hl4)
              have HI := Lib.hid (Info_some S4.out.tab 1 _ HN2.out.one (HN2.out.ok 1 _ HN2.out.one))
              clear hl4
              go_wp2_with fail
              refine HI.out.mono ?_
              rintro e w5 ⟨rfl, hf5⟩
              have S5 := Lib.hid (S4.out.no hf5)
              clear hf5
              go_wp2_with (with_reducible show wpList _ _ _ (Oper.mk none (.store 41 _ _) _ _ _ _ :: _) _ _; refine Stop.mk ?_)
              rw [HBB.out]
              obtain ⟨W5, hW5⟩ : ∃ W5, W5 = w5.alloc (.cells #[.int .i64 0, .int .i64 0, .int .i64 0, .int .i64 0, .int .i64 0, .bool false, .int .u32 0, .int .u32 0, .int .u32 0, .int .u32 0, .int .u32 0, .int .u32 0, .int .u32 0, .int .u32 0, .int .u32 0, .int .i64 0, .int .i64 0, .int .i64 0, .int .i64 0, .int .i64 0, .int .i64 0] 41) := ⟨_, rfl⟩
              rw [← hW5]
              have HW5 : Hid (W5.heap[w5.heap.size]? = some (.cells zero41 41 (0, 0)) ∧ Fr No w5 W5) := Lib.hid (by rw [hW5]; exact ⟨heap_alloc_new w5 _, (Fr.refl _ _).alloc _⟩)
              clear hW5
              refine Stop.go ?_
              refine wpList_store_seg rfl rfl (.tmp 12) (.tmp 78) 41 rfl 21 Try.sizeOf41 w5.heap.size 0 (infocells { r with bits := B }).toList rfl rfl rfl (infocells_one _) ⟨zero41, 41, HW5.out.1, by simp [zero41]⟩ ?_
              obtain ⟨w6, hw6⟩ : ∃ w6, w6 = World.setSeg W5 w5.heap.size 0 (infocells { r with bits := B }).toList := ⟨_, rfl⟩
              rw [← hw6]
              have HB6 : Hid (w6.heap[w5.heap.size]? = some (.cells (infocells { r with bits := B }) 41 (0, 0)) ∧ Fr No w5 w6) := Lib.hid (by rw [hw6]; exact ⟨heap_seg_all HW5.out.1 rfl, HW5.out.2.seg (.inr (Nat.le_refl _)) _ _⟩)
              clear hw6
              have S6 := Lib.hid (S5.out.no HB6.out.2)
              have d14 : w6.cell? ⟨w5.heap.size, 14, none⟩ = some (.int .u32 77) := cell_blk HB6.out.1 (by show some (Value.int .u32 { r with bits := B }.regs.pc) = _; rw [HN.out.pc])
              have d8 : w6.cell? ⟨w5.heap.size, 8, none⟩ = some (.int .u32 9) := cell_blk HB6.out.1 (by show some (Value.int .u32 { r with bits := B }.regs.r2) = _; rw [HN.out.r2])
              have d2 : w6.cell? ⟨w5.heap.size, 2, none⟩ = some (.int .i64 1) := cell_blk HB6.out.1 (by have := HN.out.state; show some (Value.int .i64 r.state) = _; rw [this]; rfl)
              have d4 : w6.cell? ⟨w5.heap.size, 4, none⟩ = some (.int .i64 B) := cell_blk HB6.out.1 rfl

              have dlt : w5.heap.size < w6.heap.size := lt_of_block HB6.out.1
              go_wp2_with fail
              go_roundg (N - (j + 1))
              case rel => exact ⟨j + 1, B, false, by omega, by omega, by go_num, rfl, rfl, Lib.hid ⟨_, _, _, HN2.out, S6.out⟩⟩
              case measure => omega
            · obtain rfl : B = 0 := HSB.out rfl
              go_wp2_with fail
              refine HM.out.mono ?_
              rintro e w4 ⟨rfl, hl4⟩
              have S4 : Hid (NSt w b L (T.set 1 { r with bits := 0 }) w4) := Lib.hid (HS.out.left hl4)
              have HI := Lib.hid (Info_some S4.out.tab 1 _ HN2.out.one (HN2.out.ok 1 _ HN2.out.one))
              clear hl4
              go_wp2_with fail
              refine HI.out.mono ?_
              rintro e w5 ⟨rfl, hf5⟩
              have S5 := Lib.hid (S4.out.no hf5)
              clear hf5
              go_wp2_with (with_reducible show wpList _ _ _ (Oper.mk none (.store 41 _ _) _ _ _ _ :: _) _ _; refine Stop.mk ?_)
              rw [HBB.out]
              obtain ⟨W5, hW5⟩ : ∃ W5, W5 = w5.alloc (.cells #[.int .i64 0, .int .i64 0, .int .i64 0, .int .i64 0, .int .i64 0, .bool false, .int .u32 0, .int .u32 0, .int .u32 0, .int .u32 0, .int .u32 0, .int .u32 0, .int .u32 0, .int .u32 0, .int .u32 0, .int .i64 0, .int .i64 0, .int .i64 0, .int .i64 0, .int .i64 0, .int .i64 0] 41) := ⟨_, rfl⟩
              rw [← hW5]
              have HW5 : Hid (W5.heap[w5.heap.size]? = some (.cells zero41 41 (0, 0)) ∧ Fr No w5 W5) := Lib.hid (by rw [hW5]; exact ⟨heap_alloc_new w5 _, (Fr.refl _ _).alloc _⟩)
              clear hW5
              refine Stop.go ?_
              refine wpList_store_seg rfl rfl (.tmp 12) (.tmp 78) 41 rfl 21 Try.sizeOf41 w5.heap.size 0 (infocells { r with bits := 0 }).toList rfl rfl rfl (infocells_one _) ⟨zero41, 41, HW5.out.1, by simp [zero41]⟩ ?_
              obtain ⟨w6, hw6⟩ : ∃ w6, w6 = World.setSeg W5 w5.heap.size 0 (infocells { r with bits := 0 }).toList := ⟨_, rfl⟩
              rw [← hw6]
              have HB6 : Hid (w6.heap[w5.heap.size]? = some (.cells (infocells { r with bits := 0 }) 41 (0, 0)) ∧ Fr No w5 w6) := Lib.hid (by rw [hw6]; exact ⟨heap_seg_all HW5.out.1 rfl, HW5.out.2.seg (.inr (Nat.le_refl _)) _ _⟩)
              clear hw6
              have S6 := Lib.hid (S5.out.no HB6.out.2)
              have d14 : w6.cell? ⟨w5.heap.size, 14, none⟩ = some (.int .u32 77) := cell_blk HB6.out.1 (by show some (Value.int .u32 { r with bits := 0 }.regs.pc) = _; rw [HN.out.pc])
              have d8 : w6.cell? ⟨w5.heap.size, 8, none⟩ = some (.int .u32 9) := cell_blk HB6.out.1 (by show some (Value.int .u32 { r with bits := 0 }.regs.r2) = _; rw [HN.out.r2])
              have d2 : w6.cell? ⟨w5.heap.size, 2, none⟩ = some (.int .i64 2) := cell_blk HB6.out.1 (by have := HN.out.state; show some (Value.int .i64 r.state) = _; rw [this]; rfl)
              have d4 : w6.cell? ⟨w5.heap.size, 4, none⟩ = some (.int .i64 0) := cell_blk HB6.out.1 rfl

              have dlt : w5.heap.size < w6.heap.size := lt_of_block HB6.out.1
              go_wp2_with fail
              go_roundg (N - (j + 1))
              case rel => exact ⟨j + 1, 0, true, by omega, by omega, by go_num, rfl, rfl, Lib.hid ⟨_, _, _, HN2.out, S6.out⟩⟩
              case measure => omega
    · obtain rfl : j = N := by omega
      go_wp2_with fail
      go_ret
      obtain ⟨T, r, r0, hn, hst⟩ := HR.out
      exact ⟨rfl, hst.fr⟩
end Go.Proofs.Ytdogpkcalflhbaa
