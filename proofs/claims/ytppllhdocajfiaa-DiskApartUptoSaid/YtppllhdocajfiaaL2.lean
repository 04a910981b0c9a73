/- laid: a list of writes, each taken. -/
import Derived.Test.YtppllhdocajfiaaL1
set_option linter.unusedSimpArgs false
set_option linter.unusedVariables false
namespace Go.Proofs.Ytppllhdocajfiaa
open Go.RowKit

/-- A write: any number for the sector, a byte. -/
structure PutD where
  sector : Int
  byte : UInt8
def putcells (p : PutD) : List Value := [.int .i64 p.sector, .int .u8 (p.byte.toNat : Int)]
def PutsAt (w : World) (v : Value) (l : List PutD) : Prop := RAt w v l.length (l.flatMap putcells)
def PutD.pend (p : PutD) : Nat × List UInt8 := (pl p.sector, List.replicate 128 p.byte)

theorem PutsAt.get {w : World} {v : Value} {l : List PutD} (h : PutsAt w v l) {i : Nat} {p : PutD} (hp : l[i]? = some p) : ∃ g o cap, v = .slice (some ⟨g, o, none⟩) l.length cap ∧ l.length ≤ cap ∧
    w.cell? ⟨g, o + i * 2, none⟩ = some (.int .i64 p.sector) ∧ w.cell? ⟨g, o + i * 2 + 1, none⟩ = some (.int .u8 (p.byte.toNat : Int)) := by
  obtain ⟨a, cap, rfl, hc, hs⟩ := h.len
  have hi := (List.getElem?_eq_some_iff.1 hp).1
  obtain ⟨g, o, rfl, hseg⟩ := hs (by omega)
  have f0 := flat_get putcells 2 l (fun _ _ => rfl) i 0 p hp (by omega)
  have f1 := flat_get putcells 2 l (fun _ _ => rfl) i 1 p hp (by omega)
  refine ⟨g, o, cap, rfl, hc, ?_, ?_⟩
  · have := hseg (i * 2 + 0) _ (f0.trans rfl)
    simpa [putcells] using this
  · have := hseg (i * 2 + 1) _ (f1.trans rfl)
    simpa [putcells, Nat.add_assoc] using this

section
variable {w : World} {b c : Nat} {D : Dk}
theorem Write_own (h : DiskAt w b c D) (s : Nat) (hs : s < 1024) {base g cap : Nat} {X : List UInt8} (hown : w.ownsRow base 5 1 (.slice (some ⟨g, 0, none⟩) 128 cap) 128 (X.map bv)) (hg : g ≠ b)
    (ha : D.acts ≤ 4611686018427387904) (hlen : D.cache.length ≤ 1073741824) (D' : Dk) (r : Int) (hr : D.write s X = (D', r)) :
    Calls Try.prog 16 #[.pointer (some ⟨b, 0, none⟩), .int .i64 s, .slice (some ⟨g, 0, none⟩) 128 cap] w fun e w' => e = .returned (.int .i64 r) ∧ (∃ c', DiskAt w' b c' D' ∧ (c' = c ∨ w.heap.size ≤ c')) ∧ Fr (Two b c) w w' := by
  have hX : X.length = 128 := by have := hown.1; simpa using this
  obtain ⟨hL, hn, _⟩ := LAt.of_own hown
  obtain ⟨_, _, e, hh⟩ := own_slice hown
  simp only [Value.slice.injEq] at e
  obtain ⟨rfl, _, rfl⟩ := e
  obtain ⟨g', hg', hcap, _, _⟩ := hh (by omega)
  have hseg : SegAt w g 0 (X.map bv) := fun j v hv => by rw [Nat.zero_add]; exact own_cell hown hv
  refine Write_go h s hs g 0 cap X hX hcap (fun w' hf => hseg.keep ?_) ha hlen D' r hr
  exact hf.block g (hseg.lt (by simp [hX])) (One.not hg)

theorem write_up {D : Dk} (hd : D.down = false) (hm : D.armed = false) (s : Nat) (X : List UInt8) : D.write s X = ({ D with cache := D.cache ++ [(s, X)], acts := D.acts + 1 }, 0) := by
  simp [Dk.write, Dk.act, hd, hm]

set_option maxHeartbeats 1000000 in
set_option maxRecDepth 100000 in
theorem laid_ok (h : DiskAt w b c D) (hd : D.down = false) (hm : D.armed = false) (v : Value) (l : List PutD) (hl : ∀ w', Fr (Two b c) w w' → PutsAt w' v l)
    (hlen : D.cache.length + l.length ≤ 1073741824) (ha : D.acts + l.length ≤ 4611686018427387904) :
    Calls Try.prog 22 #[.pointer (some ⟨b, 0, none⟩), v] w fun e w' => e = .returned (.bool true) ∧ (∃ c', DiskAt w' b c' { D with cache := D.cache ++ l.map PutD.pend, acts := D.acts + l.length } ∧ (c' = c ∨ w.heap.size ≤ c')) ∧ Fr (Two b c) w w' := by
  obtain ⟨a, cap, rfl, hcap, _⟩ := (hl w (Fr.refl _ _)).len
  obtain ⟨n, hn⟩ : ∃ n, Hid (l.length = n) := ⟨_, Lib.hid rfl⟩
  rw [hn.out] at hlen ha hcap
  rw [hn.out]
  have H := Lib.hid h
  have HL := Lib.hid hl
  have HU := Lib.hid (And.intro hd hm)
  clear h hl hd hm
  go_enter Try.func22, Try.ntmps22
  go_wp2
  go_loopg [5] n (fun m i wr => ∃ j : Nat, j ≤ n ∧ m + j = n ∧ i = .int .i64 j ∧
    Hid ((∃ c', DiskAt wr b c' { D with cache := D.cache ++ (l.take j).map PutD.pend, acts := D.acts + j } ∧ (c' = c ∨ w.heap.size ≤ c')) ∧ Fr (Two b c) w wr))
  case atStart => exact ⟨0, by omega, by omega, rfl, Lib.hid ⟨⟨c, by simpa using H.out, .inl rfl⟩, Fr.refl _ _⟩⟩
  case round =>
    obtain ⟨j, hj, hm, rfl, HR⟩ := hrel
    by_cases hlt : j < n
    · obtain ⟨⟨c1, hd1, hc1⟩, hf1⟩ := HR.out
      have hjl : j < l.length := by have := hn.out; omega
      obtain ⟨p, hp⟩ : ∃ p, l[j]? = some p := ⟨_, List.getElem?_eq_getElem hjl⟩
      obtain ⟨g, o, cap', e, hcap', k0, k1⟩ := (HL.out wr hf1).get hp
      simp only [Value.slice.injEq] at e
      obtain ⟨rfl, _, rfl⟩ := e
      obtain ⟨sec, x⟩ := p
      simp only at k0 k1
      have HPG : Hid (∀ w', Fr (Two b c) w w' → w'.cell? ⟨g, o + j * 2, none⟩ = some (.int .i64 sec) ∧ w'.cell? ⟨g, o + j * 2 + 1, none⟩ = some (.int .u8 (x.toNat : Int))) := Lib.hid fun w' hf => by
        obtain ⟨g', o', cap'', e, _, q0, q1⟩ := (HL.out w' hf).get hp
        simp only [Value.slice.injEq, Option.some.injEq, Addr.mk.injEq] at e
        obtain ⟨⟨rfl, rfl, _⟩, _, rfl⟩ := e
        exact ⟨q0, q1⟩
      have hblt := hd1.lt.1
      have hclt := hd1.lt.2
      have hglt : g < wr.heap.size := World.block_lt_of_cell? wr _ k0
      have hi0 : (0 : Int) ≤ (j : Int) := Int.natCast_nonneg _
      have hi1 : (j : Int) < (n : Int) := by omega
      have htake : l.take (j + 1) = l.take j ++ [⟨sec, x⟩] := by rw [List.take_add_one, hp]; rfl
      have HT := Lib.hid htake
      have HD1 := Lib.hid hd1
      have HF1 := Lib.hid (And.intro hc1 hf1)
      have HFW : Hid (∀ w1 w2, Fr No wr.drew w1 → Fr (Two b c1) w1 w2 → Fr (Two b c) w w2) := Lib.hid fun w1 w2 hff hf2 => by
        have h2 := hff.size
        simp at h2
        refine (hf1.drew.then hff fun i _ h => h.elim).then hf2 fun i hi h => ?_
        rcases h with h | h
        · exact .inl h
        · subst h
          rcases hc1 with h | h
          · exact .inr h
          · omega
      have hw := Lib.hid (write_up (D := { D with cache := D.cache ++ (l.take j).map PutD.pend, acts := D.acts + j }) HU.out.1 HU.out.2 (pl sec) (List.replicate 128 x))
      clear hd1 hc1 hf1 htake hp hcap'
      go_wp2_with fail
      go_region_held3 (fun w' => w'.cell? ⟨g, o + j * 2, none⟩ = some (.int .i64 sec) ∧ w'.cell? ⟨g, o + j * 2 + 1, none⟩ = some (.int .u8 (x.toNat : Int)))
        (first | go_keep | exact HPG.out _ (HFW.out _ _ hff hf2) | exact HPG.out _ (HFW.out _ _ hff (Fr.refl _ _)))
        (first
          | (go_at_call 17; refine (place_any _ _).mono ?_; rintro e w' ⟨rfl, rfl⟩)
          | (go_at_call 18; refine (full_any _ x).mono ?_; rintro e w1 ⟨gf, capf, rfl, hown, hff⟩)
          | (go_at_call 16; refine (Write_own (HD1.out.keep ((Fr.refl No wr).drew.trans hff) id id) (pl sec) (pl_lt _) hown (by have := (own_base hown).1; simp at this; omega) (by simp only; omega) (by have := hn.out; simp; omega) _ _ hw.out).mono ?_; rintro e w2 ⟨rfl, ⟨c2, hd2, hc2⟩, hf2⟩))
      all_goals
        have HH := Lib.hid (And.intro hd2 (And.intro hc2 (And.intro hf2 hff)))
        clear hd2 hc2 hf2 hff hown
        go_wp2
        go_roundg (n - (j + 1))
        case rel =>
          obtain ⟨hd2, hc2, hf2, hff⟩ := HH.out
          obtain ⟨hc1, hf1⟩ := HF1.out
          refine ⟨j + 1, by omega, by omega, by go_num, Lib.hid ⟨⟨c2, ?_, ?_⟩, ?_⟩⟩
          · rw [HT.out, List.map_append, ← List.append_assoc]
            rw [show D.acts + ((j + 1 : Nat) : Int) = D.acts + j + 1 by omega]
            exact hd2
          · have h1 := hf1.size
            have h2 := hff.size
            simp at h2
            omega
          · exact HFW.out _ _ hff hf2
        case measure => omega
    · go_wp2
      go_ret
      obtain ⟨⟨c1, hd1, hc1⟩, hf1⟩ := HR.out
      obtain rfl : n = j := by omega
      rw [List.take_of_length_le (by have := hn.out; omega)] at hd1
      exact ⟨rfl, ⟨c1, hd1, hc1⟩, hf1⟩
end
end Go.Proofs.Ytppllhdocajfiaa
