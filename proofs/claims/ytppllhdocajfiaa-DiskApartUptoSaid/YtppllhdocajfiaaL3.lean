/- begun: a disk behind a script's calls. -/
import Derived.Test.YtppllhdocajfiaaL2
set_option linter.unusedSimpArgs false
set_option linter.unusedVariables false
namespace Go.Proofs.Ytppllhdocajfiaa
open Go.RowKit

/-- One call of a script. -/
structure OpD where
  kind : Int
  two : Bool
  sector : Int
  place : Int
  dv : Value
  data : List UInt8
  fill : Bool
  kv : Value
  keep : List Bool
def opcells (o : OpD) : List Value := [.int .i64 o.kind, .bool o.two, .int .i64 o.sector, .int .i64 o.place, o.dv, .bool o.fill, o.kv]
structure OpOk (w : World) (o : OpD) : Prop where
  data : LAt w o.dv (o.data.map bv)
  keep : LAt w o.kv (o.keep.map Value.bool)
  dlen : o.data.length ≤ 2097152
  klen : o.keep.length ≤ 2097152
  place : -9223372036854775808 ≤ o.place ∧ o.place ≤ 9223372036854775807
def OpsAt (w : World) (v : Value) (l : List OpD) : Prop := RAt w v l.length (l.flatMap opcells) ∧ ∀ o ∈ l, OpOk w o

theorem OpsAt.get {w : World} {v : Value} {l : List OpD} (h : OpsAt w v l) {i : Nat} {p : OpD} (hp : l[i]? = some p) : ∃ g o cap, v = .slice (some ⟨g, o, none⟩) l.length cap ∧ l.length ≤ cap ∧ SegAt w g (o + i * 7) (opcells p) := by
  obtain ⟨a, cap, rfl, hc, hs⟩ := h.1.len
  have hi := (List.getElem?_eq_some_iff.1 hp).1
  obtain ⟨g, o, rfl, hseg⟩ := hs (by omega)
  refine ⟨g, o, cap, rfl, hc, fun j u hu => ?_⟩
  have hj : j < 7 := by have := (List.getElem?_eq_some_iff.1 hu).1; simpa [opcells] using this
  have := hseg (i * 7 + j) u ((flat_get opcells 7 l (fun _ _ => rfl) i j p hp hj).trans hu)
  rwa [← Nat.add_assoc] at this

/-- What a Write is handed. -/
def OpD.handed (o : OpD) : List UInt8 := if o.fill then fillB o.data else o.data

theorem handed_raw (w : World) (k s p : Int) (t : Bool) (dv : Value) (data : List UInt8) (fill : Bool) (kv : Value) (hd0 : LAt w dv (data.map bv)) (hl : data.length ≤ 2097152) :
    Calls Try.prog 65 #[.agg #[.int .i64 k, .bool t, .int .i64 s, .int .i64 p, dv, .bool fill, kv]] w fun e w' => ∃ v', e = .returned v' ∧
      w'.ownsRow w.heap.size 5 1 v' (if fill then fillB data else data).length ((if fill then fillB data else data).map bv) ∧ Fr No w w' := by
  have hd : LAt (w.alloc (.cells #[.int .i64 k, .bool t, .int .i64 s, .int .i64 p, dv, .bool fill, kv] 86)) dv (data.map bv) := hd0.no ((Fr.refl _ w).alloc _)
  obtain ⟨a, cap, rfl, _⟩ := hd0.len
  rw [List.length_map] at hd
  rw [List.length_map]
  cases fill
  · have HC := Lib.hid (copied_any _ _ _ hd (bvs_one _) (by simp; omega))
    clear hd0 hd
    go_enter Try.func65, Try.ntmps65
    go_wp2_with (go_at_call 28; refine HC.out.mono ?_; rintro e w1 ⟨v1, rfl, hown, hf⟩)
    go_ret
    rw [World.size_alloc, List.length_map] at hown
    exact ⟨v1, rfl, own_mono hown (by omega), ((Fr.refl _ w).alloc _).trans hf⟩
  · have HC := Lib.hid (filled_any _ _ _ hd (by omega))
    clear hd0 hd
    go_enter Try.func65, Try.ntmps65
    go_wp2_with (go_at_call 54; refine HC.out.mono ?_; rintro e w1 ⟨g, cap1, rfl, hown, hf⟩)
    go_ret
    rw [World.size_alloc] at hown
    exact ⟨_, rfl, by rw [fillB_length]; exact own_mono hown (by omega), ((Fr.refl _ w).alloc _).trans hf⟩

theorem handed_any (w : World) (o : OpD) (h : OpOk w o) :
    Calls Try.prog 65 #[.agg #[.int .i64 o.kind, .bool o.two, .int .i64 o.sector, .int .i64 o.place, o.dv, .bool o.fill, o.kv]] w fun e w' => ∃ v', e = .returned v' ∧ w'.ownsRow w.heap.size 5 1 v' o.handed.length (o.handed.map bv) ∧ Fr No w w' :=
  handed_raw w o.kind o.sector o.place o.two o.dv o.data o.fill o.kv h.data h.dlen

/-- What a call may do to a disk, roughly. -/
def Rough (w : World) (b c : Nat) (D : Dk) (w' : World) : Prop :=
  ∃ c' D', DiskAt w' b c' D' ∧ D'.cache.length ≤ D.cache.length + 1 ∧ D'.acts ≤ D.acts + 1 ∧ (c' = c ∨ c' = b ∨ w.heap.size ≤ c') ∧ Fr (Two b c) w w'

section
variable {w : World} {b c : Nat} {D : Dk}
theorem act_acts (D : Dk) : D.act.1.acts ≤ D.acts + 1 := by
  unfold Dk.act
  split
  · simp only; omega
  · split
    · split <;> simp only <;> omega
    · simp only; omega
theorem Write_rough (h : DiskAt w b c D) (n : Int) (v : Value) (X : List UInt8) {base : Nat} (hown : w.ownsRow base 5 1 v X.length (X.map bv)) (hb : b < base) (ha : D.acts ≤ 4611686018427387904) (hlen : D.cache.length ≤ 1073741824) :
    Calls Try.prog 16 #[.pointer (some ⟨b, 0, none⟩), .int .i64 n, v] w fun e w' => ∃ r, e = .returned (.int .i64 r) ∧ Rough w b c D w' := by
  by_cases hn : 0 ≤ n ∧ n < 1024
  · by_cases hX : X.length = 128
    · obtain ⟨a, cap, rfl, hh⟩ := own_slice hown
      obtain ⟨g, rfl, hcap, hg, _⟩ := hh (by omega)
      rw [hX] at hown ⊢
      obtain ⟨D', r, hr⟩ : ∃ D' r, D.write (pl n) X = (D', r) := ⟨_, _, rfl⟩
      have := Write_own h (pl n) (pl_lt n) hown (by omega) ha hlen D' r hr
      rw [pl_of hn] at this
      refine this.mono fun e w' ⟨he, ⟨c', hd, hc⟩, hf⟩ => ⟨r, he, c', D', hd, ?_, ?_, by omega, hf⟩
      · have h1 := (act_cache D).1
        unfold Dk.write at hr
        split at hr <;> cases hr
        · simp
        · rw [h1]; omega
      · have h1 := act_acts D
        unfold Dk.write at hr
        split at hr <;> cases hr <;> exact h1
    · obtain ⟨a, cap, rfl, hh⟩ := own_slice hown
      exact (Write_size n hn a X.length cap hX).mono fun e w' ⟨he, hw⟩ => ⟨41, he, by subst hw; exact ⟨c, D, h, by omega, by omega, .inl rfl, Fr.refl _ _⟩⟩
  · exact (Write_sector n hn v).mono fun e w' ⟨he, hw⟩ => ⟨40, he, by subst hw; exact ⟨c, D, h, by omega, by omega, .inl rfl, Fr.refl _ _⟩⟩
theorem Flush_rough (h : DiskAt w b c D) (ha : D.acts ≤ 4611686018427387904) (hlen : D.cache.length ≤ 1073741824) :
    Calls Try.prog 15 #[.pointer (some ⟨b, 0, none⟩)] w fun e w' => ∃ r, e = .returned (.int .i64 r) ∧ Rough w b c D w' := by
  obtain ⟨D', r, hr⟩ : ∃ D' r, D.flush = (D', r) := ⟨_, _, rfl⟩
  refine (Flush_any h ha (by omega) D' r hr).mono fun e w' ⟨he, ⟨c', hd, hc⟩, hf⟩ => ⟨r, he, c', D', hd, ?_, ?_, by omega, hf.one_two⟩
  · have h1 := (act_cache D).1
    unfold Dk.flush at hr
    split at hr <;> cases hr
    · simp [Dk.drain]
    · rw [h1]; omega
  · have h1 := act_acts D
    unfold Dk.flush at hr
    split at hr <;> cases hr <;> exact h1
theorem Arm_rough (h : DiskAt w b c D) (n : Int) (hn : n ≤ 9223372036854775807) :
    Calls Try.prog 13 #[.pointer (some ⟨b, 0, none⟩), .int .i64 n] w fun e w' => ∃ r, e = .returned (.int .i64 r) ∧ Rough w b c D w' := by
  obtain ⟨D', r, hr⟩ : ∃ D' r, D.arm n = (D', r) := ⟨_, _, rfl⟩
  refine (Arm_any h n hn D' r hr).mono fun e w' ⟨he, hd, hf⟩ => ⟨r, he, c, D', hd, ?_, ?_, .inl rfl, hf.one_two⟩
  all_goals
    unfold Dk.arm at hr
    split at hr
    · cases hr; omega
    · split at hr <;> cases hr <;> first | omega | (simp only; omega)
theorem Crash_rough (h : DiskAt w b c D) (hlen : D.cache.length ≤ 1073741824) (v : Value) (K : List Bool) (hvK : ∀ w', Fr (One b) w w' → BoolsAt w' v K) :
    Calls Try.prog 21 #[.pointer (some ⟨b, 0, none⟩), v] w fun e w' => ∃ r, e = .returned (.int .i64 r) ∧ Rough w b c D w' := by
  refine (Crash_any h (by omega) v K hvK).mono fun e w' ⟨he, hd, hf⟩ => ⟨_, he, b, _, hd, ?_, ?_, .inr (.inl rfl), hf.one_two⟩
  · simp [Dk.crash, Dk.drain]
  · simp only [Dk.crash, Dk.drain]; omega
theorem Edit_rough (h : DiskAt w b c D) (n m : Int) (v : Value) (X : List UInt8) (hL : LAt w v (X.map bv)) (hX : X.length ≤ 2097152) :
    Calls Try.prog 29 #[.pointer (some ⟨b, 0, none⟩), .int .i64 n, .int .i64 m, v] w fun e w' => ∃ r, e = .returned (.int .i64 r) ∧ Rough w b c D w' := by
  by_cases hn : 0 ≤ n ∧ n < 1024
  · obtain ⟨a, cap, rfl, hc⟩ := hL.len
    rw [List.length_map] at hL ⊢
    by_cases hm : m < 0 ∨ 128 < m + X.length
    · exact (Edit_arg n m hn a X.length cap (by omega) hm).mono fun e w' ⟨he, hw⟩ => ⟨1, he, by subst hw; exact ⟨c, D, h, by omega, by omega, .inl rfl, Fr.refl _ _⟩⟩
    · have hm2 : (m.toNat : Int) = m := by omega
      have hs : SegOf w a (X.map bv) := fun h0 => by
        rcases hL with ⟨e, h⟩ | ⟨a', cap', e, _, hs⟩
        · rw [h] at h0; simp at h0
        · obtain ⟨g, o, rfl, hseg⟩ := hs h0
          simp only [Value.slice.injEq] at e
          exact ⟨g, o, e.1, hseg⟩
      have := Edit_go h (pl n) (pl_lt n) m.toNat a cap X (by omega) hs
      rw [pl_of hn, hm2] at this
      exact this.mono fun e w' ⟨he, hd, hf⟩ => ⟨0, he, c, _, hd, by simp only [Dk.edit]; omega, by simp only [Dk.edit]; omega, .inl rfl, hf.one_two⟩
  · exact (Edit_sector n m hn v).mono fun e w' ⟨he, hw⟩ => ⟨40, he, by subst hw; exact ⟨c, D, h, by omega, by omega, .inl rfl, Fr.refl _ _⟩⟩
end
end Go.Proofs.Ytppllhdocajfiaa
