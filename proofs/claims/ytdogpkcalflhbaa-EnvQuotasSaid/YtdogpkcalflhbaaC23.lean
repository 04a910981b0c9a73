/- Plain: what a step makes of the table; the book goes with it. -/
import Derived.Test.YtdogpkcalflhbaaC22
set_option linter.unusedSimpArgs false
set_option linter.unusedVariables false
namespace Go.Proofs.Ytdogpkcalflhbaa

/-- A step, in plain Lean. -/
def StepR (T : Tb) (o : OpE) (T' : Tb) : Prop :=
  (o.kind = 2 ∧ T' = (T.create o.e o.n o.q).1) ∨
  (o.kind = 3 ∧ ((T' = T ∧ (T.at o.e = none ∨ o.e = 0)) ∨ ∃ (n p : Nat) (r rp : Rec) (t : List Nat), o.e = n ∧ n ≠ 0 ∧ T.live n = some r ∧ r.parent = (p : Int) ∧ T.live p = some rp ∧ Forest T [n] t ∧ T' = T.gone p n rp r t)) ∨
  (o.kind = 11 ∧ T' = (T.pay o.e o.q).1) ∨ (o.kind = 12 ∧ T' = (T.refund o.e o.q).1) ∨ (o.kind = 5 ∧ T' = (T.setRegs o.e o.r).1) ∨ (o.kind = 6 ∧ T' = (T.setState o.e o.n o.m).1) ∨ (o.kind = 7 ∧ T' = (T.setBits o.e o.n).1) ∨
  (o.kind = 8 ∧ T' = (T.notify o.e o.n).1) ∨ (o.kind = 9 ∧ T' = (T.wait o.e).1) ∨ (o.kind = 10 ∧ T' = (T.freeze o.e o.on).1) ∨
  (o.kind ≠ 2 ∧ o.kind ≠ 3 ∧ o.kind ≠ 5 ∧ o.kind ≠ 6 ∧ o.kind ≠ 7 ∧ o.kind ≠ 8 ∧ o.kind ≠ 9 ∧ o.kind ≠ 10 ∧ o.kind ≠ 11 ∧ o.kind ≠ 12 ∧ T' = T)

structure Keeps (T T' : Tb) : Prop where
  inv : Inv T'
  book : ∀ w2 bb, BookOf w2 bb T → BookOf w2 bb T'
section
variable {T : Tb}
theorem Keeps.refl (hI : Inv T) : Keeps T T := ⟨hI, fun _ _ h => h⟩
theorem at_live {e : Int} {r : Rec} (hr : T.at e = some r) : T.live e.toNat = some r := by
  unfold Tb.at at hr
  by_cases h : 0 ≤ e
  · rw [if_pos h] at hr; exact hr
  · rw [if_neg h] at hr; cases hr
theorem keeps_set (hI : Inv T) {e : Int} {r r' : Rec} (hr : T.at e = some r) (e1 : r'.serial = r.serial) (e2 : r'.parent = r.parent) (e3 : r'.whole = r.whole) (e4 : r'.carved = r.carved) (e5 : r'.kids = r.kids) (e6 : r'.paid = r.paid) (hb : word r'.bits = true) : Keeps T (T.set e.toNat r') := by
  obtain ⟨h1, h2⟩ := keeps_on hI (at_live hr) e1 e2 e3 e4 e5 e6 hb
  exact ⟨h1, h2⟩
theorem keeps_setState (hI : Inv T) (e s c : Int) : Keeps T (T.setState e s c).1 := by
  unfold Tb.setState
  cases hr : T.at e with
  | none => exact .refl hI
  | some r =>
    simp only
    split
    · exact .refl hI
    · exact keeps_set hI hr rfl rfl rfl rfl rfl rfl (hI.ok _ _ (at_live hr)).bits
theorem keeps_setRegs (hI : Inv T) (e : Int) (g : Rg) : Keeps T (T.setRegs e g).1 := by
  unfold Tb.setRegs
  cases hr : T.at e with
  | none => exact .refl hI
  | some r => exact keeps_set hI hr rfl rfl rfl rfl rfl rfl (hI.ok _ _ (at_live hr)).bits
theorem keeps_setBits (hI : Inv T) (e c : Int) : Keeps T (T.setBits e c).1 := by
  unfold Tb.setBits
  cases hr : T.at e with
  | none => exact .refl hI
  | some r =>
    simp only
    split
    · exact .refl hI
    · rename_i h
      exact keeps_set hI hr rfl rfl rfl rfl rfl rfl (by simpa using h)
theorem keeps_freeze (hI : Inv T) (e : Int) (on : Bool) : Keeps T (T.freeze e on).1 := by
  unfold Tb.freeze
  cases hr : T.at e with
  | none => exact .refl hI
  | some r => exact keeps_set hI hr rfl rfl rfl rfl rfl rfl (hI.ok _ _ (at_live hr)).bits
theorem keeps_wait (hI : Inv T) (e : Int) : Keeps T (T.wait e).1 := by
  unfold Tb.wait
  cases hr : T.at e with
  | none => exact .refl hI
  | some r =>
    simp only
    split
    · exact keeps_set hI hr rfl rfl rfl rfl rfl rfl rfl
    · exact keeps_set hI hr rfl rfl rfl rfl rfl rfl rfl
theorem keeps_notify (hI : Inv T) (e c : Int) : Keeps T (T.notify e c).1 := by
  unfold Tb.notify
  cases hr : T.at e with
  | none => exact .refl hI
  | some r =>
    simp only
    split
    · exact .refl hI
    · rename_i h
      have hc : word c = true := by simpa using h
      unfold Rec.noticed
      split
      · exact keeps_set hI hr rfl rfl rfl rfl rfl rfl rfl
      · exact keeps_set hI hr rfl rfl rfl rfl rfl rfl (orW_nat (hI.ok _ _ (at_live hr)).bits hc).2
theorem pay_bad (hI : Inv T) (e : Int) (q : Qt) (h : (T.pay e q).2 ≠ 0) : Keeps T (T.pay e q).1 := by
  unfold Tb.pay at h ⊢
  cases hr : T.at e with
  | none => exact .refl hI
  | some r =>
    rw [hr] at h
    unfold Rec.pay at h ⊢
    have hs : T.set e.toNat r = T := by
      unfold Tb.set; congr 1; funext m
      by_cases e1 : m = e.toNat
      · rw [if_pos e1, e1, at_live hr]
      · rw [if_neg e1]
    simp only at h ⊢
    split at h
    · rename_i h1; rw [if_pos h1]; simp only; rw [hs]; exact .refl hI
    · rename_i h1; rw [if_neg h1]
      split at h
      · rename_i h2; rw [if_pos h2]; simp only; rw [hs]; exact .refl hI
      · simp at h
theorem pay_good (hI : Inv T) (e : Int) (q : Qt) (h : (T.pay e q).2 = 0) : ∃ (n : Nat) (r : Rec), e = n ∧ T.live n = some r ∧ (T.pay e q).1 = T.set n { r with paid := r.paid.plus q } ∧ Inv (T.set n { r with paid := r.paid.plus q }) ∧ Qok q ∧ Qok (r.paid.plus q) := by
  unfold Tb.pay at h ⊢
  cases hr : T.at e with
  | none => rw [hr] at h; simp at h
  | some r =>
    rw [hr] at h
    have h0 : 0 ≤ e := by
      unfold Tb.at at hr
      by_cases h : 0 ≤ e
      · exact h
      · rw [if_neg h] at hr; cases hr
    obtain ⟨n, rfl⟩ : ∃ n : Nat, e = n := ⟨e.toNat, by omega⟩
    have hn : T.live n = some r := at_live hr
    unfold Rec.pay at h ⊢
    simp only [Int.toNat_natCast] at h ⊢
    split at h
    · simp at h
    · rename_i h1
      split at h
      · simp at h
      · rename_i h2
        rw [if_neg h1, if_neg h2]
        have hg : Qok q := goodB_iff.1 (by simpa using h1)
        have hf : q.f ≤ r.left.f ∧ q.e ≤ r.left.e ∧ q.x ≤ r.left.x := by unfold fitB at h2; simpa using h2
        have hl := hI.left n r hn
        have hok := hI.ok n r hn
        have h3 := hok.paid
        have h4 := hok.carved
        have h5 := hok.whole
        unfold Rec.left Qt.minus at hf
        unfold Qle Qt.plus at hl
        have hg' := hg
        unfold Qok at hg' h3 h4 h5
        simp only at hf hl
        have hp : Qok (r.paid.plus q) := by unfold Qok Qt.plus; simp only; omega
        exact ⟨n, r, rfl, hn, rfl, hI.upd hn rfl rfl rfl rfl rfl ⟨hok.bits, hok.whole, hp, hok.carved⟩ (by unfold Qle Qt.plus; simp only; omega), hg, hp⟩
theorem refund_bad (hI : Inv T) (e : Int) (q : Qt) (h : (T.refund e q).2 ≠ 0) : Keeps T (T.refund e q).1 := by
  unfold Tb.refund at h ⊢
  cases hr : T.at e with
  | none => exact .refl hI
  | some r =>
    rw [hr] at h
    unfold Rec.refund at h ⊢
    have hs : T.set e.toNat r = T := by
      unfold Tb.set; congr 1; funext m
      by_cases e1 : m = e.toNat
      · rw [if_pos e1, e1, at_live hr]
      · rw [if_neg e1]
    simp only at h ⊢
    split at h
    · rename_i h1; rw [if_pos h1]; simp only; rw [hs]; exact .refl hI
    · simp at h
theorem refund_good (hI : Inv T) (e : Int) (q : Qt) (h : (T.refund e q).2 = 0) : ∃ (n : Nat) (r : Rec), e = n ∧ T.live n = some r ∧ (T.refund e q).1 = T.set n { r with paid := r.paid.minus q } ∧ Inv (T.set n { r with paid := r.paid.minus q }) ∧ Qok q ∧ Qok (r.paid.minus q) := by
  unfold Tb.refund at h ⊢
  cases hr : T.at e with
  | none => rw [hr] at h; simp at h
  | some r =>
    rw [hr] at h
    have h0 : 0 ≤ e := by
      unfold Tb.at at hr
      by_cases h : 0 ≤ e
      · exact h
      · rw [if_neg h] at hr; cases hr
    obtain ⟨n, rfl⟩ : ∃ n : Nat, e = n := ⟨e.toNat, by omega⟩
    have hn : T.live n = some r := at_live hr
    unfold Rec.refund at h ⊢
    simp only [Int.toNat_natCast] at h ⊢
    split at h
    · simp at h
    · rename_i h1
      rw [if_neg h1]
      have h1a : goodB q = true := by
        cases e1 : goodB q with
        | true => rfl
        | false => exact absurd (.inl e1) h1
      have h1b : fitB q r.paid = true := by
        cases e1 : fitB q r.paid with
        | true => rfl
        | false => exact absurd (.inr e1) h1
      have hg : Qok q := goodB_iff.1 h1a
      have hf : q.f ≤ r.paid.f ∧ q.e ≤ r.paid.e ∧ q.x ≤ r.paid.x := by unfold fitB at h1b; simpa using h1b
      have hl := hI.left n r hn
      have hok := hI.ok n r hn
      have h3 := hok.paid
      unfold Qle Qt.plus at hl
      have hg' := hg
      unfold Qok at hg' h3
      simp only at hf hl
      have hp : Qok (r.paid.minus q) := by unfold Qok Qt.minus; simp only; omega
      exact ⟨n, r, rfl, hn, rfl, hI.upd hn rfl rfl rfl rfl rfl ⟨hok.bits, hok.whole, hp, hok.carved⟩ (by unfold Qle Qt.plus Qt.minus; simp only; omega), hg, hp⟩
theorem create_cases (hI : Inv T) (p s : Int) (q : Qt) : ((T.create p s q).2.2 ≠ 0 ∧ (T.create p s q).2.1 = -1 ∧ Keeps T (T.create p s q).1 ∧ (∀ n, (T.create p s q).1.live n = T.live n)) ∨
    ∃ (n nn : Nat) (r : Rec), p = n ∧ T.live n = some r ∧ T.firstFree = some nn ∧ T.last < s ∧ goodB q = true ∧ T.create p s q = (T.born n nn s q r, (nn : Int), 0) ∧ Inv (T.born n nn s q r) := by
  unfold Tb.create
  cases hr : T.at p with
  | none => exact .inl ⟨by simp, rfl, .refl hI, fun _ => rfl⟩
  | some r =>
    have h0 : 0 ≤ p := by
      unfold Tb.at at hr
      by_cases h : 0 ≤ p
      · exact h
      · rw [if_neg h] at hr; cases hr
    obtain ⟨n, rfl⟩ : ∃ n : Nat, p = n := ⟨p.toNat, by omega⟩
    have hn : T.live n = some r := at_live hr
    simp only [Int.toNat_natCast]
    by_cases h1 : goodB q = false ∨ s ≤ T.last ∨ 4611686018427387903 < s
    · rw [if_pos h1]; exact .inl ⟨by simp, rfl, .refl hI, fun _ => rfl⟩
    · rw [if_neg h1]
      by_cases h2 : fitB q.child r.left = false
      · rw [if_pos h2]; exact .inl ⟨by simp, rfl, .refl hI, fun _ => rfl⟩
      · rw [if_neg h2]
        cases hff : T.firstFree with
        | none =>
          refine .inl ⟨by simp, rfl, ⟨⟨hI.lt, fun m hm => ?_, Nat.le_refl _, hI.root, hI.par, hI.kid, hI.nodup, hI.ser, hI.last, hI.ok, hI.left, fun m s hs => (hI.carved m s hs).trans (carvedOf_congr (T := T) (T' := { T with low := 16 }) s.kids fun c _ => rfl).symm⟩, fun w2 bb h => h.same rfl fun m => ⟨fun s hs => ⟨s, hs, rfl⟩, rfl⟩⟩, fun _ => rfl⟩
          by_cases e : m < T.low
          · exact hI.low m e
          · exact firstFree_none hff m (by omega) hm
        | some nn =>
          have hg : goodB q = true := by
            cases e : goodB q with
            | true => rfl
            | false => exact absurd (.inl e) h1
          have hs1 : T.last < s := by
            by_cases e : s ≤ T.last
            · exact absurd (.inr (.inl e)) h1
            · omega
          have hs2 : s ≤ 4611686018427387903 := by
            by_cases e : 4611686018427387903 < s
            · exact absurd (.inr (.inr e)) h1
            · omega
          exact .inr ⟨n, nn, r, rfl, hn, rfl, hs1, hg, rfl, hI.born hn hff hs1 hs2 hg (by simpa using h2)⟩
theorem ends_of (hI : Inv T) {n : Nat} {r : Rec} (hn : T.live n = some r) (h0 : n ≠ 0) : ∃ (p : Nat) (rp : Rec) (t : List Nat), Ends T n p r rp t ∧ Inv (T.gone p n rp r t) := by
  rcases hI.par n r hn with ⟨h1, _⟩ | ⟨_, p, rp, h2, h3, h4, h5⟩
  · exact absurd h1 h0
  · obtain ⟨t, ht⟩ := hI.tree hn
    have hok := hI.ok n r hn
    have hokp := hI.ok p rp h3
    have hw := hok.whole
    have hc := hokp.carved
    unfold Qok at hw hc
    have hcp := gone_part hI hn h3 h4
    have hnn := carvedOf_nn hI (rp.kids.filter fun c => c != n)
    rw [← hcp] at hnn
    refine ⟨p, rp, t, ⟨hn, h0, h2, h3, fun e => ?_, ht, hI.tree_nodup ht, hI.tree16 ht, fun hpl => ?_, hok, ?_, ?_, hI.kids16 h3⟩, hI.gone hn h0 h2 h3 ht⟩
    · subst e
      rw [hn] at h3
      obtain rfl : r = rp := by simpa using h3
      omega
    · obtain ⟨x, hx, ha⟩ := ht.anc hI p hpl
      obtain rfl : x = n := by simpa using hx
      have h6 := ha.ser hI h3 hn
      omega
    · unfold Qnn Qt.minus Qt.child at hnn
      unfold Qt.minus Qt.child Qt.in64 in64
      simp only at hnn ⊢
      omega
    · unfold in64; omega
end
end Go.Proofs.Ytdogpkcalflhbaa
