/- Plain: the tree of environments. No program in sight. -/
import Derived.Test.YtdogpkcalflhbaaC10
set_option linter.unusedSimpArgs false
set_option linter.unusedVariables false
namespace Go.Proofs.Ytdogpkcalflhbaa

/-- The walks of some environments, one behind the other. -/
inductive Forest (T : Tb) : List Nat → List Nat → Prop
  | nil : Forest T [] []
  | cons {e : Nat} {r : Rec} {es a c : List Nat} : T.live e = some r → Forest T r.kids a → Forest T es c → Forest T (e :: es) (e :: (a ++ c))

def wholeOf (T : Tb) (c : Nat) : Qt := match T.live c with
  | some r => r.whole.child
  | none => Qt.zero
/-- What children carve. -/
def carvedOf (T : Tb) : List Nat → Qt
  | [] => Qt.zero
  | c :: cs => (wholeOf T c).plus (carvedOf T cs)
def Qle (a b : Qt) : Prop := a.f ≤ b.f ∧ a.e ≤ b.e ∧ a.x ≤ b.x
def Qnn (a : Qt) : Prop := 0 ≤ a.f ∧ 0 ≤ a.e ∧ 0 ≤ a.x

theorem carvedOf_congr {T T' : Tb} : ∀ (l : List Nat), (∀ c ∈ l, wholeOf T' c = wholeOf T c) → carvedOf T' l = carvedOf T l
  | [], _ => rfl
  | c :: l, h => by
    simp only [carvedOf]
    rw [h c (by simp), carvedOf_congr l fun c hc => h c (by simp [hc])]
theorem carvedOf_append (T : Tb) : ∀ (l m : List Nat), carvedOf T (l ++ m) = (carvedOf T l).plus (carvedOf T m)
  | [], m => by simp only [List.nil_append, carvedOf, Qt.plus, Qt.zero]; ext <;> simp
  | c :: l, m => by
    simp only [List.cons_append, carvedOf]
    rw [carvedOf_append T l m]
    simp only [Qt.plus]
    ext <;> simp <;> omega
theorem carvedOf_split {T : Tb} {e : Nat} : ∀ (l : List Nat), l.Nodup → e ∈ l → carvedOf T l = (wholeOf T e).plus (carvedOf T (l.filter fun c => c != e))
  | [], _, h => by cases h
  | c :: l, hn, h => by
    obtain ⟨h1, h2⟩ := List.nodup_cons.1 hn
    by_cases hc : c = e
    · subst hc
      have : l.filter (fun x => x != c) = l := List.filter_eq_self.2 fun x hx => by
        have : x ≠ c := fun e => h1 (e ▸ hx)
        simpa using this
      simp only [carvedOf, List.filter_cons]
      simp [this]
    · have he : e ∈ l := by
        rcases List.mem_cons.1 h with h | h
        · exact absurd h.symm hc
        · exact h
      have hne : (c != e) = true := by simpa using hc
      simp only [carvedOf, List.filter_cons, hne, if_true]
      rw [carvedOf_split l h2 he]
      simp only [Qt.plus]
      ext <;> simp <;> omega
theorem nodup_len : ∀ (N : Nat) (l : List Nat), l.Nodup → (∀ x ∈ l, x < N) → l.length ≤ N
  | 0, l, _, h => by
    cases l with
    | nil => simp
    | cons a t => have := h a (by simp); omega
  | N + 1, l, hn, h => by
    by_cases hm : N ∈ l
    · have h1 := nodup_len N (l.erase N) (hn.erase N) fun x hx => by
        have h2 := (List.Nodup.mem_erase_iff hn).1 hx
        have h3 := h x h2.2
        have h4 := h2.1
        omega
      rw [List.length_erase_of_mem hm] at h1
      omega
    · have := nodup_len N l hn fun x hx => by
        have h3 := h x hx
        have : x ≠ N := fun e => hm (e ▸ hx)
        omega
      omega

/-- What holds behind every call. -/
structure Inv (T : Tb) : Prop where
  lt : ∀ n r, T.live n = some r → n < 16
  low : ∀ n, n < T.low → (T.live n).isSome = true
  low16 : T.low ≤ 16
  root : ∃ r, T.live 0 = some r
  par : ∀ n r, T.live n = some r → (n = 0 ∧ r.parent = -1) ∨ (n ≠ 0 ∧ ∃ (p : Nat) (rp : Rec), r.parent = p ∧ T.live p = some rp ∧ n ∈ rp.kids ∧ rp.serial < r.serial)
  kid : ∀ p rp c, T.live p = some rp → c ∈ rp.kids → ∃ rc, T.live c = some rc ∧ rc.parent = (p : Int)
  nodup : ∀ p rp, T.live p = some rp → rp.kids.Nodup
  ser : ∀ n r, T.live n = some r → r.serial ≤ T.last
  last : T.last ≤ 4611686018427387903
  ok : ∀ n r, T.live n = some r → Rok r
  left : ∀ n r, T.live n = some r → Qle (r.paid.plus r.carved) r.whole
  carved : ∀ n r, T.live n = some r → r.carved = carvedOf T r.kids

section
variable {T : Tb}
theorem Inv.kser (h : Inv T) {p c : Nat} {rp rc : Rec} (hp : T.live p = some rp) (hc : c ∈ rp.kids) (hrc : T.live c = some rc) : rc.parent = (p : Int) ∧ rp.serial < rc.serial ∧ c ≠ 0 := by
  obtain ⟨rc', h1, h2⟩ := h.kid p rp c hp hc
  rw [h1] at hrc
  obtain rfl : rc' = rc := by simpa using hrc
  refine ⟨h2, ?_⟩
  rcases h.par c rc' h1 with ⟨_, h3⟩ | ⟨h0, p', rp', h3, h4, _, h5⟩
  · omega
  · have : p' = p := by omega
    subst this
    rw [h4] at hp
    obtain rfl : rp' = rp := by simpa using hp
    exact ⟨h5, h0⟩
theorem Inv.kids16 (h : Inv T) {p : Nat} {rp : Rec} (hp : T.live p = some rp) : rp.kids.length ≤ 16 :=
  nodup_len 16 _ (h.nodup p rp hp) fun c hc => by
    obtain ⟨rc, h1, _⟩ := h.kid p rp c hp hc
    exact h.lt c rc h1
theorem Inv.left_nn (h : Inv T) {n : Nat} {r : Rec} (hn : T.live n = some r) : Qnn r.left := by
  have := h.left n r hn
  unfold Qle Qt.plus at this
  unfold Qnn Rec.left Qt.minus
  simp only at this ⊢
  omega
/-- Every list of living ones has its walks. -/
theorem Inv.forest (h : Inv T) : ∀ (N : Nat) (es : List Nat), (∀ e ∈ es, ∃ r, T.live e = some r ∧ (T.last - r.serial).toNat < N) → ∃ l, Forest T es l
  | 0, es, hes => by
    cases es with
    | nil => exact ⟨[], .nil⟩
    | cons e es => obtain ⟨r, _, hr⟩ := hes e (by simp); omega
  | N + 1, es, hes => by
    induction es with
    | nil => exact ⟨[], .nil⟩
    | cons e es ih =>
      obtain ⟨c, hc⟩ := ih fun e he => hes e (by simp [he])
      obtain ⟨r, hr, hs⟩ := hes e (by simp)
      obtain ⟨a, ha⟩ := Inv.forest h N r.kids fun c hc => by
        obtain ⟨rc, h1, _⟩ := h.kid e r c hr hc
        have h2 := h.kser hr hc h1
        have h3 := h.ser c rc h1
        exact ⟨rc, h1, by omega⟩
      exact ⟨_, .cons hr ha hc⟩
theorem Inv.tree (h : Inv T) {e : Nat} {r : Rec} (he : T.live e = some r) : ∃ l, Forest T [e] l :=
  h.forest ((T.last - r.serial).toNat + 1) [e] fun e' he' => by
    obtain rfl : e' = e := by simpa using he'
    exact ⟨r, he, by omega⟩

theorem Forest.live {es l : List Nat} (h : Forest T es l) : ∀ x ∈ l, ∃ r, T.live x = some r := by
  induction h with
  | nil => intro x hx; cases hx
  | cons h1 h2 h3 ih1 ih2 =>
    intro x hx
    rcases List.mem_cons.1 hx with rfl | hx
    · exact ⟨_, h1⟩
    · rcases List.mem_append.1 hx with hx | hx
      · exact ih1 x hx
      · exact ih2 x hx
theorem Forest.head {es l : List Nat} (h : Forest T es l) : ∀ e ∈ es, e ∈ l := by
  induction h with
  | nil => intro x hx; cases hx
  | cons h1 h2 h3 ih1 ih2 =>
    intro x hx
    rcases List.mem_cons.1 hx with rfl | hx
    · simp
    · simp [ih2 x hx]
theorem Forest.closed {es l : List Nat} (h : Forest T es l) : ∀ x ∈ l, ∀ r, T.live x = some r → ∀ c ∈ r.kids, c ∈ l := by
  induction h with
  | nil => intro x hx; cases hx
  | @cons e r0 es a b h1 h2 h3 ih1 ih2 =>
    intro x hx r hr c hc
    rcases List.mem_cons.1 hx with rfl | hx
    · rw [h1] at hr
      obtain rfl : r0 = r := by simpa using hr
      simp [h2.head c hc]
    · rcases List.mem_append.1 hx with hx | hx
      · simp [ih1 x hx r hr c hc]
      · simp [ih2 x hx r hr c hc]
theorem Forest.up {es l : List Nat} (h : Forest T es l) : ∀ x ∈ l, x ∈ es ∨ ∃ p ∈ l, ∃ rp, T.live p = some rp ∧ x ∈ rp.kids := by
  induction h with
  | nil => intro x hx; cases hx
  | @cons e r0 es a b h1 h2 h3 ih1 ih2 =>
    intro x hx
    rcases List.mem_cons.1 hx with rfl | hx
    · exact .inl (by simp)
    · rcases List.mem_append.1 hx with hx | hx
      · rcases ih1 x hx with h | ⟨p, hp, rp, h4, h5⟩
        · exact .inr ⟨e, by simp, r0, h1, h⟩
        · exact .inr ⟨p, by simp [hp], rp, h4, h5⟩
      · rcases ih2 x hx with h | ⟨p, hp, rp, h4, h5⟩
        · exact .inl (by simp [h])
        · exact .inr ⟨p, by simp [hp], rp, h4, h5⟩

/-- x is e or below it. -/
inductive Anc (T : Tb) : Nat → Nat → Prop
  | refl (x : Nat) : Anc T x x
  | step {x p e : Nat} {rx : Rec} : T.live x = some rx → rx.parent = (p : Int) → Anc T p e → Anc T x e
theorem Anc.up {x k e : Nat} (h : Anc T x k) {rk : Rec} (hk : T.live k = some rk) (hp : rk.parent = (e : Int)) : Anc T x e := by
  induction h with
  | refl x => exact .step hk hp (.refl e)
  | step h6 h7 h8 ih => exact .step h6 h7 (ih hk)
theorem Forest.anc (hI : Inv T) {es l : List Nat} (h : Forest T es l) : ∀ x ∈ l, ∃ e ∈ es, Anc T x e := by
  induction h with
  | nil => intro x hx; cases hx
  | @cons e r0 es a b h1 h2 h3 ih1 ih2 =>
    intro x hx
    rcases List.mem_cons.1 hx with rfl | hx
    · exact ⟨x, by simp, .refl x⟩
    · rcases List.mem_append.1 hx with hx | hx
      · obtain ⟨k, hk, ha⟩ := ih1 x hx
        refine ⟨e, by simp, ?_⟩
        obtain ⟨rk, h4, h5⟩ := hI.kid e r0 k h1 hk
        exact ha.up h4 h5
      · obtain ⟨k, hk, ha⟩ := ih2 x hx
        exact ⟨k, by simp [hk], ha⟩
theorem Anc.ser (hI : Inv T) {x e : Nat} (h : Anc T x e) {rx re : Rec} (hx : T.live x = some rx) (he : T.live e = some re) : re.serial ≤ rx.serial := by
  induction h generalizing rx with
  | refl x => rw [hx] at he; obtain rfl : rx = re := by simpa using he
              exact Int.le_refl _
  | @step x p e rx' h1 h2 h3 ih =>
    rw [h1] at hx
    obtain rfl : rx' = rx := by simpa using hx
    rcases hI.par x rx' h1 with ⟨_, h4⟩ | ⟨_, p', rp, h4, h5, _, h6⟩
    · omega
    · have : p' = p := by omega
      subst this
      have := ih h5 he
      omega
theorem Anc.linear {x e f : Nat} (h : Anc T x e) (k : Anc T x f) : Anc T e f ∨ Anc T f e := by
  induction h with
  | refl x => exact .inl k
  | @step x p e rx h1 h2 h3 ih =>
    cases k with
    | refl => exact .inr (.step h1 h2 h3)
    | @step _ p' _ rx' h4 h5 h6 =>
      rw [h1] at h4
      obtain rfl : rx = rx' := by simpa using h4
      have : p = p' := by omega
      subst this
      exact ih h6
theorem Forest.nodup (hI : Inv T) {es l : List Nat} (h : Forest T es l) : es.Nodup → (∀ e ∈ es, ∀ f ∈ es, ∀ re rf, T.live e = some re → T.live f = some rf → re.parent = rf.parent) → l.Nodup := by
  induction h with
  | nil => intro _ _; exact List.nodup_nil
  | @cons e r0 es a b h1 h2 h3 ih1 ih2 =>
    intro hn hp
    obtain ⟨hn1, hn2⟩ := List.nodup_cons.1 hn
    have ha := ih1 (hI.nodup e r0 h1) fun c hc d hd rc rd hrc hrd => by rw [(hI.kser h1 hc hrc).1, (hI.kser h1 hd hrd).1]
    have hb := ih2 hn2 fun c hc d hd => hp c (by simp [hc]) d (by simp [hd])
    have hea : e ∉ a := fun he => by
      obtain ⟨k, hk, hanc⟩ := h2.anc hI e he
      obtain ⟨rk, h4, _⟩ := hI.kid e r0 k h1 hk
      have h5 := hI.kser h1 hk h4
      have h6 := hanc.ser hI h1 h4
      omega
    have sib : ∀ f ∈ es, ¬ Anc T e f ∧ ¬ Anc T f e := fun f hf => by
      obtain ⟨rf, hrf⟩ := h3.live f (h3.head f hf)
      have hpar := hp e (by simp) f (by simp [hf]) r0 rf h1 hrf
      have hne : e ≠ f := fun e2 => hn1 (e2 ▸ hf)
      have key : ∀ {x y : Nat} {rx ry : Rec}, T.live x = some rx → T.live y = some ry → rx.parent = ry.parent → x ≠ y → ¬ Anc T x y := fun {x y rx ry} hx hy hxy hne ha => by
        cases ha with
        | refl => exact hne rfl
        | @step _ p _ rx' h4 h5 h6 =>
          rw [hx] at h4
          obtain rfl : rx = rx' := by simpa using h4
          rcases hI.par y ry hy with ⟨_, h7⟩ | ⟨_, p', rp, h7, h8, _, h9⟩
          · omega
          · have : p' = p := by omega
            subst this
            have := h6.ser hI h8 hy
            omega
      exact ⟨key h1 hrf hpar hne, key hrf h1 hpar.symm (Ne.symm hne)⟩
    have heb : e ∉ b := fun he => by
      obtain ⟨f, hf, hanc⟩ := h3.anc hI e he
      exact (sib f hf).1 hanc
    have hae : ∀ x ∈ a, Anc T x e := fun x hx => by
      obtain ⟨k, hk, hanc⟩ := (Forest.cons h1 h2 .nil).anc hI x (by simp [hx])
      obtain rfl : k = e := by simpa using hk
      exact hanc
    rw [List.nodup_cons, List.nodup_append]
    refine ⟨by simp [hea, heb], ha, hb, fun x hx y hy hxy => ?_⟩
    subst hxy
    obtain ⟨f, hf, hanc⟩ := h3.anc hI x hy
    rcases (hae x hx).linear hanc with h | h
    · exact (sib f hf).1 h
    · exact (sib f hf).2 h
theorem Inv.tree_nodup (hI : Inv T) {e : Nat} {l : List Nat} (h : Forest T [e] l) : l.Nodup :=
  h.nodup hI (by simp) fun c hc d hd rc rd h1 h2 => by
    obtain rfl : c = e := by simpa using hc
    obtain rfl : d = c := by simpa using hd
    rw [h1] at h2
    obtain rfl : rc = rd := by simpa using h2
    rfl
theorem Inv.tree16 (hI : Inv T) {e : Nat} {l : List Nat} (h : Forest T [e] l) : l.length ≤ 16 :=
  nodup_len 16 l (hI.tree_nodup h) fun x hx => by obtain ⟨r, hr⟩ := h.live x hx; exact hI.lt x r hr
end
end Go.Proofs.Ytdogpkcalflhbaa
