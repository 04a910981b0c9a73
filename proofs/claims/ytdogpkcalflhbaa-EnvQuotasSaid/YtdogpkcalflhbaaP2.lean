/- Plain: what every call keeps. No program in sight. -/
import Derived.Test.YtdogpkcalflhbaaP1
set_option linter.unusedSimpArgs false
set_option linter.unusedVariables false
namespace Go.Proofs.Ytdogpkcalflhbaa
section
variable {T : Tb}
theorem wholeOf_set {n c : Nat} {r r' : Rec} (hn : T.live n = some r) (hw : r'.whole = r.whole) : wholeOf (T.set n r') c = wholeOf T c := by
  unfold wholeOf
  by_cases e : c = n
  · subst e; rw [T.set_same, hn]; simp only; rw [hw]
  · rw [T.set_other _ e]
/-- A field that the tree doesn't hang on, or what is paid. -/
theorem Inv.upd (h : Inv T) {n : Nat} {r r' : Rec} (hn : T.live n = some r) (e1 : r'.serial = r.serial) (e2 : r'.parent = r.parent) (e3 : r'.whole = r.whole) (e4 : r'.carved = r.carved) (e5 : r'.kids = r.kids)
    (hok : Rok r') (hl : Qle (r'.paid.plus r'.carved) r'.whole) : Inv (T.set n r') := by
  have old : ∀ {m s}, (T.set n r').live m = some s → ∃ s0, T.live m = some s0 ∧ s.serial = s0.serial ∧ s.parent = s0.parent ∧ s.whole = s0.whole ∧ s.carved = s0.carved ∧ s.kids = s0.kids := fun {m s} hm => by
    rcases Tb.set_get hm with ⟨rfl, rfl⟩ | ⟨_, hm⟩
    · exact ⟨r, hn, e1, e2, e3, e4, e5⟩
    · exact ⟨s, hm, rfl, rfl, rfl, rfl, rfl⟩
  have new : ∀ {m s0}, T.live m = some s0 → ∃ s, (T.set n r').live m = some s ∧ s.serial = s0.serial ∧ s.parent = s0.parent ∧ s.kids = s0.kids := fun {m s0} hm => by
    by_cases e : m = n
    · subst e
      rw [hn] at hm
      obtain rfl : r = s0 := by simpa using hm
      exact ⟨r', T.set_same _ _, e1, e2, e5⟩
    · exact ⟨s0, by rw [T.set_other _ e]; exact hm, rfl, rfl, rfl⟩
  refine ⟨fun m s hm => ?_, fun m hm => ?_, h.low16, ?_, fun m s hm => ?_, fun p rp c hp hc => ?_, fun p rp hp => ?_, fun m s hm => ?_, h.last, fun m s hm => ?_, fun m s hm => ?_, fun m s hm => ?_⟩
  · obtain ⟨s0, h1, _⟩ := old hm; exact h.lt m s0 h1
  · rw [Tb.set_some hn]; exact h.low m hm
  · obtain ⟨r0, h0⟩ := h.root
    obtain ⟨s, h1, _⟩ := new h0
    exact ⟨s, h1⟩
  · obtain ⟨s0, h1, h2, h3, _⟩ := old hm
    rcases h.par m s0 h1 with ⟨h4, h5⟩ | ⟨h4, p, rp, h5, h6, h7, h8⟩
    · exact .inl ⟨h4, h3.trans h5⟩
    · obtain ⟨rp', g1, g2, _, g4⟩ := new h6
      exact .inr ⟨h4, p, rp', h3.trans h5, g1, by rw [g4]; exact h7, by rw [g2, h2]; exact h8⟩
  · obtain ⟨s0, h1, _, _, _, _, h2⟩ := old hp
    rw [h2] at hc
    obtain ⟨rc, g1, g2⟩ := h.kid p s0 c h1 hc
    obtain ⟨rc', g3, _, g4, _⟩ := new g1
    exact ⟨rc', g3, g4.trans g2⟩
  · obtain ⟨s0, h1, _, _, _, _, h2⟩ := old hp
    rw [h2]; exact h.nodup p s0 h1
  · obtain ⟨s0, h1, h2, _⟩ := old hm
    rw [h2]; exact h.ser m s0 h1
  · rcases Tb.set_get hm with ⟨rfl, rfl⟩ | ⟨_, hm⟩
    · exact hok
    · exact h.ok m s hm
  · rcases Tb.set_get hm with ⟨rfl, rfl⟩ | ⟨_, hm⟩
    · exact hl
    · exact h.left m s hm
  · obtain ⟨s0, h1, _, _, _, h2, h3⟩ := old hm
    rw [h2, h3, h.carved m s0 h1]
    exact (carvedOf_congr _ fun c _ => wholeOf_set hn e3).symm

/-- A child is made. -/
def Tb.born (T : Tb) (p nn : Nat) (s : Int) (q : Qt) (r : Rec) : Tb := { (T.add nn (Rec.new s p q)).set p { r with carved := r.carved.plus q.child, kids := r.kids ++ [nn] } with last := s }
theorem born_at {p nn : Nat} {s : Int} {q : Qt} {r : Rec} (m : Nat) : (T.born p nn s q r).live m = if m = p then some { r with carved := r.carved.plus q.child, kids := r.kids ++ [nn] } else if m = nn then some (Rec.new s p q) else T.live m := rfl
theorem Inv.born (h : Inv T) {p nn : Nat} {s : Int} {q : Qt} {r : Rec} (hp : T.live p = some r) (hff : T.firstFree = some nn) (hs : T.last < s) (hs2 : s ≤ 4611686018427387903) (hg : goodB q = true) (hf : fitB q.child r.left = true) : Inv (T.born p nn s q r) := by
  obtain ⟨hlo, hn16, hfree, htk⟩ := firstFree_some hff
  have hpn : p ≠ nn := fun e => by rw [e, hfree] at hp; cases hp
  have hq := goodB_iff.1 hg
  have hfit : q.child.f ≤ r.left.f ∧ q.child.e ≤ r.left.e ∧ q.child.x ≤ r.left.x := by unfold fitB at hf; simpa using hf
  have hrl := h.left p r hp
  have hrok := h.ok p r hp
  have at_p : (T.born p nn s q r).live p = some { r with carved := r.carved.plus q.child, kids := r.kids ++ [nn] } := by rw [born_at, if_pos rfl]
  have at_n : (T.born p nn s q r).live nn = some (Rec.new s p q) := by rw [born_at, if_neg (Ne.symm hpn), if_pos rfl]
  have at_o : ∀ m, m ≠ p → m ≠ nn → (T.born p nn s q r).live m = T.live m := fun m h1 h2 => by rw [born_at, if_neg h1, if_neg h2]
  have hnn : ∀ {m s0}, T.live m = some s0 → m ≠ nn := fun {m s0} hm e => by rw [e, hfree] at hm; cases hm
  have new : ∀ {m s0}, T.live m = some s0 → ∃ s1, (T.born p nn s q r).live m = some s1 ∧ s1.serial = s0.serial ∧ s1.parent = s0.parent ∧ s1.whole = s0.whole ∧ ∀ c ∈ s0.kids, c ∈ s1.kids := fun {m s0} hm => by
    by_cases e : m = p
    · subst e
      rw [hp] at hm
      obtain rfl : r = s0 := by simpa using hm
      exact ⟨_, at_p, rfl, rfl, rfl, fun c hc => by simp [hc]⟩
    · exact ⟨s0, by rw [at_o m e (hnn hm)]; exact hm, rfl, rfl, rfl, fun c hc => hc⟩
  have who : ∀ c, c ≠ nn → wholeOf (T.born p nn s q r) c = wholeOf T c := fun c hc => by
    unfold wholeOf
    by_cases e : c = p
    · subst e; rw [at_p, hp]
    · rw [at_o c e hc]
  have whon : wholeOf (T.born p nn s q r) nn = q.child := by unfold wholeOf; rw [at_n]; rfl
  have knn : ∀ {m s0}, T.live m = some s0 → nn ∉ s0.kids := fun {m s0} hm hc => by
    obtain ⟨rc, h1, _⟩ := h.kid m s0 nn hm hc
    rw [hfree] at h1; cases h1
  have parts : ∀ {m s1}, (T.born p nn s q r).live m = some s1 → (m = p ∧ s1 = { r with carved := r.carved.plus q.child, kids := r.kids ++ [nn] }) ∨ (m = nn ∧ s1 = Rec.new s p q) ∨ (m ≠ p ∧ m ≠ nn ∧ T.live m = some s1) := fun {m s1} hm => by
    by_cases e : m = p
    · subst e; rw [at_p] at hm; exact .inl ⟨rfl, by simpa using hm.symm⟩
    · by_cases e2 : m = nn
      · subst e2; rw [at_n] at hm; exact .inr (.inl ⟨rfl, by simpa using hm.symm⟩)
      · rw [at_o m e e2] at hm; exact .inr (.inr ⟨e, e2, hm⟩)
  unfold Rec.left Qt.minus Qt.child at hfit
  unfold Qle Qt.plus at hrl
  have hrc := hrok.carved
  have hrp := hrok.paid
  have hrw := hrok.whole
  unfold Qok at hq hrc hrp hrw
  simp only at hfit hrl
  refine ⟨fun m s1 hm => ?_, fun m hm => ?_, by show nn ≤ 16; omega, ?_, fun m s1 hm => ?_, fun m s1 c hm hc => ?_, fun m s1 hm => ?_, fun m s1 hm => ?_, hs2, fun m s1 hm => ?_, fun m s1 hm => ?_, fun m s1 hm => ?_⟩
  · rcases parts hm with ⟨rfl, rfl⟩ | ⟨rfl, rfl⟩ | ⟨_, _, hm⟩
    · exact h.lt m r hp
    · exact hn16
    · exact h.lt m s1 hm
  · have hm' : m < nn := hm
    have : (T.live m).isSome = true := by
      by_cases e : m < T.low
      · exact h.low m e
      · exact htk m (by omega) hm'
    obtain ⟨s0, hs0⟩ := Option.isSome_iff_exists.1 this
    obtain ⟨s1, h1, _⟩ := new hs0
    rw [h1]; rfl
  · obtain ⟨r0, h0⟩ := h.root
    obtain ⟨s1, h1, _⟩ := new h0
    exact ⟨s1, h1⟩
  · have old : ∀ {s0}, T.live m = some s0 → s1.parent = s0.parent → s1.serial = s0.serial → (m = 0 ∧ s1.parent = -1) ∨ (m ≠ 0 ∧ ∃ (p' : Nat) (rp : Rec), s1.parent = p' ∧ (T.born p nn s q r).live p' = some rp ∧ m ∈ rp.kids ∧ rp.serial < s1.serial) := fun {s0} h0 e1 e2 => by
      rcases h.par m s0 h0 with ⟨h4, h5⟩ | ⟨h4, p', rp, h5, h6, h7, h8⟩
      · exact .inl ⟨h4, e1.trans h5⟩
      · obtain ⟨rp', g1, g2, _, _, g4⟩ := new h6
        exact .inr ⟨h4, p', rp', e1.trans h5, g1, g4 m h7, by rw [g2, e2]; exact h8⟩
    rcases parts hm with ⟨rfl, rfl⟩ | ⟨rfl, rfl⟩ | ⟨_, _, hm⟩
    · exact old hp rfl rfl
    · refine .inr ⟨fun e => ?_, p, _, rfl, at_p, by simp, ?_⟩
      · subst e; obtain ⟨r0, h0⟩ := h.root; rw [hfree] at h0; cases h0
      · show r.serial < s; have := h.ser p r hp; omega
    · exact old hm rfl rfl
  · have old : ∀ {s0}, T.live m = some s0 → c ∈ s0.kids → ∃ rc, (T.born p nn s q r).live c = some rc ∧ rc.parent = (m : Int) := fun {s0} h0 hc0 => by
      obtain ⟨rc, h1, h2⟩ := h.kid m s0 c h0 hc0
      obtain ⟨rc', h3, _, h4, _⟩ := new h1
      exact ⟨rc', h3, h4.trans h2⟩
    rcases parts hm with ⟨rfl, rfl⟩ | ⟨rfl, rfl⟩ | ⟨_, _, hm⟩
    · rcases List.mem_append.1 hc with hc | hc
      · exact old hp hc
      · obtain rfl : c = nn := by simpa using hc
        exact ⟨_, at_n, rfl⟩
    · cases hc
    · exact old hm hc
  · rcases parts hm with ⟨rfl, rfl⟩ | ⟨rfl, rfl⟩ | ⟨_, _, hm⟩
    · show (r.kids ++ [nn]).Nodup
      rw [List.nodup_append]
      refine ⟨h.nodup m r hp, by simp, fun x hx y hy hxy => ?_⟩
      obtain rfl : y = nn := by simpa using hy
      subst hxy
      exact knn hp hx
    · exact List.nodup_nil
    · exact h.nodup m s1 hm
  · show s1.serial ≤ s
    rcases parts hm with ⟨rfl, rfl⟩ | ⟨rfl, rfl⟩ | ⟨_, _, hm⟩
    · show r.serial ≤ s; have := h.ser m r hp; omega
    · exact Int.le_refl _
    · have := h.ser m s1 hm; omega
  · rcases parts hm with ⟨rfl, rfl⟩ | ⟨rfl, rfl⟩ | ⟨_, _, hm⟩
    · refine ⟨hrok.bits, hrok.whole, hrok.paid, ?_⟩
      unfold Qok Qt.plus Qt.child
      simp only
      omega
    · refine ⟨rfl, goodB_iff.1 hg, ?_, ?_⟩ <;> (unfold Qok Rec.new Qt.zero; simp)
    · exact h.ok m s1 hm
  · rcases parts hm with ⟨rfl, rfl⟩ | ⟨rfl, rfl⟩ | ⟨_, _, hm⟩
    · unfold Qle Qt.plus Qt.child
      simp only
      omega
    · unfold Qle Rec.new Qt.zero Qt.plus
      simp only
      omega
    · exact h.left m s1 hm
  · rcases parts hm with ⟨rfl, rfl⟩ | ⟨rfl, rfl⟩ | ⟨_, _, hm⟩
    · show r.carved.plus q.child = carvedOf _ (r.kids ++ [nn])
      rw [carvedOf_append, carvedOf_congr r.kids (fun c hc => who c fun e => knn hp (e ▸ hc)), ← h.carved m r hp]
      simp only [carvedOf, whon, Qt.plus, Qt.zero]
      ext <;> simp
    · rfl
    · rw [h.carved m s1 hm, carvedOf_congr s1.kids (fun c hc => who c fun e => knn hm (e ▸ hc))]

/-! ### Destroy -/
def Tb.drop (T : Tb) (n : Nat) : Tb := { T with live := fun m => if m = n then none else T.live m, low := Nat.min T.low n }
def Tb.drops (T : Tb) (l : List Nat) : Tb := l.foldl Tb.drop T
theorem drops_live : ∀ (l : List Nat) (T : Tb) (m : Nat), (T.drops l).live m = if m ∈ l then none else T.live m
  | [], T, m => by simp [Tb.drops]
  | n :: l, T, m => by
    have := drops_live l (T.drop n) m
    show ((T.drop n).drops l).live m = _
    rw [this]
    by_cases h1 : m ∈ l
    · simp [h1]
    · rw [if_neg h1]
      by_cases h2 : m = n
      · simp [Tb.drop, h2]
      · simp [Tb.drop, h1, h2]
theorem drops_low : ∀ (l : List Nat) (T : Tb) (m : Nat), m < (T.drops l).low → m < T.low ∧ m ∉ l
  | [], T, m, h => ⟨h, by simp⟩
  | n :: l, T, m, h => by
    have h1 := drops_low l (T.drop n) m h
    have h2 : m < Nat.min T.low n := h1.1
    rw [Nat.lt_min] at h2
    exact ⟨h2.1, by simp [h1.2]; omega⟩
theorem drops_last : ∀ (l : List Nat) (T : Tb), (T.drops l).last = T.last
  | [], T => rfl
  | n :: l, T => drops_last l (T.drop n)
theorem drops_le : ∀ (l : List Nat) (T : Tb), (T.drops l).low ≤ T.low
  | [], T => Nat.le_refl _
  | n :: l, T => by
    have h1 := drops_le l (T.drop n)
    have h2 : (T.drop n).low ≤ T.low := Nat.min_le_left _ _
    exact Nat.le_trans h1 h2

def Rec.without (rp : Rec) (e : Nat) (r : Rec) : Rec := { rp with carved := rp.carved.minus r.whole.child, kids := rp.kids.filter fun c => c != e }
/-- An environment and all below it end. -/
def Tb.gone (T : Tb) (p e : Nat) (rp r : Rec) (l : List Nat) : Tb := (T.set p (rp.without e r)).drops l

theorem wholeOf_nn (h : Inv T) (c : Nat) : Qnn (wholeOf T c) := by
  unfold wholeOf
  cases hc : T.live c with
  | none => simp only; unfold Qnn Qt.zero; simp
  | some r =>
    have := (h.ok c r hc).whole
    unfold Qok at this
    simp only
    unfold Qnn Qt.child
    simp only
    omega
theorem carvedOf_nn (h : Inv T) : ∀ l, Qnn (carvedOf T l)
  | [] => by unfold Qnn carvedOf Qt.zero; simp
  | c :: l => by
    have h1 := wholeOf_nn h c
    have h2 := carvedOf_nn h l
    unfold Qnn at *
    simp only [carvedOf, Qt.plus]
    omega
theorem gone_part (h : Inv T) {e p : Nat} {r rp : Rec} (he : T.live e = some r) (hp : T.live p = some rp) (hk : e ∈ rp.kids) : rp.carved.minus r.whole.child = carvedOf T (rp.kids.filter fun c => c != e) := by
  rw [h.carved p rp hp, carvedOf_split rp.kids (h.nodup p rp hp) hk]
  have : wholeOf T e = r.whole.child := by unfold wholeOf; rw [he]
  rw [this]
  simp only [Qt.plus, Qt.minus]
  ext <;> simp <;> omega
theorem Inv.gone (h : Inv T) {e p : Nat} {r rp : Rec} {l : List Nat} (he : T.live e = some r) (h0 : e ≠ 0) (hpar : r.parent = (p : Int)) (hp : T.live p = some rp) (hl : Forest T [e] l) : Inv (T.gone p e rp r l) := by
  have hk : e ∈ rp.kids := by
    rcases h.par e r he with ⟨h1, _⟩ | ⟨_, p', rp', h2, h3, h4, _⟩
    · exact absurd h1 h0
    · have : p' = p := by omega
      subst this
      rw [h3] at hp
      obtain rfl : rp' = rp := by simpa using hp
      exact h4
  have hel : e ∈ l := hl.head e (by simp)
  have hup : ∀ x ∈ l, x = e ∨ ∃ p' ∈ l, ∃ rp', T.live p' = some rp' ∧ x ∈ rp'.kids := fun x hx => by
    rcases hl.up x hx with h1 | h1
    · exact .inl (by simpa using h1)
    · exact .inr h1
  have hpl : p ∉ l := fun hpl => by
    have hnd := h.tree_nodup hl
    obtain ⟨x, hx, ha⟩ := hl.anc h p hpl
    obtain rfl : x = e := by simpa using hx
    have h1 := ha.ser h hp he
    have h2 := (h.kser hp hk he).2.1
    omega
  have h0l : 0 ∉ l := fun h0l => by
    rcases hup 0 h0l with h1 | ⟨p', _, rp', h2, h3⟩
    · exact h0 h1.symm
    · obtain ⟨rc, h4, h5⟩ := h.kid p' rp' 0 h2 h3
      exact (h.kser h2 h3 h4).2.2 rfl
  have kidl : ∀ {m s0 c}, T.live m = some s0 → m ∉ l → c ∈ s0.kids → c ∈ l → c = e := fun {m s0 c} hm hml hc hcl => by
    rcases hup c hcl with h1 | ⟨p', hp', rp', h2, h3⟩
    · exact h1
    · obtain ⟨rc, h4, h5⟩ := h.kid m s0 c hm hc
      obtain ⟨rc', h6, h7⟩ := h.kid p' rp' c h2 h3
      rw [h4] at h6
      obtain rfl : rc = rc' := by simpa using h6
      have : m = p' := by omega
      exact absurd (this ▸ hp') hml
  have atl : ∀ m, (T.gone p e rp r l).live m = if m ∈ l then none else if m = p then some (rp.without e r) else T.live m := fun m => by
    show (((T.set p _).drops l).live m) = _
    rw [drops_live]
    rfl
  have new : ∀ {m s0}, T.live m = some s0 → m ∉ l → ∃ s1, (T.gone p e rp r l).live m = some s1 ∧ s1.serial = s0.serial ∧ s1.parent = s0.parent ∧ s1.whole = s0.whole ∧ ∀ c ∈ s0.kids, c ≠ e → c ∈ s1.kids := fun {m s0} hm hml => by
    by_cases e1 : m = p
    · subst e1
      rw [hp] at hm
      obtain rfl : rp = s0 := by simpa using hm
      exact ⟨rp.without e r, by rw [atl, if_neg hml, if_pos rfl], rfl, rfl, rfl, fun c hc hce => by simp [Rec.without, hc, hce]⟩
    · exact ⟨s0, by rw [atl, if_neg hml, if_neg e1]; exact hm, rfl, rfl, rfl, fun c hc _ => hc⟩
  have old : ∀ {m s1}, (T.gone p e rp r l).live m = some s1 → m ∉ l ∧ ((m = p ∧ s1 = rp.without e r) ∨ (m ≠ p ∧ T.live m = some s1)) := fun {m s1} hm => by
    rw [atl] at hm
    by_cases e1 : m ∈ l
    · rw [if_pos e1] at hm; cases hm
    · rw [if_neg e1] at hm
      refine ⟨e1, ?_⟩
      by_cases e2 : m = p
      · rw [if_pos e2] at hm; exact .inl ⟨e2, by simpa using hm.symm⟩
      · rw [if_neg e2] at hm; exact .inr ⟨e2, hm⟩
  have who : ∀ c, c ∉ l → wholeOf (T.gone p e rp r l) c = wholeOf T c := fun c hc => by
    unfold wholeOf
    rw [atl, if_neg hc]
    by_cases e1 : c = p
    · subst e1; rw [if_pos rfl, hp]; rfl
    · rw [if_neg e1]
  have hcar := gone_part h he hp hk
  have hcnn := carvedOf_nn h (rp.kids.filter fun c => c != e)
  have hrl := h.left p rp hp
  have hrok := h.ok p rp hp
  have hwnn := (h.ok e r he).whole
  refine ⟨fun m s1 hm => ?_, fun m hm => ?_, Nat.le_trans (drops_le l _) h.low16, ?_, fun m s1 hm => ?_, fun m s1 c hm hc => ?_, fun m s1 hm => ?_, fun m s1 hm => ?_, ?_, fun m s1 hm => ?_, fun m s1 hm => ?_, fun m s1 hm => ?_⟩
  · rcases (old hm).2 with ⟨rfl, rfl⟩ | ⟨_, hm⟩
    · exact h.lt m rp hp
    · exact h.lt m s1 hm
  · obtain ⟨h1, h2⟩ := drops_low l _ m hm
    obtain ⟨s0, hs0⟩ := Option.isSome_iff_exists.1 (h.low m h1)
    obtain ⟨s1, h3, _⟩ := new hs0 h2
    rw [h3]; rfl
  · obtain ⟨r0, h1⟩ := h.root
    obtain ⟨s1, h2, _⟩ := new h1 h0l
    exact ⟨s1, h2⟩
  · obtain ⟨hml, hm2⟩ := old hm
    have key : ∀ {s0}, T.live m = some s0 → s1.parent = s0.parent → s1.serial = s0.serial → (m = 0 ∧ s1.parent = -1) ∨ (m ≠ 0 ∧ ∃ (p' : Nat) (rp' : Rec), s1.parent = p' ∧ (T.gone p e rp r l).live p' = some rp' ∧ m ∈ rp'.kids ∧ rp'.serial < s1.serial) := fun {s0} hs0 e1 e2 => by
      rcases h.par m s0 hs0 with ⟨h4, h5⟩ | ⟨h4, p', rp', h5, h6, h7, h8⟩
      · exact .inl ⟨h4, e1.trans h5⟩
      · have hp'l : p' ∉ l := fun hx => hml (hl.closed p' hx rp' h6 m h7)
        obtain ⟨s2, g1, g2, _, _, g4⟩ := new h6 hp'l
        exact .inr ⟨h4, p', s2, e1.trans h5, g1, g4 m h7 (fun e3 => hml (e3 ▸ hel)), by rw [g2, e2]; exact h8⟩
    rcases hm2 with ⟨rfl, rfl⟩ | ⟨_, hm2⟩
    · exact key hp rfl rfl
    · exact key hm2 rfl rfl
  · obtain ⟨hml, hm2⟩ := old hm
    have key : ∀ {s0}, T.live m = some s0 → c ∈ s0.kids → c ≠ e → ∃ rc, (T.gone p e rp r l).live c = some rc ∧ rc.parent = (m : Int) := fun {s0} hs0 hc0 hce => by
      obtain ⟨rc, h1, h2⟩ := h.kid m s0 c hs0 hc0
      have hcl : c ∉ l := fun hx => hce (kidl hs0 hml hc0 hx)
      obtain ⟨rc', h3, _, h4, _⟩ := new h1 hcl
      exact ⟨rc', h3, h4.trans h2⟩
    rcases hm2 with ⟨rfl, rfl⟩ | ⟨hmp, hm2⟩
    · have : c ∈ rp.kids ∧ c ≠ e := by simpa [Rec.without] using hc
      exact key hp this.1 this.2
    · refine key hm2 hc fun hce => ?_
      subst hce
      obtain ⟨rc, h1, h2⟩ := h.kid m s1 c hm2 hc
      rw [he] at h1
      obtain rfl : r = rc := by simpa using h1
      omega
  · rcases (old hm).2 with ⟨rfl, rfl⟩ | ⟨_, hm⟩
    · exact (h.nodup m rp hp).filter _
    · exact h.nodup m s1 hm
  · show s1.serial ≤ ((T.set p _).drops l).last
    rw [drops_last]
    show s1.serial ≤ T.last
    rcases (old hm).2 with ⟨rfl, rfl⟩ | ⟨_, hm⟩
    · exact h.ser m rp hp
    · exact h.ser m s1 hm
  · show ((T.set p _).drops l).last ≤ _
    rw [drops_last]
    exact h.last
  · rcases (old hm).2 with ⟨rfl, rfl⟩ | ⟨_, hm⟩
    · refine ⟨hrok.bits, hrok.whole, hrok.paid, ?_⟩
      show Qok (rp.carved.minus r.whole.child)
      have h1 := hrok.carved
      rw [← hcar] at hcnn
      unfold Qok Qt.minus Qt.child Qnn at *
      simp only at *
      omega
    · exact h.ok m s1 hm
  · rcases (old hm).2 with ⟨rfl, rfl⟩ | ⟨_, hm⟩
    · show Qle (rp.paid.plus (rp.carved.minus r.whole.child)) rp.whole
      unfold Qok at hwnn
      unfold Qle Qt.plus Qt.minus Qt.child at *
      simp only at *
      omega
    · exact h.left m s1 hm
  · obtain ⟨hml, hm2⟩ := old hm
    rcases hm2 with ⟨rfl, rfl⟩ | ⟨hmp, hm2⟩
    · show rp.carved.minus r.whole.child = carvedOf _ (rp.kids.filter fun c => c != e)
      rw [hcar]
      refine (carvedOf_congr _ fun c hc => who c fun hx => ?_).symm
      have : c ∈ rp.kids ∧ c ≠ e := by simpa using hc
      exact this.2 (kidl hp hml this.1 hx)
    · rw [h.carved m s1 hm2]
      refine (carvedOf_congr _ fun c hc => who c fun hx => ?_).symm
      have hce := kidl hm2 hml hc hx
      subst hce
      obtain ⟨rc, h1, h2⟩ := h.kid m s1 c hm2 hc
      rw [he] at h1
      obtain rfl : r = rc := by simpa using h1
      omega
end
end Go.Proofs.Ytdogpkcalflhbaa
