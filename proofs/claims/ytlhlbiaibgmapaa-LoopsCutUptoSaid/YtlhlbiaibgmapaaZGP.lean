/-
  Plain: the iteration that finds the immediate dominators.
-/
import Derived.Test.YtlhlbiaibgmapaaZV15
set_option linter.unusedSimpArgs false
set_option linter.unusedVariables false
namespace Go.Proofs.Ytlhlbiaibgmapaa
/-- x is reached from 0 without d -/
inductive Rc (E : Nat → Nat → Prop) (d : Int) : Nat → Prop
  | base : (0 : Int) ≠ d → Rc E d 0
  | step {p b : Nat} : Rc E d p → E p b → (b : Int) ≠ d → Rc E d b
/-- y lies on the way up from x -/
inductive An (f : Nat → Int) : Nat → Nat → Prop
  | self (x : Nat) : An f x x
  | up {x p y : Nat} : x ≠ 0 → f x = p → An f p y → An f x y
theorem An.trans {f : Nat → Int} {x y z : Nat} (h : An f x y) (k : An f y z) : An f x z := by
  induction h with
  | self => exact k
  | up h1 h2 _ ih => exact .up h1 h2 (ih k)
theorem An.cases' {f : Nat → Int} {x y : Nat} (h : An f x y) : y = x ∨ (x ≠ 0 ∧ ∃ p : Nat, f x = p ∧ An f p y) := by
  cases h with
  | self => exact .inl rfl
  | up h1 h2 h3 => exact .inr ⟨h1, _, h2, h3⟩
theorem An.zero {f : Nat → Int} {y : Nat} (h : An f 0 y) : y = 0 := by
  rcases h.cases' with h | ⟨h, _⟩
  · exact h
  · exact (h rfl).elim
/-- the graph, its order, and the parents of the search -/
structure GG (E : Nat → Nat → Prop) (R : Nat → Prop) (pos : Nat → Nat) (t : Nat → Nat) : Prop where
  r0 : R 0
  p0 : pos 0 = 0
  inj : ∀ a b, R a → R b → pos a = pos b → a = b
  clo : ∀ p b, R p → E p b → R b
  par : ∀ b, R b → b ≠ 0 → R (t b) ∧ E (t b) b ∧ pos (t b) < pos b
/-- the block has a place in the tree -/
def df (f : Nat → Int) (b : Nat) : Prop := b = 0 ∨ 0 ≤ f b
structure WF (R : Nat → Prop) (pos : Nat → Nat) (f : Nat → Int) : Prop where
  un : ∀ b, ¬ R b → f b = -1
  z : f 0 = -1
  lt : ∀ b, 0 ≤ f b → ∃ p : Nat, f b = p ∧ R p ∧ pos p < pos b ∧ df f p
section
variable {E : Nat → Nat → Prop} {R : Nat → Prop} {pos t : Nat → Nat}
theorem WF.re {f : Nat → Int} (h : WF R pos f) {b : Nat} (hb : 0 ≤ f b) : R b := by
  apply Classical.byContradiction
  intro hn
  rw [h.un b hn] at hb
  omega
theorem WF.po {f : Nat → Int} (h : WF R pos f) {x y : Nat} (ha : An f x y) : y = x ∨ pos y < pos x := by
  induction ha with
  | self => exact .inl rfl
  | up h1 h2 _ ih =>
    right
    obtain ⟨p, e, _, hlt, _⟩ := h.lt _ (by rw [h2]; omega)
    rw [h2] at e
    have : p = _ := (Int.ofNat.inj e).symm
    subst this
    rcases ih with rfl | ih
    · exact hlt
    · omega
theorem WF.le {f : Nat → Int} (h : WF R pos f) {x y : Nat} (ha : An f x y) : pos y ≤ pos x := by
  rcases h.po ha with rfl | h
  · exact Nat.le_refl _
  · omega
theorem WF.an {f : Nat → Int} (h : WF R pos f) {x y : Nat} (hx : df f x) (ha : An f x y) : df f y := by
  induction ha with
  | self => exact hx
  | up h1 h2 _ ih =>
    obtain ⟨p, e, _, _, hd⟩ := h.lt _ (by rw [h2]; omega)
    rw [h2] at e
    have : p = _ := (Int.ofNat.inj e).symm
    subst this
    exact ih hd
/-- the way up from a block below b does not see b -/
theorem An_lt {f f' : Nat → Int} {b : Nat} (hf : WF R pos f) (he : ∀ x, x ≠ b → f' x = f x) {x y : Nat} (ha : An f x y) : pos x < pos b → An f' x y := by
  induction ha with
  | self => intro _; exact .self _
  | @up x p y h1 h2 h3 ih =>
    intro hx
    have hp : pos p < pos x := by
      obtain ⟨p', e, _, hlt, _⟩ := hf.lt x (by rw [h2]; omega)
      rw [h2] at e
      have : p' = p := (Int.ofNat.inj e).symm
      subst this
      exact hlt
    refine .up h1 ?_ (ih (by omega))
    rw [he x (by rintro rfl; omega)]
    exact h2
/-- the block's parent moves up: all ways shrink -/
theorem An_shrink {f f' : Nat → Int} {b c : Nat} (hb0 : b ≠ 0) (he : ∀ x, x ≠ b → f' x = f x) (hc : f' b = c) {o : Nat} (ho : f b = o) (hu : An f o c) {x y : Nat} (ha : An f' x y) : An f x y := by
  induction ha with
  | self => exact .self _
  | @up x p y h1 h2 h3 ih =>
    by_cases e : x = b
    · subst e
      rw [hc] at h2
      have : p = c := (Int.ofNat.inj h2).symm
      subst this
      exact .up h1 ho (hu.trans ih)
    · rw [he x e] at h2
      exact .up h1 h2 ih
/-- a block that had no place gets one: the others' ways stay -/
theorem An_fresh {f f' : Nat → Int} {b : Nat} (hf : WF R pos f) (hb : ¬ df f b) (he : ∀ x, x ≠ b → f' x = f x) {x y : Nat} (hx : df f x) : An f x y ↔ An f' x y := by
  constructor
  · intro ha
    induction ha with
    | self => exact .self _
    | @up x p y h1 h2 h3 ih =>
      obtain ⟨p', e, _, _, hd⟩ := hf.lt x (by rw [h2]; omega)
      rw [h2] at e
      have : p' = p := (Int.ofNat.inj e).symm
      subst this
      exact .up h1 (by rw [he x (by rintro rfl; exact hb hx)]; exact h2) (ih hd)
  · intro ha
    induction ha with
    | self => exact .self _
    | @up x p y h1 h2 h3 ih =>
      rw [he x (by rintro rfl; exact hb hx)] at h2
      obtain ⟨p', e, _, _, hd⟩ := hf.lt x (by rw [h2]; omega)
      rw [h2] at e
      have : p' = p := (Int.ofNat.inj e).symm
      subst this
      exact .up h1 h2 (ih hd)
/-- one step of the search for the nearest common ancestor -/
theorem nca_step {f : Nat → Int} (hf : WF R pos f) {a b p : Nat} (hlt : pos b < pos a) (ha0 : a ≠ 0) (ha : f a = p) (x : Nat) : (An f a x ∧ An f b x) ↔ (An f p x ∧ An f b x) := by
  constructor
  · rintro ⟨h1, h2⟩
    rcases h1.cases' with rfl | ⟨_, p', e, h3⟩
    · have := hf.le h2; omega
    · rw [ha] at e
      have : p = p' := Int.ofNat.inj e
      subst this
      exact ⟨h3, h2⟩
  · rintro ⟨h1, h2⟩
    exact ⟨.up ha0 ha h1, h2⟩
/-- c is the nearest common ancestor of the predecessors that have a place -/
def Nca (E : Nat → Nat → Prop) (f : Nat → Int) (b c : Nat) : Prop := ∀ x, An f c x ↔ ∀ p, E p b → df f p → An f p x
/-- what holds behind a pass, of all blocks up to a place -/
structure Ps (E : Nat → Nat → Prop) (R : Nat → Prop) (pos t : Nat → Nat) (f : Nat → Int) (i : Nat) : Prop where
  d : ∀ b, R b → 0 < pos b → pos b < i → 0 ≤ f b
  q : ∀ b c : Nat, R b → 0 < pos b → pos b < i → f b = c → An f (t b) c
  j : ∀ b c : Nat, R b → 0 < pos b → pos b < i → f b = c → ∀ x, (∀ p, E p b → df f p → An f p x) → An f c x
/-- dominators are on the way up -/
def Gd (E : Nat → Nat → Prop) (f : Nat → Int) : Prop := ∀ (b d : Nat), df f b → ¬ Rc E d b → An f b d
/-- later passes: o is the tree ahead of the pass, all blocks in it -/
structure P1 (R : Nat → Prop) (pos : Nat → Nat) (o f : Nat → Int) (i : Nat) : Prop where
  e : ∀ b, (R b → i ≤ pos b ∨ b = 0) → f b = o b
  u : ∀ b c p : Nat, R b → 0 < pos b → pos b < i → f b = c → o b = p → An f p c
theorem P1.sub {o f : Nat → Int} {i : Nat} (ho : WF R pos o) (hf : WF R pos f) (hall : ∀ b, R b → b ≠ 0 → 0 ≤ o b) (h : P1 R pos o f i) : ∀ (k x y : Nat), pos x ≤ k → An f x y → An o x y := by
  intro k
  induction k with
  | zero =>
    intro x y hx ha
    rcases hf.po ha with rfl | h
    · exact .self _
    · omega
  | succ k ih =>
    intro x y hx ha
    rcases ha.cases' with rfl | ⟨hx0, p, e, h3⟩
    · exact .self _
    · have hRx := hf.re (b := x) (by rw [e]; omega)
      obtain ⟨p', e', hRp, hlt, _⟩ := hf.lt x (by rw [e]; omega)
      rw [e] at e'
      have : p = p' := Int.ofNat.inj e'
      subst this
      obtain ⟨q, eq, hRq, hlq, _⟩ := ho.lt x (hall x hRx hx0)
      by_cases hi : pos x < i
      · have := h.u x p q hRx (by omega) hi e eq
        exact .up hx0 eq (ih q y (by omega) (this.trans h3))
      · have := h.e x (fun _ => .inl (by omega))
        rw [e, eq] at this
        have : p = q := Int.ofNat.inj this
        subst this
        exact .up hx0 eq (ih p y (by omega) h3)
/-- along the old way -/
theorem P1.chain {o f : Nat → Int} {i : Nat} (ho : WF R pos o) (hf : WF R pos f) (h : P1 R pos o f i) {s u : Nat} (ha : An o s u) : pos s < i → ∀ c, An f s c → An f u c ∨ pos u < pos c := by
  induction ha with
  | self => intro _ c hc; exact .inl hc
  | @up s p u h1 h2 h3 ih =>
    intro hs c hc
    obtain ⟨p', e', _, hlt, _⟩ := ho.lt s (by rw [h2]; omega)
    rw [h2] at e'
    have : p' = p := (Int.ofNat.inj e').symm
    subst this
    rcases hc.cases' with rfl | ⟨_, q, e, h5⟩
    · right
      have := ho.le h3
      omega
    · have hRs := ho.re (b := s) (by rw [h2]; omega)
      exact ih (by omega) c ((h.u s q p' hRs (by omega) hs e h2).trans h5)
end
end Go.Proofs.Ytlhlbiaibgmapaa
set_option linter.unusedSimpArgs false
set_option linter.unusedVariables false
namespace Go.Proofs.Ytlhlbiaibgmapaa
def setF (f : Nat → Int) (b c : Nat) : Nat → Int := fun x => if x = b then (c : Int) else f x
theorem setF_ne {f : Nat → Int} {b c x : Nat} (h : x ≠ b) : setF f b c x = f x := by simp [setF, h]
theorem setF_eq {f : Nat → Int} {b c : Nat} : setF f b c b = c := by simp [setF]
section
variable {E : Nat → Nat → Prop} {R : Nat → Prop} {pos t : Nat → Nat}
theorem An_split {f f' : Nat → Int} {b : Nat} (hf : WF R pos f) (he : ∀ x, x ≠ b → f' x = f x) {x d : Nat} (ha : An f x d) : An f' x d ∨ (An f' x b ∧ An f x b ∧ d ≠ b ∧ An f b d) := by
  induction ha with
  | self => exact .inl (.self _)
  | @up x p d h1 h2 h3 ih =>
    by_cases e : x = b
    · subst e
      right
      refine ⟨.self _, .self _, ?_, .up h1 h2 h3⟩
      rintro rfl
      obtain ⟨p', e', _, hlt, _⟩ := hf.lt d (by rw [h2]; omega)
      rw [h2] at e'
      have : p' = p := (Int.ofNat.inj e').symm
      subst this
      have := hf.le h3
      omega
    · rcases ih with h | ⟨k1, k2, k3, k4⟩
      · exact .inl (.up h1 (by rw [he x e]; exact h2) h)
      · exact .inr ⟨.up h1 (by rw [he x e]; exact h2) k1, .up h1 h2 k2, k3, k4⟩
theorem pos_ne {E : Nat → Nat → Prop} (hg : GG E R pos t) {b : Nat} (hb : R b) (h : b ≠ 0) : 0 < pos b := by
  apply Nat.pos_of_ne_zero
  intro e
  exact h (hg.inj b 0 hb hg.r0 (by rw [e, hg.p0]))
theorem df_t (hg : GG E R pos t) {f : Nat → Int} {i : Nat} (hP : Ps E R pos t f i) {b : Nat} (hb : R b) (hb0 : b ≠ 0) (hi : pos b ≤ i) : df f (t b) := by
  obtain ⟨h1, h2, h3⟩ := hg.par b hb hb0
  by_cases e : t b = 0
  · exact .inl e
  · exact .inr (hP.d _ h1 (pos_ne hg h1 e) (by omega))
theorem dfs_path (hg : GG E R pos t) {o : Nat → Int} (ho : WF R pos o) (hQ : ∀ b c : Nat, R b → b ≠ 0 → o b = c → An o (t b) c) {d b : Nat} (hb : Rc E d b) : ∀ (k x : Nat), pos x ≤ k → R x → An o x b → Rc E d x ∨ An o d b := by
  intro k
  induction k with
  | zero =>
    intro x hx hR ha
    rcases ho.po ha with rfl | h
    · exact .inl hb
    · omega
  | succ k ih =>
    intro x hx hR ha
    by_cases hxd : x = d
    · subst hxd; exact .inr ha
    rcases ha.cases' with rfl | ⟨hx0, p, e, h3⟩
    · exact .inl hb
    · obtain ⟨h1, h2, h4⟩ := hg.par x hR hx0
      rcases ih (t x) (by omega) h1 ((hQ x p hR hx0 e).trans h3) with h | h
      · exact .inl (.step h h2 (by omega))
      · exact .inr h
/-- a step of a later pass -/
theorem step_later (hg : GG E R pos t) {o f : Nat → Int} {i b c : Nat} (ho : WF R pos o) (hf : WF R pos f) (hall : ∀ b, R b → b ≠ 0 → 0 ≤ o b) (hPo : ∀ m, Ps E R pos t o m) (hP : P1 R pos o f i) (hPf : Ps E R pos t f i) (hG : Gd E f) (hb : R b) (hb0 : b ≠ 0) (hi : pos b = i) (hc : Nca E f b c) :
    (∃ p : Nat, f b = p ∧ An f p c) ∧ WF R pos (setF f b c) ∧ P1 R pos o (setF f b c) (i + 1) ∧ Ps E R pos t (setF f b c) (i + 1) ∧ Gd E (setF f b c) := by
  obtain ⟨ht1, ht2, ht3⟩ := hg.par b hb hb0
  have hpb := pos_ne hg hb hb0
  obtain ⟨p, ep, hRp, hlp, hdp⟩ := ho.lt b (hall b hb hb0)
  have hfb : f b = p := by rw [hP.e b (fun _ => .inl (by omega)), ep]
  have hdt := df_t hg hPf hb hb0 (by omega)
  have hcp := (hc c).1 (.self c)
  have hc1 : An f (t b) c := hcp _ ht2 hdt
  have hdfo : ∀ q, df o q → df f q := by
    rintro q (h | h)
    · exact .inl h
    · by_cases h0 : q = 0
      · exact .inl h0
      · right
        have hRq := ho.re h
        by_cases hq : pos q < i
        · exact hPf.d q hRq (pos_ne hg hRq h0) hq
        · rw [hP.e q (fun _ => .inl (by omega))]; exact h
  have hsub := fun x y => P1.sub ho hf hall hP (pos x) x y (Nat.le_refl _)
  have hc2 : An o p c := (hPo (pos b + 1)).j b p hb hpb (by omega) ep c fun q hq hd => hsub q c (hcp q hq (hdfo q hd))
  have hu : An f p c := by
    rcases P1.chain ho hf hP ((hPo (pos b + 1)).q b p hb hpb (by omega) ep) (by omega) c hc1 with h | h
    · exact h
    · have := ho.le hc2; omega
  have hcl := hf.le hc1
  have hcb : c ≠ b := by rintro rfl; omega
  have hdc : df f c := hf.an hdt hc1
  have hRc : R c := by
    rcases hdc with h | h
    · rw [h]; exact hg.r0
    · exact hf.re h
  have he : ∀ x, x ≠ b → setF f b c x = f x := fun x h => setF_ne h
  have hdf : ∀ x, df (setF f b c) x ↔ df f x := by
    intro x
    unfold df
    by_cases e : x = b
    · subst e; rw [setF_eq, hfb]; constructor <;> (intro; right; omega)
    · rw [setF_ne e]
  have hshr : ∀ {x y}, An (setF f b c) x y → An f x y := fun ha => An_shrink hb0 he setF_eq hfb hu ha
  have hlow : ∀ {x y}, An f x y → pos x < pos b → An (setF f b c) x y := fun ha hx => An_lt hf he ha hx
  have hne : ∀ x, R x → pos x < i + 1 → x ≠ b → pos x < i := fun x hx hlt hxb => by
    have : pos x ≠ pos b := fun e => hxb (hg.inj x b hx hb e)
    omega
  refine ⟨⟨p, hfb, hu⟩, ⟨fun x hx => ?_, ?_, fun x hx => ?_⟩, ⟨fun x hx => ?_, fun x c' p' hR h1 h2 h3 h4 => ?_⟩, ⟨fun x hR h1 h2 => ?_, fun x c' hR h1 h2 h3 => ?_, fun x c' hR h1 h2 h3 y hy => ?_⟩, fun x d hx hd => ?_⟩
  · rw [setF_ne (by rintro rfl; exact hx hb)]; exact hf.un x hx
  · rw [setF_ne (Ne.symm hb0)]; exact hf.z
  · by_cases e : x = b
    · subst e
      exact ⟨c, setF_eq, hRc, by omega, (hdf c).2 hdc⟩
    · rw [setF_ne e] at hx ⊢
      obtain ⟨q, k1, k2, k3, k4⟩ := hf.lt x hx
      exact ⟨q, k1, k2, k3, (hdf q).2 k4⟩
  · have hxb : x ≠ b := by
      rintro rfl
      rcases hx hb with h | h
      · omega
      · exact hb0 h
    rw [setF_ne hxb]
    exact hP.e x fun hR => (hx hR).imp (by omega) id
  · by_cases e : x = b
    · subst e
      rw [setF_eq] at h3
      have : c = c' := Int.ofNat.inj h3
      subst this
      rw [ep] at h4
      have : p = p' := Int.ofNat.inj h4
      subst this
      exact hlow hu hlp
    · rw [setF_ne e] at h3
      have hx := hne x hR h2 e
      obtain ⟨q, k1, _, k3, _⟩ := ho.lt x (by rw [h4]; omega)
      rw [h4] at k1
      have : p' = q := Int.ofNat.inj k1
      subst this
      exact hlow (hP.u x c' p' hR h1 hx h3 h4) (by omega)
  · by_cases e : x = b
    · subst e; rw [setF_eq]; omega
    · rw [setF_ne e]; exact hPf.d x hR h1 (hne x hR h2 e)
  · by_cases e : x = b
    · subst e
      rw [setF_eq] at h3
      have : c = c' := Int.ofNat.inj h3
      subst this
      exact hlow hc1 ht3
    · rw [setF_ne e] at h3
      have hx := hne x hR h2 e
      have hx0 : x ≠ 0 := by rintro rfl; rw [hg.p0] at h1; omega
      exact hlow (hPf.q x c' hR h1 hx h3) (by have := (hg.par x hR hx0).2.2; omega)
  · by_cases e : x = b
    · subst e
      rw [setF_eq] at h3
      have : c = c' := Int.ofNat.inj h3
      subst this
      exact hlow ((hc y).2 fun q hq hd => hshr (hy q hq ((hdf q).2 hd))) (by omega)
    · rw [setF_ne e] at h3
      have hx := hne x hR h2 e
      obtain ⟨q, k1, _, k3, _⟩ := hf.lt x (by rw [h3]; omega)
      rw [h3] at k1
      have : c' = q := Int.ofNat.inj k1
      subst this
      exact hlow (hPf.j x c' hR h1 hx h3 y fun q hq hd => hshr (hy q hq ((hdf q).2 hd))) (by omega)
  · have hx' := (hdf x).1 hx
    have ha := hG x d hx' hd
    rcases An_split hf he ha with h | ⟨k1, k2, k3, k4⟩
    · exact h
    · have hpd : An f p d := by
        rcases k4.cases' with e | ⟨_, q, eq, h5⟩
        · exact (k3 e).elim
        · rw [hfb] at eq
          have : p = q := Int.ofNat.inj eq
          subst this
          exact h5
      by_cases hcd : An f c d
      · exact k1.trans (.up hb0 setF_eq (hlow hcd (by omega)))
      · exfalso
        have : ¬ ∀ q, E q b → df f q → An f q d := fun h => hcd ((hc d).2 h)
        simp only [Classical.not_forall] at this
        obtain ⟨q, hq, hdq, hnq⟩ := this
        have hrq : Rc E d q := Classical.byContradiction fun h => hnq (hG q d hdq h)
        have hrb : Rc E d b := .step hrq hq (by omega)
        have hRx : R x := by
          rcases hx' with h | h
          · rw [h]; exact hg.r0
          · exact hf.re h
        rcases dfs_path hg ho (fun b' c' h1 h2 h3 => (hPo (pos b' + 1)).q b' c' h1 (pos_ne hg h1 h2) (by omega) h3) hrb (pos x) x (Nat.le_refl _) hRx (hsub x b k2) with h | h
        · exact hd h
        · have h1 := ho.le h
          have h2 := hf.le hpd
          omega
end
end Go.Proofs.Ytlhlbiaibgmapaa
set_option linter.unusedSimpArgs false
set_option linter.unusedVariables false
namespace Go.Proofs.Ytlhlbiaibgmapaa
section
variable {E : Nat → Nat → Prop} {R : Nat → Prop} {pos t : Nat → Nat}
/-- a step of the first pass -/
theorem step_first (hg : GG E R pos t) {f : Nat → Int} {i b c : Nat} (hf : WF R pos f) (hU : ∀ b, R b → i ≤ pos b → f b = -1) (hPf : Ps E R pos t f i) (hG : Gd E f) (hb : R b) (hb0 : b ≠ 0) (hi : pos b = i) (hc : Nca E f b c) :
    pos c < pos b ∧ WF R pos (setF f b c) ∧ (∀ b', R b' → i + 1 ≤ pos b' → setF f b c b' = -1) ∧ Ps E R pos t (setF f b c) (i + 1) ∧ Gd E (setF f b c) := by
  obtain ⟨ht1, ht2, ht3⟩ := hg.par b hb hb0
  have hpb := pos_ne hg hb hb0
  have hdt := df_t hg hPf hb hb0 (by omega)
  have hcp := (hc c).1 (.self c)
  have hc1 : An f (t b) c := hcp _ ht2 hdt
  have hcl := hf.le hc1
  have hcb : c ≠ b := by rintro rfl; omega
  have hdc : df f c := hf.an hdt hc1
  have hRc : R c := by
    rcases hdc with h | h
    · rw [h]; exact hg.r0
    · exact hf.re h
  have hnb : ¬ df f b := by
    rintro (h | h)
    · exact hb0 h
    · rw [hU b hb (by omega)] at h; omega
  have he : ∀ x, x ≠ b → setF f b c x = f x := fun x h => setF_ne h
  have hfr : ∀ {x y}, df f x → (An f x y ↔ An (setF f b c) x y) := fun hx => An_fresh hf hnb he hx
  have hdf : ∀ x, df f x → df (setF f b c) x := by
    intro x hx
    unfold df at *
    by_cases e : x = b
    · subst e; right; rw [setF_eq]; omega
    · rw [setF_ne e]; exact hx
  have hdb : ∀ x, df (setF f b c) x → x = b ∨ df f x := by
    intro x hx
    by_cases e : x = b
    · exact .inl e
    · unfold df at *; rw [setF_ne e] at hx; exact .inr hx
  have hne : ∀ x, R x → pos x < i + 1 → x ≠ b → pos x < i := fun x hx hlt hxb => by
    have : pos x ≠ pos b := fun e => hxb (hg.inj x b hx hb e)
    omega
  refine ⟨by omega, ⟨fun x hx => ?_, ?_, fun x hx => ?_⟩, fun x hR hx => ?_, ⟨fun x hR h1 h2 => ?_, fun x c' hR h1 h2 h3 => ?_, fun x c' hR h1 h2 h3 y hy => ?_⟩, fun x d hx hd => ?_⟩
  · rw [setF_ne (by rintro rfl; exact hx hb)]; exact hf.un x hx
  · rw [setF_ne (Ne.symm hb0)]; exact hf.z
  · by_cases e : x = b
    · subst e
      exact ⟨c, setF_eq, hRc, by omega, hdf c hdc⟩
    · rw [setF_ne e] at hx ⊢
      obtain ⟨q, k1, k2, k3, k4⟩ := hf.lt x hx
      exact ⟨q, k1, k2, k3, hdf q k4⟩
  · rw [setF_ne (by rintro rfl; omega)]
    exact hU x hR (by omega)
  · by_cases e : x = b
    · subst e; rw [setF_eq]; omega
    · rw [setF_ne e]; exact hPf.d x hR h1 (hne x hR h2 e)
  · by_cases e : x = b
    · subst e
      rw [setF_eq] at h3
      have : c = c' := Int.ofNat.inj h3
      subst this
      exact (hfr hdt).1 hc1
    · rw [setF_ne e] at h3
      have hx := hne x hR h2 e
      have hx0 : x ≠ 0 := by rintro rfl; rw [hg.p0] at h1; omega
      exact (hfr (df_t hg hPf hR hx0 (by omega))).1 (hPf.q x c' hR h1 hx h3)
  · by_cases e : x = b
    · subst e
      rw [setF_eq] at h3
      have : c = c' := Int.ofNat.inj h3
      subst this
      exact (hfr hdc).1 ((hc y).2 fun q hq hd => (hfr hd).2 (hy q hq (hdf q hd)))
    · rw [setF_ne e] at h3
      have hx := hne x hR h2 e
      obtain ⟨q, k1, _, k3, k4⟩ := hf.lt x (by rw [h3]; omega)
      rw [h3] at k1
      have : c' = q := Int.ofNat.inj k1
      subst this
      exact (hfr k4).1 (hPf.j x c' hR h1 hx h3 y fun q hq hd => (hfr hd).2 (hy q hq (hdf q hd)))
  · rcases hdb x hx with rfl | hx'
    · by_cases e : d = x
      · subst e; exact .self _
      · refine .up hb0 setF_eq ((hfr hdc).1 ((hc d).2 fun q hq hdq => hG q d hdq fun h => hd (.step h hq (by omega))))
    · exact (hfr hx').1 (hG x d hx' hd)
/-- the tree at the beginning -/
theorem init_first (hg : GG E R pos t) : WF R pos (fun _ => -1) ∧ Ps E R pos t (fun _ => -1) 1 ∧ Gd E (fun _ => -1) := by
  refine ⟨⟨fun _ _ => rfl, rfl, fun b h => by simp at h⟩, ⟨fun b _ h1 h2 => by omega, fun b c _ h1 h2 => by omega, fun b c _ h1 h2 => by omega⟩, fun b d hb hd => ?_⟩
  rcases hb with rfl | h
  · by_cases e : d = 0
    · subst e; exact .self _
    · exact (hd (.base (by omega))).elim
  · simp at h
/-- a later pass's beginning -/
theorem init_later (hg : GG E R pos t) {o : Nat → Int} : P1 R pos o o 1 := ⟨fun _ _ => rfl, fun b c p _ h1 h2 => by omega⟩
theorem Ps.cut {f : Nat → Int} {i m : Nat} (h : Ps E R pos t f i) (hm : m ≤ i) : Ps E R pos t f m :=
  ⟨fun b hR h1 h2 => h.d b hR h1 (by omega), fun b c hR h1 h2 => h.q b c hR h1 (by omega), fun b c hR h1 h2 => h.j b c hR h1 (by omega)⟩
theorem Ps.all {f : Nat → Int} {i : Nat} (h : Ps E R pos t f i) (hi : ∀ b, R b → pos b < i) (m : Nat) : Ps E R pos t f m :=
  ⟨fun b hR h1 _ => h.d b hR h1 (hi b hR), fun b c hR h1 _ => h.q b c hR h1 (hi b hR), fun b c hR h1 _ => h.j b c hR h1 (hi b hR)⟩
/-- where nothing changes the tree tells the dominators -/
theorem dom_of_fix (hg : GG E R pos t) {f : Nat → Int} (hf : WF R pos f) (hall : ∀ b, R b → b ≠ 0 → 0 ≤ f b) (hG : Gd E f) (hfix : ∀ b c : Nat, R b → b ≠ 0 → f b = c → Nca E f b c) {x d : Nat} (hx : R x) : An f x d ↔ ¬ Rc E d x := by
  have hdf : ∀ b, R b → df f b := fun b hb => by
    by_cases e : b = 0
    · exact .inl e
    · exact .inr (hall b hb e)
  constructor
  · intro ha hr
    have hR : ∀ y, Rc E d y → R y := fun y hy => by
      induction hy with
      | base => exact hg.r0
      | step _ h2 _ ih => exact hg.clo _ _ ih h2
    induction hr with
    | base h => exact h (by rw [ha.zero]; rfl)
    | @step p b h1 h2 h3 ih =>
      have hRp := hR p h1
      rcases ha.cases' with e | ⟨hb0, q, eq, h5⟩
      · exact h3 (by rw [e])
      · have := ((hfix b q (hg.clo _ _ hRp h2) hb0 eq) d).1 h5 p h2 (hdf p hRp)
        exact ih hRp this
  · intro h
    exact hG x d (hdf x hx) h
/-- the measure -/
def mval (n : Nat) (pos : Nat → Nat) (v : Int) : Nat := if v < 0 then n else pos v.toNat
def mu (n : Nat) (pos : Nat → Nat) (f : Nat → Int) (l : List Nat) : Nat := (l.map fun b => mval n pos (f b)).sum
theorem mu_notin {n : Nat} {f : Nat → Int} {b c : Nat} : ∀ {l : List Nat}, b ∉ l → mu n pos (setF f b c) l = mu n pos f l
  | [], _ => rfl
  | a :: l, h => by
    have h1 : a ≠ b := fun e => h (by simp [e])
    have h2 : b ∉ l := fun e => h (by simp [e])
    have := mu_notin (n := n) (f := f) (c := c) h2
    unfold mu at *
    rw [List.map_cons, List.map_cons, List.sum_cons, List.sum_cons, this, setF_ne h1]
theorem mu_set {n : Nat} {f : Nat → Int} {b c : Nat} : ∀ {l : List Nat}, l.Nodup → b ∈ l → mu n pos (setF f b c) l + mval n pos (f b) = mu n pos f l + pos c
  | [], _, h => by simp at h
  | a :: l, hn, h => by
    rw [List.nodup_cons] at hn
    unfold mu
    rw [List.map_cons, List.map_cons, List.sum_cons, List.sum_cons]
    by_cases e : a = b
    · subst e
      have := mu_notin (n := n) (pos := pos) (f := f) (c := c) hn.1
      unfold mu at this
      rw [this, setF_eq]
      have hv : mval n pos (c : Int) = pos c := by unfold mval; rw [if_neg (by omega)]; simp
      rw [hv]
      omega
    · have hm : b ∈ l := by
        rcases List.mem_cons.1 h with h | h
        · exact (e h.symm).elim
        · exact h
      have := mu_set (n := n) (f := f) (c := c) hn.2 hm
      unfold mu at this
      rw [setF_ne e]
      omega
end
end Go.Proofs.Ytlhlbiaibgmapaa
set_option linter.unusedSimpArgs false
set_option linter.unusedVariables false
namespace Go.Proofs.Ytlhlbiaibgmapaa
/-- successors in range -/
def NOk (N : List (List Int)) : Prop := ∀ l ∈ N, ∀ m ∈ l, 0 ≤ m ∧ m < N.length
def sc (N : List (List Int)) (b : Nat) : List Int := N.getD b []
theorem NOk.sc {N : List (List Int)} (h : NOk N) {b : Nat} {m : Int} (hm : m ∈ sc N b) : 0 ≤ m ∧ m.toNat < N.length := by
  unfold Go.Proofs.Ytlhlbiaibgmapaa.sc at hm
  by_cases hb : b < N.length
  · rw [List.getD_eq_getElem?_getD, List.getElem?_eq_getElem hb] at hm
    have := h _ (List.getElem_mem hb) m hm
    omega
  · rw [List.getD_eq_getElem?_getD, List.getElem?_eq_none (by omega)] at hm
    simp at hm
def setS (S : Nat → Bool) (b : Nat) : Nat → Bool := fun i => if i = b then true else S i
/-- a visit: what is seen, and the blocks in the order in which they are left -/
def vis (N : List (List Int)) : Nat → (Nat → Bool) → List Int → Nat → (Nat → Bool) × List Int
  | 0, S, out, _ => (S, out)
  | k + 1, S, out, b =>
    let r := (sc N b).foldl (fun s n => if s.1 n.toNat = true then s else vis N k s.1 s.2 n.toNat) (setS S b, out)
    (r.1, r.2 ++ [(b : Int)])
def visL (N : List (List Int)) (k : Nat) (s : (Nat → Bool) × List Int) (l : List Int) : (Nat → Bool) × List Int := l.foldl (fun s n => if s.1 n.toNat = true then s else vis N k s.1 s.2 n.toNat) s
theorem vis_succ (N : List (List Int)) (k : Nat) (S : Nat → Bool) (out : List Int) (b : Nat) : vis N (k + 1) S out b = ((visL N k (setS S b, out) (sc N b)).1, (visL N k (setS S b, out) (sc N b)).2 ++ [(b : Int)]) := rfl
theorem visL_snoc (N : List (List Int)) (k : Nat) (s : (Nat → Bool) × List Int) (l : List Int) (n : Int) : visL N k s (l ++ [n]) = if (visL N k s l).1 n.toNat = true then visL N k s l else vis N k (visL N k s l).1 (visL N k s l).2 n.toNat := by
  unfold visL
  rw [List.foldl_append]
  rfl
theorem visL_cons (N : List (List Int)) (k : Nat) (s : (Nat → Bool) × List Int) (l : List Int) (n : Int) : visL N k s (n :: l) = visL N k (if s.1 n.toNat = true then s else vis N k s.1 s.2 n.toNat) l := rfl
/-- how many are not seen -/
def uns (n : Nat) (S : Nat → Bool) : Nat := ((List.range n).filter fun i => !S i).length
theorem uns_mono {n : Nat} {S S' : Nat → Bool} (h : ∀ i, S i = true → S' i = true) : uns n S' ≤ uns n S := by
  unfold uns
  rw [← List.countP_eq_length_filter, ← List.countP_eq_length_filter]
  refine List.countP_mono_left fun m _ hm => ?_
  simp only [Bool.not_eq_true'] at hm ⊢
  cases e : S m with
  | false => rfl
  | true => rw [h m e] at hm; cases hm
theorem uns_set {n : Nat} {S : Nat → Bool} {b : Nat} (hb : b < n) (hS : S b = false) : uns n (setS S b) + 1 ≤ uns n S := by
  have h1 : ((List.range n).filter fun i => !setS S b i).Sublist ((List.range n).filter fun i => !S i) := by
    have : ((List.range n).filter fun i => !setS S b i) = ((List.range n).filter fun i => !S i).filter fun i => decide (i ≠ b) := by
      rw [List.filter_filter]
      refine List.filter_congr fun i _ => ?_
      unfold setS
      by_cases e : i = b <;> simp [e]
    rw [this]
    exact List.filter_sublist
  have hb1 : b ∈ (List.range n).filter fun i => !S i := by
    rw [List.mem_filter]; exact ⟨List.mem_range.2 hb, by simp [hS]⟩
  have hb2 : b ∉ (List.range n).filter fun i => !setS S b i := by
    rw [List.mem_filter]
    rintro ⟨_, h⟩
    simp [setS] at h
  unfold uns
  apply Nat.lt_of_le_of_ne h1.length_le
  intro e
  have := h1.eq_of_length e
  rw [this] at hb2
  exact hb2 hb1
theorem uns_pos {n : Nat} {S : Nat → Bool} {b : Nat} (hb : b < n) (hS : S b = false) : 1 ≤ uns n S := by
  have := uns_set hb hS
  omega
/-- what a stretch of the search does -/
structure Seg (N : List (List Int)) (S S' : Nat → Bool) (top : List Int) (seg : List Int) : Prop where
  rng : ∀ x ∈ seg, 0 ≤ x ∧ x.toNat < N.length ∧ S x.toNat = false
  seen : ∀ i : Nat, S' i = true ↔ S i = true ∨ (i : Int) ∈ seg
  nodup : seg.Nodup
  par : ∀ A x C, seg = A ++ x :: C → x ∈ top ∨ ∃ y ∈ C, x ∈ sc N y.toNat
theorem Seg.nil (N : List (List Int)) (S : Nat → Bool) (top : List Int) : Seg N S S top [] := ⟨by simp, by simp, by simp, fun A x C h => by simp at h⟩
theorem Seg.mono {N : List (List Int)} {S S' : Nat → Bool} {top top' seg : List Int} (h : Seg N S S' top seg) (ht : ∀ x ∈ top, x ∈ top') : Seg N S S' top' seg :=
  ⟨h.rng, h.seen, h.nodup, fun A x C e => (h.par A x C e).imp (ht x) id⟩
theorem Seg.le {N : List (List Int)} {S S' : Nat → Bool} {top seg : List Int} (h : Seg N S S' top seg) : ∀ i, S i = true → S' i = true := fun i hi => (h.seen i).2 (.inl hi)
theorem Seg.trans {N : List (List Int)} {S S' S'' : Nat → Bool} {top seg seg' : List Int} (h : Seg N S S' top seg) (k : Seg N S' S'' top seg') : Seg N S S'' top (seg ++ seg') := by
  refine ⟨fun x hx => ?_, fun i => ?_, ?_, fun A x C e => ?_⟩
  · rcases List.mem_append.1 hx with hx | hx
    · exact h.rng x hx
    · obtain ⟨q1, q2, q3⟩ := k.rng x hx
      refine ⟨q1, q2, ?_⟩
      cases e : S x.toNat with
      | false => rfl
      | true => rw [h.le _ e] at q3; cases q3
  · rw [k.seen, h.seen, List.mem_append]
    exact or_assoc
  · rw [List.nodup_append]
    refine ⟨h.nodup, k.nodup, fun a ha b hb e => ?_⟩
    subst e
    obtain ⟨q1, q2, q3⟩ := k.rng a hb
    have := (h.seen a.toNat).2 (.inr (by rw [Int.toNat_of_nonneg q1]; exact ha))
    rw [this] at q3
    cases q3
  · rw [List.append_eq_append_iff] at e
    rcases e with ⟨D, e1, e2⟩ | ⟨D, e1, e2⟩
    · exact k.par D x C e2
    · cases D with
      | nil =>
        simp only [List.nil_append] at e2
        exact k.par [] x C (by simp [e2])
      | cons z D =>
        simp only [List.cons_append, List.cons.injEq] at e2
        obtain ⟨rfl, rfl⟩ := e2
        rcases h.par A x D e1 with q | ⟨y, hy, q⟩
        · exact .inl q
        · exact .inr ⟨y, by simp [hy], q⟩
theorem Seg.len {N : List (List Int)} {S S' : Nat → Bool} {top seg : List Int} (h : Seg N S S' top seg) : seg.length + uns N.length S' ≤ uns N.length S := by
  have hnd : (seg ++ ((List.range N.length).filter fun i => !S' i).map Int.ofNat).Nodup := by
    rw [List.nodup_append]
    refine ⟨h.nodup, ?_, fun a ha b hb e => ?_⟩
    · unfold List.Nodup
      rw [List.pairwise_map]
      refine (List.nodup_range.filter _).imp ?_
      intro a b hab e
      exact hab (Int.ofNat.inj e)
    · subst e
      obtain ⟨i, hi, rfl⟩ := List.mem_map.1 hb
      rw [List.mem_filter] at hi
      have := (h.seen i).2 (.inr ha)
      simp [this] at hi
  have hsub : ∀ x ∈ seg ++ ((List.range N.length).filter fun i => !S' i).map Int.ofNat, x ∈ ((List.range N.length).filter fun i => !S i).map Int.ofNat := by
    intro x hx
    rcases List.mem_append.1 hx with hx | hx
    · obtain ⟨q1, q2, q3⟩ := h.rng x hx
      exact List.mem_map.2 ⟨x.toNat, List.mem_filter.2 ⟨List.mem_range.2 q2, by simp [q3]⟩, by simp only [Int.ofNat_eq_natCast]; omega⟩
    · obtain ⟨i, hi, rfl⟩ := List.mem_map.1 hx
      rw [List.mem_filter] at hi
      refine List.mem_map.2 ⟨i, List.mem_filter.2 ⟨hi.1, ?_⟩, rfl⟩
      cases e : S i with
      | false => rfl
      | true => rw [h.le i e] at hi; simp at hi
  have := List.Nodup.length_le_of_subset hnd hsub
  rw [List.length_append, List.length_map, List.length_map] at this
  exact this
/-- all successors of what has been left are seen -/
def Clo (N : List (List Int)) (S' : Nat → Bool) (seg : List Int) : Prop := ∀ x ∈ seg, ∀ m ∈ sc N x.toNat, S' m.toNat = true
theorem Clo.mono {N : List (List Int)} {S S' : Nat → Bool} {seg : List Int} (h : Clo N S seg) (hl : ∀ i, S i = true → S' i = true) : Clo N S' seg := fun x hx m hm => hl _ (h x hx m hm)
theorem vis_spec {N : List (List Int)} (hN : NOk N) : ∀ (k : Nat), (∀ (S : Nat → Bool) (out : List Int) (b : Nat), b < N.length → S b = false → uns N.length S ≤ k →
    ∃ seg, (vis N k S out b).2 = out ++ seg ∧ (∃ s', seg = s' ++ [(b : Int)]) ∧ Seg N S (vis N k S out b).1 [(b : Int)] seg ∧ Clo N (vis N k S out b).1 seg) ∧
    ∀ (l : List Int) (S : Nat → Bool) (out : List Int), (∀ m ∈ l, 0 ≤ m ∧ m.toNat < N.length) → uns N.length S ≤ k →
      ∃ seg, (visL N k (S, out) l).2 = out ++ seg ∧ Seg N S (visL N k (S, out) l).1 l seg ∧ Clo N (visL N k (S, out) l).1 seg ∧ ∀ m ∈ l, (visL N k (S, out) l).1 m.toNat = true := by
  intro k
  induction k with
  | zero =>
    have hv : ∀ (S : Nat → Bool) (b : Nat), b < N.length → S b = false → uns N.length S ≤ 0 → False := fun S b hb hS h => by have := uns_pos hb hS; omega
    refine ⟨fun S out b hb hS h => (hv S b hb hS h).elim, fun l => ?_⟩
    induction l with
    | nil => intro S out _ _; exact ⟨[], by simp [visL], Seg.nil N S [], fun x hx => by simp at hx, by simp⟩
    | cons n l ih =>
      intro S out hl hu
      obtain ⟨h1, h2⟩ := hl n (by simp)
      cases hS : S n.toNat with
      | false => exact (hv S _ h2 hS hu).elim
      | true =>
        rw [visL_cons, if_pos hS]
        obtain ⟨seg, q1, q2, q3, q4⟩ := ih S out (fun m hm => hl m (by simp [hm])) hu
        refine ⟨seg, q1, q2.mono (fun x hx => List.mem_cons_of_mem _ hx), q3, fun m hm => ?_⟩
        rcases List.mem_cons.1 hm with rfl | hm
        · exact q2.le _ hS
        · exact q4 m hm
  | succ k ih =>
    have hvis : ∀ (S : Nat → Bool) (out : List Int) (b : Nat), b < N.length → S b = false → uns N.length S ≤ k + 1 →
        ∃ seg, (vis N (k + 1) S out b).2 = out ++ seg ∧ (∃ s', seg = s' ++ [(b : Int)]) ∧ Seg N S (vis N (k + 1) S out b).1 [(b : Int)] seg ∧ Clo N (vis N (k + 1) S out b).1 seg := by
      intro S out b hb hS hu
      have h1 := uns_set hb hS
      obtain ⟨seg, q1, q2, q3, q4⟩ := ih.2 (sc N b) (setS S b) out (fun m hm => hN.sc hm) (by omega)
      rw [vis_succ]
      simp only []
      generalize visL N k (setS S b, out) (sc N b) = r at *
      have hbs : (b : Int) ∉ seg := fun h => by
        have := (q2.rng _ h).2.2
        simp [setS] at this
      refine ⟨seg ++ [(b : Int)], by rw [q1]; simp, ⟨seg, rfl⟩, ⟨fun x hx => ?_, fun i => ?_, ?_, fun A x C e => ?_⟩, fun x hx m hm => ?_⟩
      · rcases List.mem_append.1 hx with hx | hx
        · obtain ⟨k1, k2, k3⟩ := q2.rng x hx
          refine ⟨k1, k2, ?_⟩
          unfold setS at k3
          split at k3
          · cases k3
          · exact k3
        · simp only [List.mem_singleton] at hx
          subst hx
          exact ⟨by omega, by simpa using hb, by simpa using hS⟩
      · rw [q2.seen, List.mem_append, List.mem_singleton]
        unfold setS
        by_cases e : i = b
        · subst e; simp
        · simp only [e, if_false]
          have : ¬ ((i : Int) = (b : Int)) := by omega
          simp [this]
      · rw [List.nodup_append]
        refine ⟨q2.nodup, by simp, fun a ha c hc e => ?_⟩
        simp only [List.mem_singleton] at hc
        subst hc e
        exact hbs ha
      · by_cases hC : C = []
        · subst hC
          have := List.append_inj' e rfl
          simp only [List.cons.injEq, and_true] at this
          left
          simp [this.2]
        · obtain ⟨C', z, rfl⟩ : ∃ C' z, C = C' ++ [z] := ⟨C.dropLast, C.getLast hC, (List.dropLast_concat_getLast hC).symm⟩
          rw [← List.cons_append, ← List.append_assoc] at e
          obtain ⟨e1, e2⟩ := List.append_inj' e rfl
          simp only [List.cons.injEq, and_true] at e2
          subst e2
          right
          rcases q2.par A x C' e1 with q | ⟨y, hy, q⟩
          · exact ⟨b, by simp, by simpa using q⟩
          · exact ⟨y, by simp [hy], q⟩
      · rcases List.mem_append.1 hx with hx | hx
        · exact q3 x hx m hm
        · simp only [List.mem_singleton] at hx
          subst hx
          exact q4 m (by simpa using hm)
    refine ⟨hvis, fun l => ?_⟩
    induction l with
    | nil => intro S out _ _; exact ⟨[], by simp [visL], Seg.nil N S [], fun x hx => by simp at hx, by simp⟩
    | cons n l ih2 =>
      intro S out hl hu
      obtain ⟨h1, h2⟩ := hl n (by simp)
      rw [visL_cons]
      cases hS : S n.toNat with
      | true =>
        rw [if_pos (show (S, out).1 n.toNat = true from hS)]
        obtain ⟨seg, q1, q2, q3, q4⟩ := ih2 S out (fun m hm => hl m (by simp [hm])) hu
        refine ⟨seg, q1, q2.mono (fun x hx => List.mem_cons_of_mem _ hx), q3, fun m hm => ?_⟩
        rcases List.mem_cons.1 hm with rfl | hm
        · exact q2.le _ hS
        · exact q4 m hm
      | false =>
        rw [if_neg (show ¬ (S, out).1 n.toNat = true by simp [hS])]
        obtain ⟨seg, q1, ⟨s', q2⟩, q3, q4⟩ := hvis S out n.toNat h2 hS hu
        have hle := uns_mono (n := N.length) q3.le
        obtain ⟨seg2, p1, p2, p3, p4⟩ := ih2 (vis N (k + 1) S out n.toNat).1 (vis N (k + 1) S out n.toNat).2 (fun m hm => hl m (by simp [hm])) (by omega)
        have hn : ((n.toNat : Nat) : Int) = n := by omega
        refine ⟨seg ++ seg2, ?_, (q3.mono (by simp [hn])).trans (p2.mono (fun x hx => List.mem_cons_of_mem _ hx)), ?_, fun m hm => ?_⟩
        · rw [p1, q1, List.append_assoc]
        · intro x hx m hm
          rcases List.mem_append.1 hx with hx | hx
          · exact p2.le _ (q4 x hx m hm)
          · exact p3 x hx m hm
        · rcases List.mem_cons.1 hm with rfl | hm
          · apply p2.le
            rw [q3.seen]
            right
            rw [q2]
            exact List.mem_append.2 (.inr (List.mem_singleton.2 rfl))
          · exact p4 m hm
end Go.Proofs.Ytlhlbiaibgmapaa
