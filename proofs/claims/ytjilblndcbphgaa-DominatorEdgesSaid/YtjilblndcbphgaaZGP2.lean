/-
  Plain: the iteration that finds the immediate dominators.
-/
import Derived.Test.YtjilblndcbphgaaZV15
set_option linter.unusedSimpArgs false
set_option linter.unusedVariables false
namespace Go.Proofs.Ytjilblndcbphgaa
/-- x is reached from 0 without d -/
inductive Rc (E : Nat → Nat → Prop) (d : Int) : Nat → Prop
  | base : (0 : Int) ≠ d → Rc E d 0
  | step {p b : Nat} : Rc E d p → E p b → (b : Int) ≠ d → Rc E d b
/-- y lies on the way up from x -/
inductive An (f : Nat → Int) : Nat → Nat → Prop
  | self (x : Nat) : An f x x
  | up {x p y : Nat} : x ≠ 0 → f x = p → An f p y → An f x y
theorem An.trans {f : Nat → Int} {x y z : Nat} (h : An f x y) (k : An f y z) : An f x z := by
  induction h with
  | self => exact k
  | up h1 h2 _ ih => exact .up h1 h2 (ih k)
theorem An.cases' {f : Nat → Int} {x y : Nat} (h : An f x y) : y = x ∨ (x ≠ 0 ∧ ∃ p : Nat, f x = p ∧ An f p y) := by
  cases h with
  | self => exact .inl rfl
  | up h1 h2 h3 => exact .inr ⟨h1, _, h2, h3⟩
theorem An.zero {f : Nat → Int} {y : Nat} (h : An f 0 y) : y = 0 := by
  rcases h.cases' with h | ⟨h, _⟩
  · exact h
  · exact (h rfl).elim
/-- the graph, its order, and the parents of the search -/
structure GG (E : Nat → Nat → Prop) (R : Nat → Prop) (pos : Nat → Nat) (t : Nat → Nat) : Prop where
  r0 : R 0
  p0 : pos 0 = 0
  inj : ∀ a b, R a → R b → pos a = pos b → a = b
  clo : ∀ p b, R p → E p b → R b
  par : ∀ b, R b → b ≠ 0 → R (t b) ∧ E (t b) b ∧ pos (t b) < pos b
/-- the block has a place in the tree -/
def df (f : Nat → Int) (b : Nat) : Prop := b = 0 ∨ 0 ≤ f b
structure WF (R : Nat → Prop) (pos : Nat → Nat) (f : Nat → Int) : Prop where
  un : ∀ b, ¬ R b → f b = -1
  z : f 0 = -1
  lt : ∀ b, 0 ≤ f b → ∃ p : Nat, f b = p ∧ R p ∧ pos p < pos b ∧ df f p
section
variable {E : Nat → Nat → Prop} {R : Nat → Prop} {pos t : Nat → Nat}
theorem WF.re {f : Nat → Int} (h : WF R pos f) {b : Nat} (hb : 0 ≤ f b) : R b := by
  apply Classical.byContradiction
  intro hn
  rw [h.un b hn] at hb
  omega
theorem WF.po {f : Nat → Int} (h : WF R pos f) {x y : Nat} (ha : An f x y) : y = x ∨ pos y < pos x := by
  induction ha with
  | self => exact .inl rfl
  | up h1 h2 _ ih =>
    right
    obtain ⟨p, e, _, hlt, _⟩ := h.lt _ (by rw [h2]; omega)
    rw [h2] at e
    have : p = _ := (Int.ofNat.inj e).symm
    subst this
    rcases ih with rfl | ih
    · exact hlt
    · omega
theorem WF.le {f : Nat → Int} (h : WF R pos f) {x y : Nat} (ha : An f x y) : pos y ≤ pos x := by
  rcases h.po ha with rfl | h
  · exact Nat.le_refl _
  · omega
theorem WF.an {f : Nat → Int} (h : WF R pos f) {x y : Nat} (hx : df f x) (ha : An f x y) : df f y := by
  induction ha with
  | self => exact hx
  | up h1 h2 _ ih =>
    obtain ⟨p, e, _, _, hd⟩ := h.lt _ (by rw [h2]; omega)
    rw [h2] at e
    have : p = _ := (Int.ofNat.inj e).symm
    subst this
    exact ih hd
/-- the way up from a block below b does not see b -/
theorem An_lt {f f' : Nat → Int} {b : Nat} (hf : WF R pos f) (he : ∀ x, x ≠ b → f' x = f x) {x y : Nat} (ha : An f x y) : pos x < pos b → An f' x y := by
  induction ha with
  | self => intro _; exact .self _
  | @up x p y h1 h2 h3 ih =>
    intro hx
    have hp : pos p < pos x := by
      obtain ⟨p', e, _, hlt, _⟩ := hf.lt x (by rw [h2]; omega)
      rw [h2] at e
      have : p' = p := (Int.ofNat.inj e).symm
      subst this
      exact hlt
    refine .up h1 ?_ (ih (by omega))
    rw [he x (by rintro rfl; omega)]
    exact h2
/-- the block's parent moves up: all ways shrink -/
theorem An_shrink {f f' : Nat → Int} {b c : Nat} (hb0 : b ≠ 0) (he : ∀ x, x ≠ b → f' x = f x) (hc : f' b = c) {o : Nat} (ho : f b = o) (hu : An f o c) {x y : Nat} (ha : An f' x y) : An f x y := by
  induction ha with
  | self => exact .self _
  | @up x p y h1 h2 h3 ih =>
    by_cases e : x = b
    · subst e
      rw [hc] at h2
      have : p = c := (Int.ofNat.inj h2).symm
      subst this
      exact .up h1 ho (hu.trans ih)
    · rw [he x e] at h2
      exact .up h1 h2 ih
/-- a block that had no place gets one: the others' ways stay -/
theorem An_fresh {f f' : Nat → Int} {b : Nat} (hf : WF R pos f) (hb : ¬ df f b) (he : ∀ x, x ≠ b → f' x = f x) {x y : Nat} (hx : df f x) : An f x y ↔ An f' x y := by
  constructor
  · intro ha
    induction ha with
    | self => exact .self _
    | @up x p y h1 h2 h3 ih =>
      obtain ⟨p', e, _, _, hd⟩ := hf.lt x (by rw [h2]; omega)
      rw [h2] at e
      have : p' = p := (Int.ofNat.inj e).symm
      subst this
      exact .up h1 (by rw [he x (by rintro rfl; exact hb hx)]; exact h2) (ih hd)
  · intro ha
    induction ha with
    | self => exact .self _
    | @up x p y h1 h2 h3 ih =>
      rw [he x (by rintro rfl; exact hb hx)] at h2
      obtain ⟨p', e, _, _, hd⟩ := hf.lt x (by rw [h2]; omega)
      rw [h2] at e
      have : p' = p := (Int.ofNat.inj e).symm
      subst this
      exact .up h1 h2 (ih hd)
/-- one step of the search for the nearest common ancestor -/
theorem nca_step {f : Nat → Int} (hf : WF R pos f) {a b p : Nat} (hlt : pos b < pos a) (ha0 : a ≠ 0) (ha : f a = p) (x : Nat) : (An f a x ∧ An f b x) ↔ (An f p x ∧ An f b x) := by
  constructor
  · rintro ⟨h1, h2⟩
    rcases h1.cases' with rfl | ⟨_, p', e, h3⟩
    · have := hf.le h2; omega
    · rw [ha] at e
      have : p = p' := Int.ofNat.inj e
      subst this
      exact ⟨h3, h2⟩
  · rintro ⟨h1, h2⟩
    exact ⟨.up ha0 ha h1, h2⟩
/-- c is the nearest common ancestor of the predecessors that have a place -/
def Nca (E : Nat → Nat → Prop) (f : Nat → Int) (b c : Nat) : Prop := ∀ x, An f c x ↔ ∀ p, E p b → df f p → An f p x
/-- what holds behind a pass, of all blocks up to a place -/
structure Ps (E : Nat → Nat → Prop) (R : Nat → Prop) (pos t : Nat → Nat) (f : Nat → Int) (i : Nat) : Prop where
  d : ∀ b, R b → 0 < pos b → pos b < i → 0 ≤ f b
  q : ∀ b c : Nat, R b → 0 < pos b → pos b < i → f b = c → An f (t b) c
  j : ∀ b c : Nat, R b → 0 < pos b → pos b < i → f b = c → ∀ x, (∀ p, E p b → df f p → An f p x) → An f c x
/-- dominators are on the way up -/
def Gd (E : Nat → Nat → Prop) (f : Nat → Int) : Prop := ∀ (b d : Nat), df f b → ¬ Rc E d b → An f b d
/-- later passes: o is the tree ahead of the pass, all blocks in it -/
structure P1 (R : Nat → Prop) (pos : Nat → Nat) (o f : Nat → Int) (i : Nat) : Prop where
  e : ∀ b, (R b → i ≤ pos b ∨ b = 0) → f b = o b
  u : ∀ b c p : Nat, R b → 0 < pos b → pos b < i → f b = c → o b = p → An f p c
theorem P1.sub {o f : Nat → Int} {i : Nat} (ho : WF R pos o) (hf : WF R pos f) (hall : ∀ b, R b → b ≠ 0 → 0 ≤ o b) (h : P1 R pos o f i) : ∀ (k x y : Nat), pos x ≤ k → An f x y → An o x y := by
  intro k
  induction k with
  | zero =>
    intro x y hx ha
    rcases hf.po ha with rfl | h
    · exact .self _
    · omega
  | succ k ih =>
    intro x y hx ha
    rcases ha.cases' with rfl | ⟨hx0, p, e, h3⟩
    · exact .self _
    · have hRx := hf.re (b := x) (by rw [e]; omega)
      obtain ⟨p', e', hRp, hlt, _⟩ := hf.lt x (by rw [e]; omega)
      rw [e] at e'
      have : p = p' := Int.ofNat.inj e'
      subst this
      obtain ⟨q, eq, hRq, hlq, _⟩ := ho.lt x (hall x hRx hx0)
      by_cases hi : pos x < i
      · have := h.u x p q hRx (by omega) hi e eq
        exact .up hx0 eq (ih q y (by omega) (this.trans h3))
      · have := h.e x (fun _ => .inl (by omega))
        rw [e, eq] at this
        have : p = q := Int.ofNat.inj this
        subst this
        exact .up hx0 eq (ih p y (by omega) h3)
/-- along the old way -/
theorem P1.chain {o f : Nat → Int} {i : Nat} (ho : WF R pos o) (hf : WF R pos f) (h : P1 R pos o f i) {s u : Nat} (ha : An o s u) : pos s < i → ∀ c, An f s c → An f u c ∨ pos u < pos c := by
  induction ha with
  | self => intro _ c hc; exact .inl hc
  | @up s p u h1 h2 h3 ih =>
    intro hs c hc
    obtain ⟨p', e', _, hlt, _⟩ := ho.lt s (by rw [h2]; omega)
    rw [h2] at e'
    have : p' = p := (Int.ofNat.inj e').symm
    subst this
    rcases hc.cases' with rfl | ⟨_, q, e, h5⟩
    · right
      have := ho.le h3
      omega
    · have hRs := ho.re (b := s) (by rw [h2]; omega)
      exact ih (by omega) c ((h.u s q p' hRs (by omega) hs e h2).trans h5)
end
end Go.Proofs.Ytjilblndcbphgaa
