/-
  Plain: one step of the iteration keeps what holds.
-/
import Derived.Test.YtjilblndcbphgaaZGP2
set_option linter.unusedSimpArgs false
set_option linter.unusedVariables false
namespace Go.Proofs.Ytjilblndcbphgaa
def setF (f : Nat → Int) (b c : Nat) : Nat → Int := fun x => if x = b then (c : Int) else f x
theorem setF_ne {f : Nat → Int} {b c x : Nat} (h : x ≠ b) : setF f b c x = f x := by simp [setF, h]
theorem setF_eq {f : Nat → Int} {b c : Nat} : setF f b c b = c := by simp [setF]
section
variable {E : Nat → Nat → Prop} {R : Nat → Prop} {pos t : Nat → Nat}
theorem An_split {f f' : Nat → Int} {b : Nat} (hf : WF R pos f) (he : ∀ x, x ≠ b → f' x = f x) {x d : Nat} (ha : An f x d) : An f' x d ∨ (An f' x b ∧ An f x b ∧ d ≠ b ∧ An f b d) := by
  induction ha with
  | self => exact .inl (.self _)
  | @up x p d h1 h2 h3 ih =>
    by_cases e : x = b
    · subst e
      right
      refine ⟨.self _, .self _, ?_, .up h1 h2 h3⟩
      rintro rfl
      obtain ⟨p', e', _, hlt, _⟩ := hf.lt d (by rw [h2]; omega)
      rw [h2] at e'
      have : p' = p := (Int.ofNat.inj e').symm
      subst this
      have := hf.le h3
      omega
    · rcases ih with h | ⟨k1, k2, k3, k4⟩
      · exact .inl (.up h1 (by rw [he x e]; exact h2) h)
      · exact .inr ⟨.up h1 (by rw [he x e]; exact h2) k1, .up h1 h2 k2, k3, k4⟩
theorem pos_ne {E : Nat → Nat → Prop} (hg : GG E R pos t) {b : Nat} (hb : R b) (h : b ≠ 0) : 0 < pos b := by
  apply Nat.pos_of_ne_zero
  intro e
  exact h (hg.inj b 0 hb hg.r0 (by rw [e, hg.p0]))
theorem df_t (hg : GG E R pos t) {f : Nat → Int} {i : Nat} (hP : Ps E R pos t f i) {b : Nat} (hb : R b) (hb0 : b ≠ 0) (hi : pos b ≤ i) : df f (t b) := by
  obtain ⟨h1, h2, h3⟩ := hg.par b hb hb0
  by_cases e : t b = 0
  · exact .inl e
  · exact .inr (hP.d _ h1 (pos_ne hg h1 e) (by omega))
theorem dfs_path (hg : GG E R pos t) {o : Nat → Int} (ho : WF R pos o) (hQ : ∀ b c : Nat, R b → b ≠ 0 → o b = c → An o (t b) c) {d b : Nat} (hb : Rc E d b) : ∀ (k x : Nat), pos x ≤ k → R x → An o x b → Rc E d x ∨ An o d b := by
  intro k
  induction k with
  | zero =>
    intro x hx hR ha
    rcases ho.po ha with rfl | h
    · exact .inl hb
    · omega
  | succ k ih =>
    intro x hx hR ha
    by_cases hxd : x = d
    · subst hxd; exact .inr ha
    rcases ha.cases' with rfl | ⟨hx0, p, e, h3⟩
    · exact .inl hb
    · obtain ⟨h1, h2, h4⟩ := hg.par x hR hx0
      rcases ih (t x) (by omega) h1 ((hQ x p hR hx0 e).trans h3) with h | h
      · exact .inl (.step h h2 (by omega))
      · exact .inr h
/-- a step of a later pass -/
theorem step_later (hg : GG E R pos t) {o f : Nat → Int} {i b c : Nat} (ho : WF R pos o) (hf : WF R pos f) (hall : ∀ b, R b → b ≠ 0 → 0 ≤ o b) (hPo : ∀ m, Ps E R pos t o m) (hP : P1 R pos o f i) (hPf : Ps E R pos t f i) (hG : Gd E f) (hb : R b) (hb0 : b ≠ 0) (hi : pos b = i) (hc : Nca E f b c) :
    (∃ p : Nat, f b = p ∧ An f p c) ∧ WF R pos (setF f b c) ∧ P1 R pos o (setF f b c) (i + 1) ∧ Ps E R pos t (setF f b c) (i + 1) ∧ Gd E (setF f b c) := by
  obtain ⟨ht1, ht2, ht3⟩ := hg.par b hb hb0
  have hpb := pos_ne hg hb hb0
  obtain ⟨p, ep, hRp, hlp, hdp⟩ := ho.lt b (hall b hb hb0)
  have hfb : f b = p := by rw [hP.e b (fun _ => .inl (by omega)), ep]
  have hdt := df_t hg hPf hb hb0 (by omega)
  have hcp := (hc c).1 (.self c)
  have hc1 : An f (t b) c := hcp _ ht2 hdt
  have hdfo : ∀ q, df o q → df f q := by
    rintro q (h | h)
    · exact .inl h
    · by_cases h0 : q = 0
      · exact .inl h0
      · right
        have hRq := ho.re h
        by_cases hq : pos q < i
        · exact hPf.d q hRq (pos_ne hg hRq h0) hq
        · rw [hP.e q (fun _ => .inl (by omega))]; exact h
  have hsub := fun x y => P1.sub ho hf hall hP (pos x) x y (Nat.le_refl _)
  have hc2 : An o p c := (hPo (pos b + 1)).j b p hb hpb (by omega) ep c fun q hq hd => hsub q c (hcp q hq (hdfo q hd))
  have hu : An f p c := by
    rcases P1.chain ho hf hP ((hPo (pos b + 1)).q b p hb hpb (by omega) ep) (by omega) c hc1 with h | h
    · exact h
    · have := ho.le hc2; omega
  have hcl := hf.le hc1
  have hcb : c ≠ b := by rintro rfl; omega
  have hdc : df f c := hf.an hdt hc1
  have hRc : R c := by
    rcases hdc with h | h
    · rw [h]; exact hg.r0
    · exact hf.re h
  have he : ∀ x, x ≠ b → setF f b c x = f x := fun x h => setF_ne h
  have hdf : ∀ x, df (setF f b c) x ↔ df f x := by
    intro x
    unfold df
    by_cases e : x = b
    · subst e; rw [setF_eq, hfb]; constructor <;> (intro; right; omega)
    · rw [setF_ne e]
  have hshr : ∀ {x y}, An (setF f b c) x y → An f x y := fun ha => An_shrink hb0 he setF_eq hfb hu ha
  have hlow : ∀ {x y}, An f x y → pos x < pos b → An (setF f b c) x y := fun ha hx => An_lt hf he ha hx
  have hne : ∀ x, R x → pos x < i + 1 → x ≠ b → pos x < i := fun x hx hlt hxb => by
    have : pos x ≠ pos b := fun e => hxb (hg.inj x b hx hb e)
    omega
  refine ⟨⟨p, hfb, hu⟩, ⟨fun x hx => ?_, ?_, fun x hx => ?_⟩, ⟨fun x hx => ?_, fun x c' p' hR h1 h2 h3 h4 => ?_⟩, ⟨fun x hR h1 h2 => ?_, fun x c' hR h1 h2 h3 => ?_, fun x c' hR h1 h2 h3 y hy => ?_⟩, fun x d hx hd => ?_⟩
  · rw [setF_ne (by rintro rfl; exact hx hb)]; exact hf.un x hx
  · rw [setF_ne (Ne.symm hb0)]; exact hf.z
  · by_cases e : x = b
    · subst e
      exact ⟨c, setF_eq, hRc, by omega, (hdf c).2 hdc⟩
    · rw [setF_ne e] at hx ⊢
      obtain ⟨q, k1, k2, k3, k4⟩ := hf.lt x hx
      exact ⟨q, k1, k2, k3, (hdf q).2 k4⟩
  · have hxb : x ≠ b := by
      rintro rfl
      rcases hx hb with h | h
      · omega
      · exact hb0 h
    rw [setF_ne hxb]
    exact hP.e x fun hR => (hx hR).imp (by omega) id
  · by_cases e : x = b
    · subst e
      rw [setF_eq] at h3
      have : c = c' := Int.ofNat.inj h3
      subst this
      rw [ep] at h4
      have : p = p' := Int.ofNat.inj h4
      subst this
      exact hlow hu hlp
    · rw [setF_ne e] at h3
      have hx := hne x hR h2 e
      obtain ⟨q, k1, _, k3, _⟩ := ho.lt x (by rw [h4]; omega)
      rw [h4] at k1
      have : p' = q := Int.ofNat.inj k1
      subst this
      exact hlow (hP.u x c' p' hR h1 hx h3 h4) (by omega)
  · by_cases e : x = b
    · subst e; rw [setF_eq]; omega
    · rw [setF_ne e]; exact hPf.d x hR h1 (hne x hR h2 e)
  · by_cases e : x = b
    · subst e
      rw [setF_eq] at h3
      have : c = c' := Int.ofNat.inj h3
      subst this
      exact hlow hc1 ht3
    · rw [setF_ne e] at h3
      have hx := hne x hR h2 e
      have hx0 : x ≠ 0 := by rintro rfl; rw [hg.p0] at h1; omega
      exact hlow (hPf.q x c' hR h1 hx h3) (by have := (hg.par x hR hx0).2.2; omega)
  · by_cases e : x = b
    · subst e
      rw [setF_eq] at h3
      have : c = c' := Int.ofNat.inj h3
      subst this
      exact hlow ((hc y).2 fun q hq hd => hshr (hy q hq ((hdf q).2 hd))) (by omega)
    · rw [setF_ne e] at h3
      have hx := hne x hR h2 e
      obtain ⟨q, k1, _, k3, _⟩ := hf.lt x (by rw [h3]; omega)
      rw [h3] at k1
      have : c' = q := Int.ofNat.inj k1
      subst this
      exact hlow (hPf.j x c' hR h1 hx h3 y fun q hq hd => hshr (hy q hq ((hdf q).2 hd))) (by omega)
  · have hx' := (hdf x).1 hx
    have ha := hG x d hx' hd
    rcases An_split hf he ha with h | ⟨k1, k2, k3, k4⟩
    · exact h
    · have hpd : An f p d := by
        rcases k4.cases' with e | ⟨_, q, eq, h5⟩
        · exact (k3 e).elim
        · rw [hfb] at eq
          have : p = q := Int.ofNat.inj eq
          subst this
          exact h5
      by_cases hcd : An f c d
      · exact k1.trans (.up hb0 setF_eq (hlow hcd (by omega)))
      · exfalso
        have : ¬ ∀ q, E q b → df f q → An f q d := fun h => hcd ((hc d).2 h)
        simp only [Classical.not_forall] at this
        obtain ⟨q, hq, hdq, hnq⟩ := this
        have hrq : Rc E d q := Classical.byContradiction fun h => hnq (hG q d hdq h)
        have hrb : Rc E d b := .step hrq hq (by omega)
        have hRx : R x := by
          rcases hx' with h | h
          · rw [h]; exact hg.r0
          · exact hf.re h
        rcases dfs_path hg ho (fun b' c' h1 h2 h3 => (hPo (pos b' + 1)).q b' c' h1 (pos_ne hg h1 h2) (by omega) h3) hrb (pos x) x (Nat.le_refl _) hRx (hsub x b k2) with h | h
        · exact hd h
        · have h1 := ho.le h
          have h2 := hf.le hpd
          omega
end
end Go.Proofs.Ytjilblndcbphgaa
