/-
  Plain: the first pass, the end, the measure.
-/
import Derived.Test.YtjilblndcbphgaaZGP3
set_option linter.unusedSimpArgs false
set_option linter.unusedVariables false
namespace Go.Proofs.Ytjilblndcbphgaa
section
variable {E : Nat → Nat → Prop} {R : Nat → Prop} {pos t : Nat → Nat}
/-- a step of the first pass -/
theorem step_first (hg : GG E R pos t) {f : Nat → Int} {i b c : Nat} (hf : WF R pos f) (hU : ∀ b, R b → i ≤ pos b → f b = -1) (hPf : Ps E R pos t f i) (hG : Gd E f) (hb : R b) (hb0 : b ≠ 0) (hi : pos b = i) (hc : Nca E f b c) :
    pos c < pos b ∧ WF R pos (setF f b c) ∧ (∀ b', R b' → i + 1 ≤ pos b' → setF f b c b' = -1) ∧ Ps E R pos t (setF f b c) (i + 1) ∧ Gd E (setF f b c) := by
  obtain ⟨ht1, ht2, ht3⟩ := hg.par b hb hb0
  have hpb := pos_ne hg hb hb0
  have hdt := df_t hg hPf hb hb0 (by omega)
  have hcp := (hc c).1 (.self c)
  have hc1 : An f (t b) c := hcp _ ht2 hdt
  have hcl := hf.le hc1
  have hcb : c ≠ b := by rintro rfl; omega
  have hdc : df f c := hf.an hdt hc1
  have hRc : R c := by
    rcases hdc with h | h
    · rw [h]; exact hg.r0
    · exact hf.re h
  have hnb : ¬ df f b := by
    rintro (h | h)
    · exact hb0 h
    · rw [hU b hb (by omega)] at h; omega
  have he : ∀ x, x ≠ b → setF f b c x = f x := fun x h => setF_ne h
  have hfr : ∀ {x y}, df f x → (An f x y ↔ An (setF f b c) x y) := fun hx => An_fresh hf hnb he hx
  have hdf : ∀ x, df f x → df (setF f b c) x := by
    intro x hx
    unfold df at *
    by_cases e : x = b
    · subst e; right; rw [setF_eq]; omega
    · rw [setF_ne e]; exact hx
  have hdb : ∀ x, df (setF f b c) x → x = b ∨ df f x := by
    intro x hx
    by_cases e : x = b
    · exact .inl e
    · unfold df at *; rw [setF_ne e] at hx; exact .inr hx
  have hne : ∀ x, R x → pos x < i + 1 → x ≠ b → pos x < i := fun x hx hlt hxb => by
    have : pos x ≠ pos b := fun e => hxb (hg.inj x b hx hb e)
    omega
  refine ⟨by omega, ⟨fun x hx => ?_, ?_, fun x hx => ?_⟩, fun x hR hx => ?_, ⟨fun x hR h1 h2 => ?_, fun x c' hR h1 h2 h3 => ?_, fun x c' hR h1 h2 h3 y hy => ?_⟩, fun x d hx hd => ?_⟩
  · rw [setF_ne (by rintro rfl; exact hx hb)]; exact hf.un x hx
  · rw [setF_ne (Ne.symm hb0)]; exact hf.z
  · by_cases e : x = b
    · subst e
      exact ⟨c, setF_eq, hRc, by omega, hdf c hdc⟩
    · rw [setF_ne e] at hx ⊢
      obtain ⟨q, k1, k2, k3, k4⟩ := hf.lt x hx
      exact ⟨q, k1, k2, k3, hdf q k4⟩
  · rw [setF_ne (by rintro rfl; omega)]
    exact hU x hR (by omega)
  · by_cases e : x = b
    · subst e; rw [setF_eq]; omega
    · rw [setF_ne e]; exact hPf.d x hR h1 (hne x hR h2 e)
  · by_cases e : x = b
    · subst e
      rw [setF_eq] at h3
      have : c = c' := Int.ofNat.inj h3
      subst this
      exact (hfr hdt).1 hc1
    · rw [setF_ne e] at h3
      have hx := hne x hR h2 e
      have hx0 : x ≠ 0 := by rintro rfl; rw [hg.p0] at h1; omega
      exact (hfr (df_t hg hPf hR hx0 (by omega))).1 (hPf.q x c' hR h1 hx h3)
  · by_cases e : x = b
    · subst e
      rw [setF_eq] at h3
      have : c = c' := Int.ofNat.inj h3
      subst this
      exact (hfr hdc).1 ((hc y).2 fun q hq hd => (hfr hd).2 (hy q hq (hdf q hd)))
    · rw [setF_ne e] at h3
      have hx := hne x hR h2 e
      obtain ⟨q, k1, _, k3, k4⟩ := hf.lt x (by rw [h3]; omega)
      rw [h3] at k1
      have : c' = q := Int.ofNat.inj k1
      subst this
      exact (hfr k4).1 (hPf.j x c' hR h1 hx h3 y fun q hq hd => (hfr hd).2 (hy q hq (hdf q hd)))
  · rcases hdb x hx with rfl | hx'
    · by_cases e : d = x
      · subst e; exact .self _
      · refine .up hb0 setF_eq ((hfr hdc).1 ((hc d).2 fun q hq hdq => hG q d hdq fun h => hd (.step h hq (by omega))))
    · exact (hfr hx').1 (hG x d hx' hd)
/-- the tree at the beginning -/
theorem init_first (hg : GG E R pos t) : WF R pos (fun _ => -1) ∧ Ps E R pos t (fun _ => -1) 1 ∧ Gd E (fun _ => -1) := by
  refine ⟨⟨fun _ _ => rfl, rfl, fun b h => by simp at h⟩, ⟨fun b _ h1 h2 => by omega, fun b c _ h1 h2 => by omega, fun b c _ h1 h2 => by omega⟩, fun b d hb hd => ?_⟩
  rcases hb with rfl | h
  · by_cases e : d = 0
    · subst e; exact .self _
    · exact (hd (.base (by omega))).elim
  · simp at h
/-- a later pass's beginning -/
theorem init_later (hg : GG E R pos t) {o : Nat → Int} : P1 R pos o o 1 := ⟨fun _ _ => rfl, fun b c p _ h1 h2 => by omega⟩
theorem Ps.cut {f : Nat → Int} {i m : Nat} (h : Ps E R pos t f i) (hm : m ≤ i) : Ps E R pos t f m :=
  ⟨fun b hR h1 h2 => h.d b hR h1 (by omega), fun b c hR h1 h2 => h.q b c hR h1 (by omega), fun b c hR h1 h2 => h.j b c hR h1 (by omega)⟩
theorem Ps.all {f : Nat → Int} {i : Nat} (h : Ps E R pos t f i) (hi : ∀ b, R b → pos b < i) (m : Nat) : Ps E R pos t f m :=
  ⟨fun b hR h1 _ => h.d b hR h1 (hi b hR), fun b c hR h1 _ => h.q b c hR h1 (hi b hR), fun b c hR h1 _ => h.j b c hR h1 (hi b hR)⟩
/-- where nothing changes the tree tells the dominators -/
theorem dom_of_fix (hg : GG E R pos t) {f : Nat → Int} (hf : WF R pos f) (hall : ∀ b, R b → b ≠ 0 → 0 ≤ f b) (hG : Gd E f) (hfix : ∀ b c : Nat, R b → b ≠ 0 → f b = c → Nca E f b c) {x d : Nat} (hx : R x) : An f x d ↔ ¬ Rc E d x := by
  have hdf : ∀ b, R b → df f b := fun b hb => by
    by_cases e : b = 0
    · exact .inl e
    · exact .inr (hall b hb e)
  constructor
  · intro ha hr
    have hR : ∀ y, Rc E d y → R y := fun y hy => by
      induction hy with
      | base => exact hg.r0
      | step _ h2 _ ih => exact hg.clo _ _ ih h2
    induction hr with
    | base h => exact h (by rw [ha.zero]; rfl)
    | @step p b h1 h2 h3 ih =>
      have hRp := hR p h1
      rcases ha.cases' with e | ⟨hb0, q, eq, h5⟩
      · exact h3 (by rw [e])
      · have := ((hfix b q (hg.clo _ _ hRp h2) hb0 eq) d).1 h5 p h2 (hdf p hRp)
        exact ih hRp this
  · intro h
    exact hG x d (hdf x hx) h
/-- the measure -/
def mval (n : Nat) (pos : Nat → Nat) (v : Int) : Nat := if v < 0 then n else pos v.toNat
def mu (n : Nat) (pos : Nat → Nat) (f : Nat → Int) (l : List Nat) : Nat := (l.map fun b => mval n pos (f b)).sum
theorem mu_notin {n : Nat} {f : Nat → Int} {b c : Nat} : ∀ {l : List Nat}, b ∉ l → mu n pos (setF f b c) l = mu n pos f l
  | [], _ => rfl
  | a :: l, h => by
    have h1 : a ≠ b := fun e => h (by simp [e])
    have h2 : b ∉ l := fun e => h (by simp [e])
    have := mu_notin (n := n) (f := f) (c := c) h2
    unfold mu at *
    rw [List.map_cons, List.map_cons, List.sum_cons, List.sum_cons, this, setF_ne h1]
theorem mu_set {n : Nat} {f : Nat → Int} {b c : Nat} : ∀ {l : List Nat}, l.Nodup → b ∈ l → mu n pos (setF f b c) l + mval n pos (f b) = mu n pos f l + pos c
  | [], _, h => by simp at h
  | a :: l, hn, h => by
    rw [List.nodup_cons] at hn
    unfold mu
    rw [List.map_cons, List.map_cons, List.sum_cons, List.sum_cons]
    by_cases e : a = b
    · subst e
      have := mu_notin (n := n) (pos := pos) (f := f) (c := c) hn.1
      unfold mu at this
      rw [this, setF_eq]
      have hv : mval n pos (c : Int) = pos c := by unfold mval; rw [if_neg (by omega)]; simp
      rw [hv]
      omega
    · have hm : b ∈ l := by
        rcases List.mem_cons.1 h with h | h
        · exact (e h.symm).elim
        · exact h
      have := mu_set (n := n) (f := f) (c := c) hn.2 hm
      unfold mu at this
      rw [setF_ne e]
      omega
end
end Go.Proofs.Ytjilblndcbphgaa
