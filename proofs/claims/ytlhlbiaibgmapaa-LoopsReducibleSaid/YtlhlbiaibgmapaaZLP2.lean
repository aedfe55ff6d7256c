/-
  Plain: merging a block with its only predecessor keeps the ranks, and where there are ranks some block has an only predecessor.
-/
import Derived.Test.YtlhlbiaibgmapaaZLP1
set_option linter.unusedSimpArgs false
set_option linter.unusedVariables false
namespace Go.Proofs.Ytlhlbiaibgmapaa
/-- a graph on what is alive -/
structure CG (n : Nat) (E : Nat → Nat → Prop) (A : Nat → Prop) : Prop where
  z : A 0
  lt : ∀ x, A x → x < n
  e : ∀ a c, E a c → A a ∧ A c ∧ a ≠ c
  r : ∀ x, A x → Rc E (-1) x
def Rk (E : Nat → Nat → Prop) : Prop := ∃ r : Nat → Nat, ∀ a c, E a c → Rc E (c : Int) a → r a < r c
theorem Rc.ne {E : Nat → Nat → Prop} {d : Int} {x : Nat} (h : Rc E d x) : (x : Int) ≠ d := by
  cases h with
  | base h => exact h
  | step _ _ h => exact h
/-- b is merged into f -/
def mrg (E : Nat → Nat → Prop) (f b : Nat) (a c : Nat) : Prop := a ≠ b ∧ c ≠ b ∧ (E a c ∨ (a = f ∧ E b c ∧ c ≠ f))
section
variable {n : Nat} {E : Nat → Nat → Prop} {A : Nat → Prop} {f b : Nat}
theorem mrg_rc (h : CG n E A) (hb0 : b ≠ 0) (hf : E f b) (hu : ∀ a, E a b → a = f) {d : Int} (hd : d ≠ b) {x : Nat} (hx : x ≠ b) : Rc (mrg E f b) d x ↔ Rc E d x := by
  have hfb := (h.e f b hf).2.2
  constructor
  · intro k
    induction k with
    | base k => exact .base k
    | @step p c k1 k2 k3 ih =>
      obtain ⟨j1, j2, j3⟩ := k2
      rcases j3 with j | ⟨rfl, j4, j5⟩
      · exact .step (ih j1) j k3
      · exact .step (.step (ih j1) hf (fun e => hd e.symm)) j4 k3
  · intro k
    have key : ∀ y, Rc E d y → (y ≠ b → Rc (mrg E f b) d y) ∧ (y = b → Rc (mrg E f b) d f) := fun y hy => by
      induction hy with
      | base k => exact ⟨fun _ => .base k, fun e => (hb0 e.symm).elim⟩
      | @step p c k1 k2 k3 ih =>
        refine ⟨fun hc => ?_, fun e => ?_⟩
        · by_cases hp : p = b
          · subst hp
            have := ih.2 rfl
            by_cases hcf : c = f
            · subst hcf; exact this
            · exact .step this ⟨hfb, hc, .inr ⟨rfl, k2, hcf⟩⟩ k3
          · exact .step (ih.1 hp) ⟨hp, hc, .inl k2⟩ k3
        · subst e
          obtain rfl := hu p k2
          exact ih.1 hfb
    exact (key x k).1 hx
theorem mrg_cg (h : CG n E A) (hb0 : b ≠ 0) (hf : E f b) (hu : ∀ a, E a b → a = f) : CG n (mrg E f b) (fun x => A x ∧ x ≠ b) := by
  refine ⟨⟨h.z, fun e => hb0 e.symm⟩, fun x hx => h.lt x hx.1, fun a c k => ?_, fun x hx => (mrg_rc h hb0 hf hu (by omega) hx.2).2 (h.r x hx.1)⟩
  obtain ⟨j1, j2, j3⟩ := k
  rcases j3 with j | ⟨rfl, j4, j5⟩
  · obtain ⟨q1, q2, q3⟩ := h.e a c j
    exact ⟨⟨q1, j1⟩, ⟨q2, j2⟩, q3⟩
  · exact ⟨⟨(h.e _ _ hf).1, j1⟩, ⟨(h.e _ _ j4).2.1, j2⟩, fun e => j5 e.symm⟩
/-- b does not dominate its only predecessor -/
theorem only_pred (h : CG n E A) (hb0 : b ≠ 0) (hf : E f b) (hu : ∀ a, E a b → a = f) : Rc E b f := by
  have key : ∀ x, Rc E (-1) x → Rc E b x ∨ Rc E b f := fun x hx => by
    induction hx with
    | base _ => exact .inl (.base (by omega))
    | @step p c k1 k2 k3 ih =>
      rcases ih with ih | ih
      · by_cases hc : c = b
        · subst hc
          obtain rfl := hu p k2
          exact .inr ih
        · exact .inl (.step ih k2 (by omega))
      · exact .inr ih
  rcases key f (h.r f (h.e _ _ hf).1) with k | k <;> exact k
theorem mrg_rk (h : CG n E A) (hb0 : b ≠ 0) (hf : E f b) (hu : ∀ a, E a b → a = f) : Rk (mrg E f b) ↔ Rk E := by
  have hfb := (h.e f b hf).2.2
  constructor
  · rintro ⟨r, hr⟩
    refine ⟨fun x => if x = b then 2 * r f + 1 else 2 * r x, fun a c k1 k2 => ?_⟩
    simp only []
    by_cases ha : a = b
    · subst ha
      have hca := (h.e _ _ k1).2.2
      rw [if_pos rfl, if_neg (fun e => hca e.symm)]
      have hcf : Rc E c f := by
        cases k2 with
        | base k => exact (hb0 rfl).elim
        | @step p _ j1 j2 j3 => obtain rfl := hu p j2; exact j1
      have hne : c ≠ f := by rintro rfl; exact hcf.ne rfl
      have := hr f c ⟨hfb, fun e => hca e.symm, .inr ⟨rfl, k1, hne⟩⟩ ((mrg_rc h hb0 hf hu (by omega) hfb).2 hcf)
      omega
    · rw [if_neg ha]
      by_cases hc : c = b
      · subst hc
        obtain rfl := hu a k1
        rw [if_pos rfl]
        omega
      · rw [if_neg hc]
        have := hr a c ⟨ha, hc, .inl k1⟩ ((mrg_rc h hb0 hf hu (by omega) ha).2 k2)
        omega
  · rintro ⟨r, hr⟩
    refine ⟨r, fun a c k1 k2 => ?_⟩
    obtain ⟨j1, j2, j3⟩ := k1
    have k3 := (mrg_rc h hb0 hf hu (by omega) j1).1 k2
    rcases j3 with j | ⟨rfl, j4, j5⟩
    · exact hr a c j k3
    · have h1 := hr a b hf (only_pred h hb0 hf hu)
      have h2 := hr b c j4 (.step k3 hf (by omega))
      omega
/-- a place is reached along edges that rise -/
theorem fwd (h : CG n E A) : ∀ x, Rc E (-1) x → Rc (fun a c => E a c ∧ Rc E (c : Int) a) (-1) x := fun x hx => by
  induction hx with
  | base _ => exact .base (by omega)
  | @step p c k1 k2 k3 ih =>
    by_cases hc : Rc E (c : Int) p
    · exact .step ih ⟨k2, hc⟩ k3
    · apply Classical.byContradiction
      intro hn
      apply hc
      have key : ∀ y, Rc (fun a c => E a c ∧ Rc E (c : Int) a) (-1) y → Rc E (c : Int) y := fun y hy => by
        induction hy with
        | base _ => exact .base fun e => hn (by rw [← Int.ofNat.inj e]; exact .base (by omega))
        | @step q z j1 j2 j3 ih2 => exact .step ih2 j2.1 fun e => hn (by rw [← Int.ofNat.inj e]; exact .step j1 j2 j3)
      exact key p ih
theorem dom_lt (h : CG n E A) {r : Nat → Nat} (hr : ∀ a c, E a c → Rc E (c : Int) a → r a < r c) {g x : Nat} (hx : A x) (hd : ¬ Rc E (g : Int) x) (hne : x ≠ g) : r g < r x := by
  have key : ∀ y, Rc (fun a c => E a c ∧ Rc E (c : Int) a) (-1) y → Rc E (g : Int) y ∨ y = g ∨ r g < r y := fun y hy => by
    induction hy with
    | base _ =>
      by_cases e : 0 = g
      · exact .inr (.inl e)
      · exact .inl (.base (by omega))
    | @step p c j1 j2 j3 ih =>
      have hpc := hr p c j2.1 j2.2
      rcases ih with ih | ih | ih
      · by_cases e : c = g
        · exact .inr (.inl e)
        · exact .inl (.step ih j2.1 (by omega))
      · subst ih; exact .inr (.inr hpc)
      · exact .inr (.inr (by omega))
  rcases key x (fwd h x (h.r x hx)) with k | k | k
  · exact (hd k).elim
  · exact (hne k).elim
  · exact k
/-- the largest, the smallest of a bounded kind -/
theorem ex_max {n : Nat} {p : Nat → Prop} (r : Nat → Nat) : ∀ k, (∃ x, x < k ∧ p x) → ∃ x, p x ∧ ∀ y, y < k → p y → r y ≤ r x
  | 0, ⟨x, hx, _⟩ => by omega
  | k + 1, hex => by
    by_cases h1 : ∃ x, x < k ∧ p x
    · obtain ⟨x, hx, hm⟩ := ex_max (n := n) r k h1
      by_cases h2 : p k ∧ r x < r k
      · refine ⟨k, h2.1, fun y hy hp => ?_⟩
        by_cases e : y = k
        · rw [e]; omega
        · have := hm y (by omega) hp; omega
      · refine ⟨x, hx, fun y hy hp => ?_⟩
        by_cases e : y = k
        · subst e
          apply Nat.not_lt.1
          exact fun h => h2 ⟨hp, h⟩
        · exact hm y (by omega) hp
    · obtain ⟨x, hx, hp⟩ := hex
      have hxk : x = k := by
        apply Classical.byContradiction
        intro e
        exact h1 ⟨x, by omega, hp⟩
      subst hxk
      refine ⟨x, hp, fun y hy hpy => ?_⟩
      by_cases e : y = x
      · rw [e]; omega
      · exact (h1 ⟨y, by omega, hpy⟩).elim
theorem ex_min {n : Nat} {p : Nat → Prop} (r : Nat → Nat) : ∀ k, (∃ x, x < k ∧ p x) → ∃ x, p x ∧ ∀ y, y < k → p y → r x ≤ r y
  | 0, ⟨x, hx, _⟩ => by omega
  | k + 1, hex => by
    by_cases h1 : ∃ x, x < k ∧ p x
    · obtain ⟨x, hx, hm⟩ := ex_min (n := n) r k h1
      by_cases h2 : p k ∧ r k < r x
      · refine ⟨k, h2.1, fun y hy hp => ?_⟩
        by_cases e : y = k
        · rw [e]; omega
        · have := hm y (by omega) hp; omega
      · refine ⟨x, hx, fun y hy hp => ?_⟩
        by_cases e : y = k
        · subst e
          apply Nat.not_lt.1
          exact fun h => h2 ⟨hp, h⟩
        · exact hm y (by omega) hp
    · obtain ⟨x, hx, hp⟩ := hex
      have hxk : x = k := by
        apply Classical.byContradiction
        intro e
        exact h1 ⟨x, by omega, hp⟩
      subst hxk
      refine ⟨x, hp, fun y hy hpy => ?_⟩
      by_cases e : y = x
      · rw [e]; omega
      · exact (h1 ⟨y, by omega, hpy⟩).elim
/-- where there are ranks, and another place beside 0, some place has an only predecessor -/
theorem single (h : CG n E A) (hk : Rk E) (hx : ∃ x, x ≠ 0 ∧ A x) : ∃ b f, b ≠ 0 ∧ A b ∧ E f b ∧ ∀ a, E a b → a = f := by
  obtain ⟨r, hr⟩ := hk
  have hz : ∀ y, ¬ Rc E ((0 : Nat) : Int) y := fun y hy => by
    induction hy with
    | base k => exact k rfl
    | step _ _ _ ih => exact ih
  -- the place from which to look: the highest one to which an edge goes back, or 0
  obtain ⟨g, hgA, ⟨y, hyA, hyg, hyd⟩, hgm⟩ : ∃ g, A g ∧ (∃ y, A y ∧ y ≠ g ∧ ¬ Rc E (g : Int) y) ∧ ∀ x, (∃ a, E a x ∧ ¬ Rc E (x : Int) a) → r x ≤ r g := by
    by_cases hh : ∃ x, x < n ∧ ∃ a, E a x ∧ ¬ Rc E (x : Int) a
    · obtain ⟨g, ⟨a, ha, hd⟩, hm⟩ := ex_max (n := n) r n hh
      exact ⟨g, (h.e _ _ ha).2.1, ⟨a, (h.e _ _ ha).1, (h.e _ _ ha).2.2, hd⟩, fun x ⟨a', ha', hd'⟩ => hm x (h.lt _ (h.e _ _ ha').2.1) ⟨a', ha', hd'⟩⟩
    · obtain ⟨x, hx0, hxA⟩ := hx
      exact ⟨0, h.z, ⟨x, hxA, hx0, hz x⟩, fun x' ⟨a', ha', hd'⟩ => (hh ⟨x', h.lt _ (h.e _ _ ha').2.1, a', ha', hd'⟩).elim⟩
  obtain ⟨x, ⟨hxA, hxg, hxd⟩, hxm⟩ := ex_min (n := n) (p := fun x => A x ∧ x ≠ g ∧ ¬ Rc E (g : Int) x) r n ⟨y, h.lt y hyA, hyA, hyg, hyd⟩
  have hx0 : x ≠ 0 := by
    rintro rfl
    exact hxd (.base (by omega))
  have hpred : ∀ a, E a x → a = g := fun a ha => by
    apply Classical.byContradiction
    intro hag
    have had : ¬ Rc E (g : Int) a := fun k => hxd (.step k ha (by omega))
    by_cases hxa : Rc E (x : Int) a
    · have h1 := hr a x ha hxa
      have h2 := hxm a (h.lt a (h.e _ _ ha).1) ⟨(h.e _ _ ha).1, hag, had⟩
      omega
    · have h1 := hgm x ⟨a, ha, hxa⟩
      have h2 := dom_lt h hr hxA hxd hxg
      omega
  obtain ⟨p, hp⟩ : ∃ p, E p x := by
    cases h.r x hxA with
    | base _ => exact (hx0 rfl).elim
    | @step p _ _ k _ => exact ⟨p, k⟩
  obtain rfl := hpred p hp
  exact ⟨x, p, hx0, hxA, hp, hpred⟩
end
end Go.Proofs.Ytlhlbiaibgmapaa
