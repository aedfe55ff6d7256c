/-
  Plain: the search backwards over predecessors.
-/
import Derived.Test.YtlhlbiaibgmapaaZLP1
set_option linter.unusedSimpArgs false
set_option linter.unusedVariables false
namespace Go.Proofs.Ytlhlbiaibgmapaa
open Go.W Go.RowKit
abbrev prow (N : List (List Int)) (b : Nat) : List Int := (prevOf N).getD b []
def bv (N : List (List Int)) : Nat → (Nat → Bool) → Nat → (Nat → Bool)
  | 0, S, _ => S
  | k + 1, S, b => if S b = true ∨ rch N (-1) b = false then S else (prow N b).foldl (fun S p => bv N k S p.toNat) (setS S b)
def bvL (N : List (List Int)) (k : Nat) (S : Nat → Bool) (l : List Int) : Nat → Bool := l.foldl (fun S p => bv N k S p.toNat) S
theorem bv_succ (N : List (List Int)) (k : Nat) (S : Nat → Bool) (b : Nat) : bv N (k + 1) S b = if S b = true ∨ rch N (-1) b = false then S else bvL N k (setS S b) (prow N b) := rfl
theorem bvL_cons (N : List (List Int)) (k : Nat) (S : Nat → Bool) (p : Int) (l : List Int) : bvL N k S (p :: l) = bvL N k (bv N k S p.toNat) l := rfl
theorem bvL_snoc (N : List (List Int)) (k : Nat) (S : Nat → Bool) (p : Int) (l : List Int) : bvL N k S (l ++ [p]) = bv N k (bvL N k S l) p.toNat := by simp [bvL, List.foldl_append]
structure Bs (N : List (List Int)) (S S' : Nat → Bool) : Prop where
  le : ∀ x, S x = true → S' x = true
  clo : ∀ x, S' x = true → S x = false → rch N (-1) x = true ∧ ∀ p ∈ prow N x, rch N (-1) p.toNat = true → S' p.toNat = true
theorem Bs.refl (N : List (List Int)) (S : Nat → Bool) : Bs N S S := ⟨fun _ h => h, fun x h1 h2 => by rw [h1] at h2; cases h2⟩
theorem Bs.trans {N : List (List Int)} {S S' S'' : Nat → Bool} (h : Bs N S S') (k : Bs N S' S'') : Bs N S S'' :=
  ⟨fun x hx => k.le x (h.le x hx), fun x h1 h2 => by
    cases h3 : S' x with
    | true =>
      obtain ⟨q1, q2⟩ := h.clo x h3 h2
      exact ⟨q1, fun p hp hr => k.le _ (q2 p hp hr)⟩
    | false => exact k.clo x h1 h3⟩
theorem bv_spec {N : List (List Int)} (hN : NOk N) : ∀ (k : Nat), (∀ (S : Nat → Bool) (b : Nat), b < N.length → uns N.length S < k → Bs N S (bv N k S b) ∧ (rch N (-1) b = true → bv N k S b b = true)) ∧
    ∀ (l : List Int) (S : Nat → Bool), (∀ p ∈ l, 0 ≤ p ∧ p.toNat < N.length) → uns N.length S < k → Bs N S (bvL N k S l) ∧ ∀ p ∈ l, rch N (-1) p.toNat = true → bvL N k S l p.toNat = true := by
  have hL : ∀ k, (∀ (S : Nat → Bool) (b : Nat), b < N.length → uns N.length S < k → Bs N S (bv N k S b) ∧ (rch N (-1) b = true → bv N k S b b = true)) →
      ∀ (l : List Int) (S : Nat → Bool), (∀ p ∈ l, 0 ≤ p ∧ p.toNat < N.length) → uns N.length S < k → Bs N S (bvL N k S l) ∧ ∀ p ∈ l, rch N (-1) p.toNat = true → bvL N k S l p.toNat = true := by
    intro k hv l
    induction l with
    | nil => intro S _ _; exact ⟨Bs.refl N S, fun p hp => by cases hp⟩
    | cons p l ih =>
      intro S hl hu
      rw [bvL_cons]
      obtain ⟨h1, h2⟩ := hv S p.toNat (hl p (by simp)).2 hu
      have hle := uns_mono (n := N.length) h1.le
      obtain ⟨h3, h4⟩ := ih (bv N k S p.toNat) (fun q hq => hl q (by simp [hq])) (by omega)
      refine ⟨h1.trans h3, fun q hq hr => ?_⟩
      rcases List.mem_cons.1 hq with rfl | hq
      · exact h3.le _ (h2 hr)
      · exact h4 q hq hr
  intro k
  induction k with
  | zero => exact ⟨fun S b _ h => by omega, fun l S _ h => by omega⟩
  | succ k ih =>
    have hv : ∀ (S : Nat → Bool) (b : Nat), b < N.length → uns N.length S < k + 1 → Bs N S (bv N (k + 1) S b) ∧ (rch N (-1) b = true → bv N (k + 1) S b b = true) := by
      intro S b hb hu
      rw [bv_succ]
      split
      · rename_i hc
        refine ⟨Bs.refl N S, fun hr => ?_⟩
        rcases hc with hc | hc
        · exact hc
        · rw [hr] at hc; cases hc
      · rename_i hc
        have hS : S b = false := by
          cases h : S b with
          | false => rfl
          | true => exact (hc (.inl h)).elim
        have hr : rch N (-1) b = true := by
          cases h : rch N (-1) b with
          | true => rfl
          | false => exact (hc (.inr h)).elim
        have h1 := uns_set hb hS
        obtain ⟨h2, h3⟩ := ih.2 (prow N b) (setS S b) (prevOf_row hN hb) (by omega)
        have hbb : setS S b b = true := by simp [setS]
        refine ⟨⟨fun x hx => h2.le x (setS_le S b x hx), fun x k1 k2 => ?_⟩, fun _ => h2.le b hbb⟩
        by_cases e : x = b
        · subst e; exact ⟨hr, h3⟩
        · refine h2.clo x k1 ?_
          unfold setS
          rw [if_neg e]
          exact k2
    exact ⟨hv, hL (k + 1) hv⟩
theorem bv_snd {N : List (List Int)} {P : Nat → Prop} {h : Nat} (hP : ∀ y, P y → ∀ p ∈ prow N y, rch N (-1) p.toNat = true → p.toNat ≠ h → P p.toNat) : ∀ (k : Nat) (S : Nat → Bool) (b : Nat), S h = true → (rch N (-1) b = true → b ≠ h → P b) → ∀ x, bv N k S b x = true → S x = true ∨ P x := by
  intro k
  induction k with
  | zero => intro S b _ _ x hx; exact .inl hx
  | succ k ih =>
    have hL : ∀ (l : List Int) (S : Nat → Bool), S h = true → (∀ p ∈ l, rch N (-1) p.toNat = true → p.toNat ≠ h → P p.toNat) → ∀ x, bvL N k S l x = true → S x = true ∨ P x := by
      intro l
      induction l with
      | nil => intro S _ _ x hx; exact .inl hx
      | cons p l ih2 =>
        intro S hS hl x hx
        rw [bvL_cons] at hx
        have h1 : bv N k S p.toNat h = true := by
          have : ∀ (k : Nat) (S : Nat → Bool) (b : Nat), S h = true → bv N k S b h = true := by
            intro k
            induction k with
            | zero => intro S b hS; exact hS
            | succ k ih3 =>
              intro S b hS
              rw [bv_succ]
              split
              · exact hS
              · have : ∀ (l : List Int) (S : Nat → Bool), S h = true → bvL N k S l h = true := by
                  intro l
                  induction l with
                  | nil => intro S hS; exact hS
                  | cons q l ih4 => intro S hS; rw [bvL_cons]; exact ih4 _ (ih3 S q.toNat hS)
                exact this _ _ (setS_le S b h hS)
          exact this k S p.toNat hS
        rcases ih2 (bv N k S p.toNat) h1 (fun q hq => hl q (by simp [hq])) x hx with k1 | k1
        · exact ih S p.toNat hS (hl p (by simp)) x k1
        · exact .inr k1
    intro S b hS hb x hx
    rw [bv_succ] at hx
    split at hx
    · exact .inl hx
    · rename_i hc
      have hr : rch N (-1) b = true := by
        cases h : rch N (-1) b with
        | true => rfl
        | false => exact (hc (.inr h)).elim
      have hbh : b ≠ h := by rintro rfl; exact hc (.inl hS)
      have hPb := hb hr hbh
      rcases hL (prow N b) (setS S b) (setS_le S b h hS) (hP b hPb) x hx with k1 | k1
      · unfold setS at k1
        split at k1
        · rename_i e; subst e; exact .inr hPb
        · exact .inl k1
      · exact .inr k1
theorem bvL_snd {N : List (List Int)} (hN : NOk N) {P : Nat → Prop} {h : Nat} (hP : ∀ y, P y → ∀ p ∈ prow N y, rch N (-1) p.toNat = true → p.toNat ≠ h → P p.toNat) (k : Nat) (hk : N.length < k) : ∀ (l : List Int) (S : Nat → Bool), (∀ p ∈ l, 0 ≤ p ∧ p.toNat < N.length) → S h = true → (∀ p ∈ l, rch N (-1) p.toNat = true → p.toNat ≠ h → P p.toNat) → ∀ x, bvL N k S l x = true → S x = true ∨ P x
  | [], S, _, _, _, x, hx => .inl hx
  | p :: l, S, hr, hS, hl, x, hx => by
    rw [bvL_cons] at hx
    have hu : uns N.length S < k := by
      have : uns N.length S ≤ N.length := by
        unfold uns
        have := List.length_filter_le (fun i => !S i) (List.range N.length)
        rwa [List.length_range] at this
      omega
    have h1 := ((bv_spec hN k).1 S p.toNat (hr p (by simp)).2 hu).1.le h hS
    rcases bvL_snd hN hP k hk l (bv N k S p.toNat) (fun q hq => hr q (by simp [hq])) h1 (fun q hq => hl q (by simp [hq])) x hx with k1 | k1
    · exact bv_snd hP k S p.toNat hS (hl p (by simp)) x k1
    · exact .inr k1
/-- what reaches a latch without passing the header -/
inductive Bw (N : List (List Int)) (h : Nat) (lt : List Int) : Nat → Prop
  | base {l : Nat} : (l : Int) ∈ lt → l ≠ h → RE N l → Bw N h lt l
  | step {b p : Nat} : Bw N h lt b → ED N p b → p ≠ h → RE N p → Bw N h lt p
theorem Bw.ne {N : List (List Int)} {h : Nat} {lt : List Int} {x : Nat} (k : Bw N h lt x) : x ≠ h := by cases k <;> assumption
theorem Bw.re {N : List (List Int)} {h : Nat} {lt : List Int} {x : Nat} (k : Bw N h lt x) : RE N x := by cases k <;> assumption
def bdS (N : List (List Int)) (h : Nat) (lt : List Int) : Nat → Bool := bvL N (N.length + 1) (setS (fun _ => false) h) lt
theorem bdS_iff {N : List (List Int)} (hN : NOk N) (h0 : 0 < N.length) {h : Nat} {lt : List Int} (hlt : ∀ p ∈ lt, 0 ≤ p ∧ p.toNat < N.length) (x : Nat) : bdS N h lt x = true ↔ x = h ∨ Bw N h lt x := by
  have hS0 : ∀ y, setS (fun _ => false) h y = true ↔ y = h := fun y => by unfold setS; split <;> simp_all
  have hu : uns N.length (setS (fun _ => false) h) < N.length + 1 := by
    unfold uns
    have := List.length_filter_le (fun i => !(setS (fun _ => false) h) i) (List.range N.length)
    rw [List.length_range] at this
    omega
  obtain ⟨h1, h2⟩ := (bv_spec hN (N.length + 1)).2 lt (setS (fun _ => false) h) hlt hu
  constructor
  · intro hx
    have a1 : ∀ y, Bw N h lt y → ∀ p ∈ prow N y, rch N (-1) p.toNat = true → p.toNat ≠ h → Bw N h lt p.toNat := fun y hy p hp hr hne => by
      have hyn := RE.lt hN h0 hy.re
      obtain ⟨q, rfl, hqn, hqE⟩ := (prevOf_mem hN hyn p).1 hp
      simp only [Int.toNat_natCast] at hr hne ⊢
      exact .step hy hqE hne ((rch_re hN h0).1 hr)
    have a2 : ∀ p ∈ lt, rch N (-1) p.toNat = true → p.toNat ≠ h → Bw N h lt p.toNat := fun p hp hr hne => by
      have hp0 := (hlt p hp).1
      have : ((p.toNat : Nat) : Int) = p := by omega
      exact .base (by rw [this]; exact hp) hne ((rch_re hN h0).1 hr)
    rcases bvL_snd hN a1 (N.length + 1) (by omega) lt (setS (fun _ => false) h) hlt ((hS0 h).2 rfl) a2 x hx with k | k
    · exact .inl ((hS0 x).1 k)
    · exact .inr k
  · rintro (rfl | hx)
    · exact h1.le _ ((hS0 _).2 rfl)
    · induction hx with
      | @base l k1 k2 k3 =>
        have := h2 l k1 (by simpa using (rch_re hN h0).2 k3)
        rw [Int.toNat_natCast] at this
        exact this
      | @step b p k1 k2 k3 k4 ih =>
        have hSb : setS (fun _ => false) h b = false := by
          cases hb : setS (fun _ => false) h b with
          | false => rfl
          | true => exact (k1.ne ((hS0 b).1 hb)).elim
        have := (h1.clo b ih hSb).2 p ((prevOf_mem hN (RE.lt hN h0 k1.re) _).2 ⟨p, rfl, RE.lt hN h0 k4, k2⟩) (by simpa using (rch_re hN h0).2 k4)
        rw [Int.toNat_natCast] at this
        exact this
end Go.Proofs.Ytlhlbiaibgmapaa
