/-
  Plain: must: the reference's lists.
-/
import Derived.Test.YtehmbpkcbmnfnaaZCUP
set_option linter.unusedSimpArgs false
set_option linter.unusedVariables false
namespace Go.Proofs.Ytehmbpkcbmnfnaa
open Go.W Go.RowKit
def rFind (L : List (Int × Int)) (k : Int) : Int := match L.find? (·.1 == k) with | some p => p.2 | none => -1
/-- a list of the reference and the bounds that it holds -/
structure AbsB (L : List (Int × Int)) (m : Bnd) : Prop where
  nd : (L.map (·.1)).Nodup
  mem : ∀ j b, (j, b) ∈ L ↔ m j = some b
theorem AbsB.find {L : List (Int × Int)} {m : Bnd} (h : AbsB L m) (k : Int) : rFind L k = (m k).getD (-1) := by
  unfold rFind
  cases hf : L.find? (·.1 == k) with
  | none =>
    cases hm : m k with
    | none => rfl
    | some b =>
      rw [List.find?_eq_none] at hf
      have := hf _ ((h.mem k b).2 hm)
      simp at this
  | some p =>
    have h1 := List.mem_of_find?_eq_some hf
    have h2 := List.find?_some hf
    simp only [beq_iff_eq] at h2
    obtain ⟨j, b⟩ := p
    simp only [] at h2
    subst h2
    rw [(h.mem j b).1 h1]; rfl
/-- an element's new age, or none -/
def upd1 (y : Int) (up : Bool) (x : Int × Int) : Option (Int × Int) := if x.2 + (if up then 1 else 0) < y then some (x.1, x.2 + (if up then 1 else 0)) else none
theorem upd1_eq {y : Int} {up : Bool} {j b0 b : Int} : upd1 y up (j, b0) = some (j, b) ↔ ((up = true ∧ b = b0 + 1) ∨ (up = false ∧ b = b0)) ∧ b < y := by
  unfold upd1
  cases up
  · simp only [Bool.false_eq_true, if_false, Int.add_zero, false_and, true_and, false_or]
    by_cases h : b0 < y
    · rw [if_pos h]; simp only [Option.some.injEq, Prod.mk.injEq, true_and]; omega
    · rw [if_neg h]; simp only [reduceCtorEq, false_iff]; omega
  · simp only [if_true, true_and, Bool.true_eq_false, false_and, or_false]
    by_cases h : b0 + 1 < y
    · rw [if_pos h]; simp only [Option.some.injEq, Prod.mk.injEq, true_and]; omega
    · rw [if_neg h]; simp only [reduceCtorEq, false_iff]; omega
theorem agU_eq {y lim b0 b : Int} : agU y lim b0 = some b ↔ (lim ≤ b0 ∧ b = b0) ∨ (¬ lim ≤ b0 ∧ b = b0 + 1 ∧ b0 + 1 < y) := by
  unfold agU
  by_cases h : lim ≤ b0
  · rw [if_pos h]; simp only [Option.some.injEq]; omega
  · rw [if_neg h]
    by_cases h2 : y ≤ b0 + 1
    · rw [if_pos h2]; simp only [reduceCtorEq, false_iff]; omega
    · rw [if_neg h2]; simp only [Option.some.injEq]; omega
def rAcc (s y : Int) (L : List (Int × Int)) (k : Int) : List (Int × Int) := (L.filterMap fun x => if x.1 = k then none else upd1 y (decide (x.1 % s = k % s ∧ (rFind L k < 0 ∨ x.2 < rFind L k))) x) ++ [(k, 0)]
def rAccX (s y : Int) (L : List (Int × Int)) (k : Int) : List (Int × Int) := if k < 0 then L else rAcc s y L k
def rRng (s y : Int) (L : List (Int × Int)) (lo hi : Int) : List (Int × Int) := L.filterMap fun x => upd1 y (decide (tch s lo hi (x.1 % s))) x
def rRngX (s y : Int) (L : List (Int × Int)) (lo hi : Int) : List (Int × Int) := if hi < max lo 0 then L else if max lo 0 = hi then rAcc s y L hi else rRng s y L (max lo 0) hi
def rJn (A B : List (Int × Int)) : List (Int × Int) := A.filterMap fun x => if 0 ≤ rFind B x.1 then some (x.1, max x.2 (rFind B x.1)) else none
theorem filterMap_keys {g : Int × Int → Option (Int × Int)} (hg : ∀ x z, g x = some z → z.1 = x.1) : ∀ {L : List (Int × Int)}, (L.map (·.1)).Nodup → ((L.filterMap g).map (·.1)).Nodup ∧ ∀ k, k ∈ (L.filterMap g).map (·.1) → k ∈ L.map (·.1)
  | [], _ => by simp
  | x :: L, h => by
    rw [List.map_cons, List.nodup_cons] at h
    obtain ⟨h1, h2⟩ := filterMap_keys hg h.2
    rw [List.filterMap_cons]
    cases hx : g x with
    | none =>
      refine ⟨h1, fun k hk => ?_⟩
      rw [List.map_cons]
      exact List.mem_cons_of_mem _ (h2 k hk)
    | some z =>
      have e := hg x z hx
      simp only [List.map_cons, List.nodup_cons]
      refine ⟨⟨fun hm => h.1 (e ▸ h2 _ hm), h1⟩, fun k hk => ?_⟩
      rcases List.mem_cons.1 hk with rfl | hk
      · rw [e]; exact List.mem_cons_self ..
      · exact List.mem_cons_of_mem _ (h2 k hk)
theorem upd1_key {y : Int} {up : Bool} {x z : Int × Int} (h : upd1 y up x = some z) : z.1 = x.1 := by
  simp only [upd1] at h
  cases hd : decide (x.2 + (if up then 1 else 0) < y) with
  | true => rw [if_pos (of_decide_eq_true hd)] at h; simp only [Option.some.injEq] at h; rw [← h]
  | false => rw [if_neg (of_decide_eq_false hd)] at h; cases h
theorem AbsB.acc {s y : Int} {L : List (Int × Int)} {m : Bnd} (h : AbsB L m) (hb : Bd y m) {k : Int} (hk : 0 ≤ k) : AbsB (Go.Proofs.Ytehmbpkcbmnfnaa.rAcc s y L k) (accU s y m k) := by
  have hg : ∀ x z : Int × Int, (if x.1 = k then none else upd1 y (decide (x.1 % s = k % s ∧ (rFind L k < 0 ∨ x.2 < rFind L k))) x) = some z → z.1 = x.1 ∧ x.1 ≠ k := by
    intro x z hz
    split at hz
    · cases hz
    · rename_i e; exact ⟨upd1_key hz, e⟩
  obtain ⟨h1, h2⟩ := filterMap_keys (fun x z hz => (hg x z hz).1) h.nd
  refine ⟨?_, fun j b => ?_⟩
  · unfold Go.Proofs.Ytehmbpkcbmnfnaa.rAcc
    rw [List.map_append, List.nodup_append]
    refine ⟨h1, by simp, fun a ha c hc e => ?_⟩
    simp only [List.map_cons, List.map_nil, List.mem_singleton] at hc
    subst hc
    subst e
    obtain ⟨z, hz, e⟩ := List.mem_map.1 ha
    obtain ⟨x, _, hx⟩ := List.mem_filterMap.1 hz
    obtain ⟨q1, q2⟩ := hg x z hx
    exact q2 (q1 ▸ e)
  · unfold Go.Proofs.Ytehmbpkcbmnfnaa.rAcc
    rw [List.mem_append, List.mem_filterMap]
    simp only [List.mem_singleton, Prod.mk.injEq]
    rw [h.find]
    unfold accU
    by_cases ej : j = k
    · subst ej
      rw [if_pos rfl]
      constructor
      · rintro (⟨x, _, hx⟩ | ⟨_, rfl⟩)
        · rw [← h.find] at hx; exact ((hg x _ hx).2 (hg x _ hx).1.symm).elim
        · rfl
      · intro e; simp only [Option.some.injEq] at e; exact .inr ⟨rfl, e.symm⟩
    · rw [if_neg ej]
      have key : ∀ b0, m j = some b0 → (upd1 y (decide (j % s = k % s ∧ ((m k).getD (-1) < 0 ∨ b0 < (m k).getD (-1)))) (j, b0) = some (j, b) ↔ (if 0 ≤ j ∧ j % s = k % s then agU y ((m k).getD y) b0 else some b0) = some b) := by
        intro b0 hb0
        obtain ⟨q0, q1, q2⟩ := hb j b0 hb0
        rw [upd1_eq]
        simp only [decide_eq_true_eq, decide_eq_false_iff_not]
        by_cases es : j % s = k % s
        · rw [if_pos ⟨q0, es⟩, agU_eq]
          cases hmk : m k with
          | none => simp only [Option.getD_none, es, true_and]; omega
          | some v =>
            have hv := (hb k v hmk).2.1
            simp only [Option.getD_some, es, true_and]; omega
        · rw [if_neg (fun h => es h.2)]
          simp only [es, false_and, not_false_eq_true, true_and, false_or, Option.some.injEq]
          omega
      constructor
      · rintro (⟨⟨j0, b0⟩, hx, hz⟩ | ⟨e, _⟩)
        · split at hz
          · cases hz
          · have e := upd1_key hz
            simp only [] at e
            subst e
            have hm := (h.mem _ _).1 hx
            have := (key b0 hm).1 hz
            split
            · rename_i hc; rw [if_pos hc] at this; rw [hm]; exact this
            · rename_i hc; rw [if_neg hc] at this; rw [hm]; exact this
        · exact (ej e).elim
      · intro hj
        left
        cases hm : m j with
        | none => rw [hm] at hj; split at hj <;> cases hj
        | some b0 =>
          refine ⟨(j, b0), (h.mem _ _).2 hm, ?_⟩
          rw [if_neg ej]
          apply (key b0 hm).2
          rw [hm] at hj
          split
          · rename_i hc; rw [if_pos hc] at hj; exact hj
          · rename_i hc; rw [if_neg hc] at hj; exact hj
theorem AbsB.rng {s y lo hi : Int} {L : List (Int × Int)} {m : Bnd} (h : AbsB L m) (hb : Bd y m) : AbsB (Go.Proofs.Ytehmbpkcbmnfnaa.rRng s y L lo hi) (rngU s y m lo hi) := by
  obtain ⟨h1, h2⟩ := filterMap_keys (g := fun x => upd1 y (decide (tch s lo hi (x.1 % s))) x) (fun x z hz => upd1_key hz) h.nd
  refine ⟨h1, fun j b => ?_⟩
  unfold Go.Proofs.Ytehmbpkcbmnfnaa.rRng rngU
  rw [List.mem_filterMap]
  have key : ∀ b0, m j = some b0 → (upd1 y (decide (tch s lo hi (j % s))) (j, b0) = some (j, b) ↔ (if 0 ≤ j ∧ tch s lo hi (j % s) then agU y y b0 else some b0) = some b) := by
    intro b0 hb0
    obtain ⟨q0, q1, q2⟩ := hb j b0 hb0
    rw [upd1_eq]
    simp only [decide_eq_true_eq, decide_eq_false_iff_not]
    by_cases ht : tch s lo hi (j % s)
    · rw [if_pos ⟨q0, ht⟩, agU_eq]
      simp only [ht, true_and, not_true_eq_false, false_and, or_false]
      omega
    · rw [if_neg (fun h => ht h.2)]
      simp only [ht, false_and, not_false_eq_true, true_and, false_or, Option.some.injEq]
      omega
  constructor
  · rintro ⟨⟨j0, b0⟩, hx, hz⟩
    have e := upd1_key hz
    simp only [] at e
    subst e
    have hm := (h.mem _ _).1 hx
    have := (key b0 hm).1 hz
    split
    · rename_i hc; rw [if_pos hc] at this; rw [hm]; exact this
    · rename_i hc; rw [if_neg hc] at this; rw [hm]; exact this
  · intro hj
    cases hm : m j with
    | none => rw [hm] at hj; split at hj <;> cases hj
    | some b0 =>
      refine ⟨(j, b0), (h.mem _ _).2 hm, ?_⟩
      apply (key b0 hm).2
      rw [hm] at hj
      split
      · rename_i hc; rw [if_pos hc] at hj; exact hj
      · rename_i hc; rw [if_neg hc] at hj; exact hj
theorem AbsB.join {y : Int} {A B : List (Int × Int)} {m n : Bnd} (h : AbsB A m) (k : AbsB B n) (hn : Bd y n) : AbsB (rJn A B) (joinU m n) := by
  obtain ⟨h1, h2⟩ := filterMap_keys (g := fun x => if 0 ≤ rFind B x.1 then some (x.1, max x.2 (rFind B x.1)) else none) (fun x z hz => by
    split at hz
    · simp only [Option.some.injEq] at hz; rw [← hz]
    · cases hz) h.nd
  refine ⟨h1, fun j b => ?_⟩
  unfold rJn joinU
  rw [List.mem_filterMap]
  constructor
  · rintro ⟨⟨j0, b0⟩, hx, hz⟩
    split at hz
    · rename_i hc
      simp only [Option.some.injEq, Prod.mk.injEq] at hz
      obtain ⟨rfl, rfl⟩ := hz
      rw [(h.mem _ _).1 hx]
      simp only [] at hc ⊢
      rw [k.find] at hc ⊢
      cases hq : n j0 with
      | none => rw [hq] at hc; simp at hc
      | some v => simp
    · cases hz
  · intro hj
    split at hj
    · rename_i a c ha hc
      simp only [Option.some.injEq] at hj
      refine ⟨(j, a), (h.mem _ _).2 ha, ?_⟩
      have := (hn j c hc).2.1
      simp only []
      rw [k.find, hc, Option.getD_some, if_pos this]
      simp [hj]
    · cases hj
theorem AbsB_nil : AbsB [] emU := ⟨by simp, fun j b => by simp [emU]⟩
theorem AbsB.accX {s y : Int} {L : List (Int × Int)} {m : Bnd} (h : AbsB L m) (hb : Bd y m) {k : Int} : AbsB (rAccX s y L k) (Go.Proofs.Ytehmbpkcbmnfnaa.accX s y m k) := by
  unfold rAccX Go.Proofs.Ytehmbpkcbmnfnaa.accX
  split
  · exact h
  · exact h.acc hb (by omega)
theorem AbsB.rngX {s y lo hi : Int} {L : List (Int × Int)} {m : Bnd} (h : AbsB L m) (hb : Bd y m) : AbsB (rRngX s y L lo hi) (Go.Proofs.Ytehmbpkcbmnfnaa.rngX s y m lo hi) := by
  unfold rRngX Go.Proofs.Ytehmbpkcbmnfnaa.rngX
  split
  · exact h
  · split
    · exact h.acc hb (by omega)
    · exact h.rng hb
/-- what the law does to the reference's list -/
def rDo (s y : Int) (L : List (Int × Int)) (lo hi : Int) : List (Int × Int) := if lo = -1 ∧ hi = -1 then [] else rRngX s y L lo hi
theorem AbsB.do {s y lo hi : Int} {L : List (Int × Int)} {m : Bnd} (h : AbsB L m) (hb : Bd y m) : AbsB (rDo s y L lo hi) (doU s y m lo hi) := by
  unfold rDo doU
  split
  · exact AbsB_nil
  · split
    · rename_i e
      subst e
      unfold Go.Proofs.Ytehmbpkcbmnfnaa.accX
      split
      · unfold rRngX; rw [if_pos (by omega)]; exact h
      · unfold rRngX; rw [if_neg (by omega), if_pos (by omega)]; exact h.acc hb (by omega)
    · exact h.rngX hb
theorem rAcc_len (s y : Int) (L : List (Int × Int)) (k : Int) : (rAcc s y L k).length ≤ L.length + 1 := by
  unfold rAcc
  rw [List.length_append]
  have := List.length_filterMap_le (fun x => if x.1 = k then none else upd1 y (decide (x.1 % s = k % s ∧ (rFind L k < 0 ∨ x.2 < rFind L k))) x) L
  simp only [List.length_cons, List.length_nil]
  omega
theorem rDo_len (s y : Int) (L : List (Int × Int)) (lo hi : Int) : (rDo s y L lo hi).length ≤ L.length + 1 := by
  unfold rDo rRngX rRng
  split
  · simp
  · split
    · omega
    · split
      · exact rAcc_len s y L hi
      · have := List.length_filterMap_le (fun x => upd1 y (decide (tch s (max lo 0) hi (x.1 % s))) x) L
        omega
/-- the test of the reference -/
theorem tch_iff {s lo hi i : Int} (hs : 1 ≤ s) (hlo : 0 ≤ lo) (hi0 : 0 ≤ i ∧ i < s) : (∃ q, 0 ≤ q ∧ q < s ∧ lo + q ≤ hi ∧ (lo + q) % s = i) ↔ tch s lo hi i := by
  constructor
  · rintro ⟨q, h1, h2, h3, rfl⟩
    exact tch_in hs (by omega) h3
  · intro h
    unfold tch at h
    have h1 := Int.emod_nonneg (i - lo % s + s) (show s ≠ 0 by omega)
    have h2 := Int.emod_lt_of_pos (i - lo % s + s) (show 0 < s by omega)
    refine ⟨(i - lo % s + s) % s, h1, h2, by omega, ?_⟩
    rw [Int.add_emod_right, Int.add_emod_emod, show lo + (i - lo % s) = i + (lo - lo % s) by omega]
    have : (lo - lo % s) % s = 0 := by
      have e := Int.emod_add_mul_ediv lo s
      rw [show lo - lo % s = s * (lo / s) by omega]
      exact Int.mul_emod_right ..
    rw [Int.add_emod, this, Int.add_zero, Int.emod_emod]
    exact Int.emod_eq_of_lt hi0.1 hi0.2
end Go.Proofs.Ytehmbpkcbmnfnaa
