/-
  Plain: the dominance frontier, block by block.
-/
import Derived.Test.YtlhlbiaibgmapaaZGB4
import Derived.Test.YtlhlbiaibgmapaaZGA9
set_option linter.unusedSimpArgs false
set_option linter.unusedVariables false
namespace Go.Proofs.Ytlhlbiaibgmapaa
open Go.W Go.RowKit
/-- not above the block's parent -/
def Lw (F : Nat → Int) (b a : Nat) : Prop := ∀ c : Nat, F b = c → ¬ An F c a
/-- b lies in the frontier of a -/
def FrB (N : List (List Int)) (F : Nat → Int) (a b : Nat) : Prop := RE N b ∧ ∃ p, RE N p ∧ ED N p b ∧ An F p a ∧ Lw F b a
noncomputable def frB (N : List (List Int)) (F : Nat → Int) (a b : Nat) : Bool := @decide (FrB N F a b) (Classical.propDecidable _)
theorem frB_iff {N : List (List Int)} {F : Nat → Int} {a b : Nat} : frB N F a b = true ↔ FrB N F a b := by simp [frB]
/-- the frontier of a as far as the blocks ahead of k -/
noncomputable def frl (N : List (List Int)) (F : Nat → Int) (k a : Nat) : List Int := ((List.range k).filter (frB N F a)).map Int.ofNat
theorem frl_succ (N : List (List Int)) (F : Nat → Int) (k a : Nat) : frl N F (k + 1) a = frl N F k a ++ if frB N F a k = true then [(k : Int)] else [] := by
  unfold frl
  rw [List.range_succ, List.filter_append, List.map_append]
  congr 1
  cases h : frB N F a k <;> simp [h]
theorem frl_mem {N : List (List Int)} {F : Nat → Int} {k a : Nat} {x : Int} : x ∈ frl N F k a ↔ ∃ b : Nat, x = b ∧ b < k ∧ FrB N F a b := by
  unfold frl
  rw [List.mem_map]
  constructor
  · rintro ⟨b, hb, rfl⟩
    rw [List.mem_filter, List.mem_range, frB_iff] at hb
    exact ⟨b, rfl, hb⟩
  · rintro ⟨b, rfl, h1, h2⟩
    exact ⟨b, by rw [List.mem_filter, List.mem_range, frB_iff]; exact ⟨h1, h2⟩, rfl⟩
theorem frl_len (N : List (List Int)) (F : Nat → Int) (k a : Nat) : (frl N F k a).length ≤ k := by
  unfold frl
  rw [List.length_map]
  have := List.length_filter_le (frB N F a) (List.range k)
  rwa [List.length_range] at this
/-- a list behind some of the steps at b -/
def exl (l : List Int) (b : Nat) (m : Bool) : List Int := l ++ if m = true then [(b : Int)] else []
theorem exl_len (l : List Int) (b : Nat) (m : Bool) : (exl l b m).length ≤ l.length + 1 := by unfold exl; cases m <;> simp
/-- the test: whether b is the last one already -/
theorem exl_test {N : List (List Int)} {F : Nat → Int} {b a : Nat} {m : Bool} : m = true ↔ ∃ x, (exl (frl N F b a) b m).getLast? = some x ∧ x = b := by
  unfold exl
  cases m with
  | true => simp
  | false =>
    simp only [Bool.false_eq_true, if_false, List.append_nil, false_iff]
    rintro ⟨x, hx, rfl⟩
    obtain ⟨c, h1, h2, _⟩ := frl_mem.1 (List.mem_of_getLast? hx)
    omega
/-- on the way up from a place (none below 0) -/
def AnI (F : Nat → Int) (c : Int) (a : Nat) : Prop := ∃ m : Nat, c = m ∧ An F m a
/-- the way up from p, at c: M has been marked -/
structure Wy (N : List (List Int)) (F : Nat → Int) (b p : Nat) (M0 M : Nat → Bool) (c : Int) : Prop where
  iff : ∀ a, (M a = true ∨ (AnI F c a ∧ Lw F b a)) ↔ (M0 a = true ∨ (An F p a ∧ Lw F b a))
  at_ : c = F b ∨ ∃ m : Nat, c = m ∧ RE N m ∧ m < N.length ∧ ∀ q : Nat, F b = q → An F m q
theorem TreeOk.neg {N : List (List Int)} {F : Nat → Int} (h : TreeOk N F) {b : Nat} (hb : F b < 0) : F b = -1 := by
  by_cases hr : RE N b
  · by_cases h0 : b = 0
    · subst h0; exact h.wf.z
    · have := h.all b hr h0; omega
  · exact h.wf.un b hr
theorem TreeOk.antisymm {N : List (List Int)} {F : Nat → Int} (h : TreeOk N F) {a b : Nat} (h1 : An F a b) (h2 : An F b a) : a = b := by
  rcases h.wf.po h1 with e | e
  · exact e.symm
  · rcases h.wf.po h2 with e' | e'
    · exact e'
    · omega
/-- a block's parent dominates its predecessors -/
theorem TreeOk.pred {N : List (List Int)} {F : Nat → Int} (hN : NOk N) (h0 : 0 < N.length) (h : TreeOk N F) {b p q : Nat} (hb : RE N b) (hp : RE N p) (hE : ED N p b) (hq : F b = q) : An F p q := by
  obtain ⟨t, hg⟩ := gg_of hN h0
  have hb0 : b ≠ 0 := by rintro rfl; rw [h.wf.z] at hq; omega
  have hqb : An F b q := .up hb0 hq (.self _)
  rw [h.dom p q hp]
  intro hr
  refine (h.dom b q hb).1 hqb (.step hr hE ?_)
  intro e
  have e2 : b = q := Int.ofNat.inj e
  obtain ⟨p', e3, _, hlt, _⟩ := h.wf.lt b (by omega)
  have : p' = q := by omega
  subst this
  rw [← e2] at hlt
  omega
theorem Wy.start {N : List (List Int)} {F : Nat → Int} (hN : NOk N) (h0 : 0 < N.length) (h : TreeOk N F) {b p : Nat} (hb : RE N b) (hp : RE N p) (hpn : p < N.length) (hE : ED N p b) (M : Nat → Bool) : Wy N F b p M M p :=
  ⟨fun a => by
    constructor
    · rintro (k | ⟨⟨m, e, k⟩, k2⟩)
      · exact .inl k
      · obtain rfl : p = m := Int.ofNat.inj e
        exact .inr ⟨k, k2⟩
    · rintro (k | ⟨k, k2⟩)
      · exact .inl k
      · exact .inr ⟨⟨p, rfl, k⟩, k2⟩, .inr ⟨p, rfl, hp, hpn, fun q hq => h.pred hN h0 hb hp hE hq⟩⟩
theorem Wy.step {N : List (List Int)} {F : Nat → Int} (hN : NOk N) (h0 : 0 < N.length) (h : TreeOk N F) {b p m : Nat} {M0 M : Nat → Bool} (hb : RE N b) (hw : Wy N F b p M0 M m) (hne : (m : Int) ≠ F b) : RE N m ∧ m < N.length ∧ Wy N F b p M0 (setS M m) (F m) ∧ (F m < 0 ∨ ∃ q : Nat, F m = q ∧ PO N q < PO N m) := by
  obtain ⟨hi, ha⟩ := hw
  obtain ⟨m', e, hRm, hmn, hq⟩ := ha.resolve_left hne
  obtain rfl : m = m' := Int.ofNat.inj e
  have hLm : Lw F b m := fun c hc hcm => by
    have := h.antisymm (hq c hc) hcm
    exact hne (by rw [hc, this])
  have hup : ∀ a, AnI F m a ↔ a = m ∨ AnI F (F m) a := fun a => by
    constructor
    · rintro ⟨x, e, k⟩
      obtain rfl : m = x := Int.ofNat.inj e
      rcases k.cases' with k | ⟨_, y, k1, k2⟩
      · exact .inl k
      · exact .inr ⟨y, k1, k2⟩
    · rintro (rfl | ⟨y, k1, k2⟩)
      · exact ⟨_, rfl, .self _⟩
      · refine ⟨m, rfl, .up ?_ k1 k2⟩
        rintro rfl
        rw [h.wf.z] at k1
        omega
  refine ⟨hRm, hmn, ⟨fun a => ?_, ?_⟩, ?_⟩
  · rw [← hi a, hup a]
    unfold setS
    by_cases e : a = m
    · subst e
      simp [hLm]
    · simp [e]
  · by_cases hn : F m < 0
    · left
      rw [h.neg hn]
      by_cases hbn : F b < 0
      · rw [h.neg hbn]
      · exfalso
        obtain ⟨q, hq'⟩ := Int.eq_ofNat_of_zero_le (show 0 ≤ F b by omega)
        rcases (hq q hq').cases' with k | ⟨_, y, k1, k2⟩
        · exact hne (by rw [hq', k])
        · omega
    · obtain ⟨y, e, hRy, hlt, _⟩ := h.wf.lt m (by omega)
      right
      refine ⟨y, e, hRy, by have := (lv_rng hN h0 hRy).2; simpa using this, fun q hq' => ?_⟩
      rcases (hq q hq').cases' with k | ⟨_, y', k1, k2⟩
      · exact (hne (by rw [hq', k])).elim
      · obtain rfl : y = y' := Int.ofNat.inj (e.symm.trans k1)
        exact k2
  · by_cases hn : F m < 0
    · exact .inl hn
    · obtain ⟨y, e, hRy, hlt, _⟩ := h.wf.lt m (by omega)
      exact .inr ⟨y, e, hlt⟩
theorem Wy.stop {N : List (List Int)} {F : Nat → Int} {b p : Nat} {M0 M : Nat → Bool} (hw : Wy N F b p M0 M (F b)) (a : Nat) : M a = true ↔ (M0 a = true ∨ (An F p a ∧ Lw F b a)) := by
  rw [← hw.iff a]
  constructor
  · exact .inl
  · rintro (k | ⟨⟨m, e, k⟩, k2⟩)
    · exact k
    · exact (k2 m e k).elim
end Go.Proofs.Ytlhlbiaibgmapaa
