/-
  Natural loops, plain: latches, bodies, headers; two loops that share a block.
-/
import Derived.Test.YtlhlbiaibgmapaaZLB
set_option linter.unusedSimpArgs false
set_option linter.unusedVariables false
namespace Go.Proofs.Ytlhlbiaibgmapaa
theorem rc_ne {E : Nat → Nat → Prop} {d : Int} {x : Nat} (h : Rc E d x) : (x : Int) ≠ d := by
  cases h with
  | base h => exact h
  | step _ _ h => exact h
/-- no retreating edge but to a dominator -/
def Good (N : List (List Int)) : Prop := ∀ e ∈ edg 0 N, badE N e = false
theorem good_of {N : List (List Int)} (h : (edg 0 N).find? (badE N) = none) : Good N := fun e he => by
  have := List.find?_eq_none.1 h e he
  simpa using this
section
variable {N : List (List Int)} (hN : NOk N) (h0 : 0 < N.length)
include hN h0
theorem dom_po {h : Nat} : ∀ (k x : Nat), PO N x ≤ k → RE N x → h ≠ x → ¬ Rc (ED N) (h : Int) x → PO N h < PO N x := by
  obtain ⟨t, hg⟩ := gg_of hN h0
  have key : ∀ (k x : Nat), PO N x ≤ k → RE N x → h ≠ x → PO N x ≤ PO N h → Rc (ED N) (h : Int) x := by
    intro k
    induction k with
    | zero =>
      intro x hk hx hne _
      have : x = 0 := hg.inj x 0 hx hg.r0 (by rw [hg.p0]; omega)
      subst this
      exact .base (by omega)
    | succ k ih =>
      intro x hk hx hne hle
      by_cases hx0 : x = 0
      · subst hx0
        exact .base (by omega)
      · obtain ⟨p1, p2, p3⟩ := hg.par x hx hx0
        have hpn : h ≠ t x := by rintro rfl; omega
        exact .step (ih (t x) (by omega) p1 hpn (by omega)) p2 (by omega)
  intro k x hk hx hne hd
  apply Classical.byContradiction
  intro hlt
  exact hd (key k x hk hx hne (by omega))
theorem dom_lt' {h x : Nat} (hx : RE N x) (hne : h ≠ x) (hd : ¬ Rc (ED N) (h : Int) x) : PO N h < PO N x := dom_po hN h0 _ x (Nat.le_refl _) hx hne hd
theorem lat_iff (hg : Good N) {a h : Nat} : (a : Int) ∈ lat N h ↔ RE N a ∧ ED N a h ∧ ¬ Rc (ED N) (h : Int) a := by
  unfold lat
  rw [latL_mem]
  have hed : ((a : Int), (h : Int)) ∈ edg 0 N ↔ ED N a h := by
    rw [edg_mem]
    constructor
    · rintro ⟨i, h1, h2, h3⟩
      simp only [Nat.zero_add] at h2 h3
      obtain rfl : a = i := by omega
      exact h3
    · intro hE
      refine ⟨a, ?_, by simp, hE⟩
      apply Classical.byContradiction
      intro hn
      unfold ED sc at hE
      rw [List.getD_eq_getElem?_getD, List.getElem?_eq_none (by omega)] at hE
      cases hE
  have hre : ∀ x, rch N (-1) x = true ↔ RE N x := fun x => by rw [rch_iff hN h0, re_iff hN h0]
  constructor
  · rintro ⟨h1, h2⟩
    have hb := hg _ h1
    unfold badE at hb
    rw [h2, Bool.true_and, Bool.not_eq_false'] at hb
    unfold isR at h2
    simp only [Int.toNat_natCast, Bool.and_eq_true] at h2 hb
    have hra := (hre a).1 h2.1
    exact ⟨hra, hed.1 h1, (rdom_iff hN h0 hra).1 hb⟩
  · rintro ⟨h1, h2, h3⟩
    refine ⟨hed.2 h2, ?_⟩
    unfold isR
    simp only [Int.toNat_natCast, Bool.and_eq_true, decide_eq_true_eq]
    refine ⟨(hre a).2 h1, ?_⟩
    by_cases e : h = a
    · subst e; exact Nat.le_refl _
    · exact Nat.le_of_lt (dom_lt' hN h0 h1 e h3)
theorem body_iff (h x : Nat) : bdS N h (lat N h) x = true ↔ x = h ∨ Bw N h (lat N h) x := bdS_iff hN h0 (fun p hp => (lat_rng hN hp).1) x
theorem hd_re (hg : Good N) {h : Nat} (hl : lat N h ≠ []) : RE N h := by
  obtain ⟨x, hx⟩ := List.exists_mem_of_ne_nil _ hl
  obtain ⟨h1, h2⟩ := lat_rng hN hx
  obtain ⟨a, rfl⟩ := Int.eq_ofNat_of_zero_le h1.1
  obtain ⟨k1, k2, _⟩ := (lat_iff hN h0 hg).1 hx
  exact (re_iff hN h0 h).2 (((re_iff hN h0 a).1 k1).step k2 (by omega))
theorem bw_dom (hg : Good N) {h x : Nat} (hb : Bw N h (lat N h) x) : ¬ Rc (ED N) (h : Int) x := by
  induction hb with
  | base hl _ _ => exact ((lat_iff hN h0 hg).1 hl).2.2
  | step hb hE hne hr ih => exact fun hc => ih (hc.step hE (by have := hb.ne; omega))
/-- an edge into a loop from outside goes to the header -/
theorem enter {h a b : Nat} (ha : RE N a) (hE : ED N a b) (hb : bdS N h (lat N h) b = true) (hne : b ≠ h) : bdS N h (lat N h) a = true := by
  rw [body_iff hN h0] at hb ⊢
  rcases hb with hb | hb
  · exact (hne hb).elim
  · by_cases e : a = h
    · exact .inl e
    · exact .inr (.step hb hE e ha)
/-- latches: the blocks of the loop with an edge to the header -/
theorem lat_body (hg : Good N) {h a : Nat} (ha : RE N a) (hE : ED N a h) : bdS N h (lat N h) a = true ↔ (a : Int) ∈ lat N h := by
  rw [body_iff hN h0]
  constructor
  · rintro (rfl | hb)
    · exact (lat_iff hN h0 hg).2 ⟨ha, hE, fun hc => rc_ne hc rfl⟩
    · exact (lat_iff hN h0 hg).2 ⟨ha, hE, bw_dom hN h0 hg hb⟩
  · intro hl
    by_cases e : a = h
    · exact .inl e
    · exact .inr (.base hl e ha)
theorem body_dom (hg : Good N) {h x : Nat} (hb : bdS N h (lat N h) x = true) : ¬ Rc (ED N) (h : Int) x := by
  rcases (body_iff hN h0 h x).1 hb with rfl | hb
  · exact fun hc => rc_ne hc rfl
  · exact bw_dom hN h0 hg hb
theorem body_re (hg : Good N) {h x : Nat} (hl : lat N h ≠ []) (hb : bdS N h (lat N h) x = true) : RE N x := by
  rcases (body_iff hN h0 h x).1 hb with rfl | hb
  · exact hd_re hN h0 hg hl
  · exact hb.re
/-- of two dominators of a block the one that stands earlier dominates the other -/
theorem dom_chain {h1 h2 b : Nat} (hb : RE N b) (d1 : ¬ Rc (ED N) (h1 : Int) b) (d2 : ¬ Rc (ED N) (h2 : Int) b) (hlt : PO N h1 < PO N h2) : ¬ Rc (ED N) (h1 : Int) h2 := by
  intro hc
  obtain ⟨t, hg⟩ := gg_of hN h0
  have key : ∀ (k y : Nat), PO N y ≤ k → RE N y → ¬ Rc (ED N) (h2 : Int) y → Rc (ED N) (h1 : Int) y := by
    intro k
    induction k with
    | zero =>
      intro y hk hy hd
      by_cases e : h2 = y
      · subst e; exact hc
      · have := dom_lt' hN h0 hy e hd
        omega
    | succ k ih =>
      intro y hk hy hd
      by_cases e : h2 = y
      · subst e; exact hc
      · have hlt2 := dom_lt' hN h0 hy e hd
        have hy0 : y ≠ 0 := by rintro rfl; rw [hg.p0] at hlt2; omega
        obtain ⟨p1, p2, p3⟩ := hg.par y hy hy0
        have hp : ¬ Rc (ED N) (h2 : Int) (t y) := fun hr => hd (hr.step p2 (by omega))
        have hy1 : y ≠ h1 := by rintro rfl; omega
        exact (ih (t y) (by omega) p1 hp).step p2 (by omega)
  exact d1 (key _ b (Nat.le_refl _) hb d2)
/-- a header below another one: its block is in the upper loop -/
theorem hd_in (hg : Good N) {h1 h2 : Nat} (hlt : PO N h1 < PO N h2) (hr1 : RE N h1) : ∀ (k y : Nat), PO N y ≤ k → Bw N h1 (lat N h1) y → ¬ Rc (ED N) (h2 : Int) y → Bw N h1 (lat N h1) h2 := by
  obtain ⟨t, hgg⟩ := gg_of hN h0
  intro k
  induction k with
  | zero =>
    intro y hk hy hd
    by_cases e : h2 = y
    · subst e; exact hy
    · have := dom_lt' hN h0 hy.re e hd
      omega
  | succ k ih =>
    intro y hk hy hd
    by_cases e : h2 = y
    · subst e; exact hy
    · have hlt2 := dom_lt' hN h0 hy.re e hd
      have hy0 : y ≠ 0 := by rintro rfl; rw [hgg.p0] at hlt2; omega
      obtain ⟨p1, p2, p3⟩ := hgg.par y hy.re hy0
      have hp : ¬ Rc (ED N) (h2 : Int) (t y) := fun hr => hd (hr.step p2 (by omega))
      have hp1 : t y ≠ h1 := fun e1 => by
        rw [e1] at hp
        have := dom_lt' hN h0 hr1 (by rintro rfl; omega) hp
        omega
      exact ih (t y) (by omega) (.step hy p2 hp1 p1) hp
/-- two loops that share a block: the one whose header stands later lies within the other -/
theorem nest (hg : Good N) {h1 h2 b : Nat} (hl1 : lat N h1 ≠ []) (hl2 : lat N h2 ≠ []) (hb1 : bdS N h1 (lat N h1) b = true) (hb2 : bdS N h2 (lat N h2) b = true) (hlt : PO N h1 < PO N h2) :
    (∀ x, bdS N h2 (lat N h2) x = true → bdS N h1 (lat N h1) x = true) ∧ bdS N h1 (lat N h1) h1 = true ∧ bdS N h2 (lat N h2) h1 = false := by
  have hr1 := hd_re hN h0 hg hl1
  have hr2 := hd_re hN h0 hg hl2
  have hrb := body_re hN h0 hg hl1 hb1
  have d1 := body_dom hN h0 hg hb1
  have d2 := body_dom hN h0 hg hb2
  have d12 := dom_chain hN h0 hrb d1 d2 hlt
  have n21 : Rc (ED N) (h2 : Int) h1 := by
    apply Classical.byContradiction
    intro hd
    have := dom_lt' hN h0 hr1 (by rintro rfl; omega) hd
    omega
  have hbne : b ≠ h1 := by rintro rfl; exact d2 n21
  have hB1 : Bw N h1 (lat N h1) b := by
    rcases (body_iff hN h0 h1 b).1 hb1 with e | e
    · exact (hbne e).elim
    · exact e
  have hh2 := hd_in hN h0 hg hlt hr1 _ b (Nat.le_refl _) hB1 d2
  have hsub : ∀ x, Bw N h2 (lat N h2) x → Bw N h1 (lat N h1) x := fun x hx => by
    have hne : ∀ z, Bw N h2 (lat N h2) z → z ≠ h1 := fun z hz => by
      rintro rfl
      exact bw_dom hN h0 hg hz n21
    induction hx with
    | @base l hl h3 h4 => exact .step hh2 ((lat_iff hN h0 hg).1 hl).2.1 (hne l (.base hl h3 h4)) h4
    | @step b' p hb hE h3 h4 ih => exact .step ih hE (hne p (.step hb hE h3 h4)) h4
  refine ⟨fun x hx => ?_, (body_iff hN h0 h1 h1).2 (.inl rfl), ?_⟩
  · rcases (body_iff hN h0 h2 x).1 hx with rfl | hx
    · exact (body_iff hN h0 h1 x).2 (.inr hh2)
    · exact (body_iff hN h0 h1 x).2 (.inr (hsub x hx))
  · rw [Bool.eq_false_iff]
    intro hx
    rcases (body_iff hN h0 h2 h1).1 hx with e | hx
    · subst e; omega
    · exact bw_dom hN h0 hg hx n21
end
end Go.Proofs.Ytlhlbiaibgmapaa
