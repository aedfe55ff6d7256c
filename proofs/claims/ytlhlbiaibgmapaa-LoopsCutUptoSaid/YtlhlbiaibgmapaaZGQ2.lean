/-
  Plain: the reference's Tree and Frontier against the tree.
-/
import Derived.Test.YtlhlbiaibgmapaaZGQ1
set_option linter.unusedSimpArgs false
set_option linter.unusedVariables false
namespace Go.Proofs.Ytlhlbiaibgmapaa
open Go.W Go.RowKit
def rall (N : List (List Int)) (a b k : Nat) : Bool := (List.range k).all fun c => !(!decide (c = b) && (!decide (c = a) && (rch N (-1) c && (rdom N c b && !rdom N c a))))
theorem rall_succ (N : List (List Int)) (a b k : Nat) : rall N a b (k + 1) = (rall N a b k && !(!decide (k = b) && (!decide (k = a) && (rch N (-1) k && (rdom N k b && !rdom N k a))))) := by
  unfold rall
  rw [List.range_succ, List.all_append]
  simp
def rcan (N : List (List Int)) (a b : Nat) : Bool := !decide (a = b) && (rch N (-1) a && rdom N a b)
def rfnd (N : List (List Int)) (b : Nat) : Nat → Int
  | 0 => -1
  | a + 1 => if rcan N a b = true ∧ rall N a b N.length = true then (a : Int) else rfnd N b a
def rtr (N : List (List Int)) (b : Nat) : Int := if 0 < b ∧ rch N (-1) b = true then rfnd N b N.length else -1
theorem rch_re {N : List (List Int)} (hN : NOk N) (h0 : 0 < N.length) {x : Nat} : rch N (-1) x = true ↔ RE N x := by rw [rch_iff hN h0, re_iff hN h0]
theorem rdom_an {N : List (List Int)} (hN : NOk N) (h0 : 0 < N.length) {F : Nat → Int} (h : TreeOk N F) {a b : Nat} (hb : RE N b) : rdom N a b = true ↔ An F b a := by rw [rdom_iff hN h0 hb, h.dom b a hb]
theorem TreeOk.re_up {N : List (List Int)} {F : Nat → Int} (h : TreeOk N F) {x y : Nat} (hx : RE N x) (ha : An F x y) : RE N y := by
  induction ha with
  | self => exact hx
  | @up x p y h1 h2 _ ih =>
    obtain ⟨q, e, hR, _⟩ := h.wf.lt x (by omega)
    obtain rfl : p = q := Int.ofNat.inj (h2.symm.trans e)
    exact ih hR
theorem RE.lt {N : List (List Int)} (hN : NOk N) (h0 : 0 < N.length) {x : Nat} (hx : RE N x) : x < N.length := by have := (lv_rng hN h0 hx).2; simpa using this
theorem rtr_eq {N : List (List Int)} (hN : NOk N) (h0 : 0 < N.length) {F : Nat → Int} (h : TreeOk N F) (b : Nat) : rtr N b = F b := by
  unfold rtr
  by_cases hb0 : b = 0
  · subst hb0; rw [if_neg (by omega), h.wf.z]
  by_cases hR : RE N b
  · rw [if_pos ⟨by omega, (rch_re hN h0).2 hR⟩]
    obtain ⟨q, e, hRq, hlt, _⟩ := h.wf.lt b (h.all b hR hb0)
    have hup : ∀ c, An F b c ↔ c = b ∨ An F q c := fun c => by
      constructor
      · intro k
        rcases k.cases' with k | ⟨_, y, k1, k2⟩
        · exact .inl k
        · obtain rfl : q = y := Int.ofNat.inj (e.symm.trans k1)
          exact .inr k2
      · rintro (rfl | k)
        · exact .self _
        · exact .up hb0 e k
    have hqb : q ≠ b := by rintro rfl; omega
    have hc : ∀ a, a < N.length → ((rcan N a b = true ∧ rall N a b N.length = true) ↔ a = q) := fun a ha => by
      unfold rcan rall
      simp only [Bool.and_eq_true, Bool.not_eq_true', decide_eq_false_iff_not, rch_re hN h0, List.all_eq_true, List.mem_range]
      constructor
      · rintro ⟨⟨k1, k2, k3⟩, k4⟩
        have k3' := (hup a).1 ((rdom_an hN h0 h hR).1 k3)
        have k3'' := k3'.resolve_left k1
        apply Classical.byContradiction
        intro hne
        have := k4 q (RE.lt hN h0 hRq)
        rw [Bool.and_eq_false_imp] at this
        have t1 := this (by simpa using hqb)
        rw [Bool.and_eq_false_imp] at t1
        have t2 := t1 (by simpa using fun e => hne e.symm)
        rw [Bool.and_eq_false_imp] at t2
        have t3 := t2 ((rch_re hN h0).2 hRq)
        rw [Bool.and_eq_false_imp] at t3
        have t4 := t3 ((rdom_an hN h0 h hR).2 ((hup q).2 (.inr (.self _))))
        simp only [Bool.not_eq_false'] at t4
        exact hne (h.antisymm ((rdom_an hN h0 h k2).1 t4) k3'')
      · rintro rfl
        refine ⟨⟨hqb, hRq, (rdom_an hN h0 h hR).2 ((hup a).2 (.inr (.self _)))⟩, fun c hcn => ?_⟩
        by_cases c1 : c = b
        · simp [c1]
        by_cases c2 : c = a
        · simp [c2]
        by_cases c3 : rdom N c b = true
        · have := ((hup c).1 ((rdom_an hN h0 h hR).1 c3)).resolve_left c1
          have := (rdom_an hN h0 h hRq).2 this
          simp [this]
        · simp [c3]
    have : ∀ k, k ≤ N.length → rfnd N b k = if q < k then (q : Int) else -1 := fun k => by
      induction k with
      | zero => intro _; rfl
      | succ k ih =>
        intro hk
        rw [rfnd]
        by_cases hq : k = q
        · rw [if_pos ((hc k (by omega)).2 hq), if_pos (by omega), hq]
        · rw [if_neg (fun t => hq ((hc k (by omega)).1 t)), ih (by omega)]
          by_cases hqk : q < k
          · rw [if_pos hqk, if_pos (by omega)]
          · rw [if_neg hqk, if_neg (by omega)]
    rw [this _ (Nat.le_refl _), if_pos (RE.lt hN h0 hRq), e]
  · rw [if_neg (fun k => hR ((rch_re hN h0).1 k.2)), h.wf.un b hR]
/-! ### the reference's frontier -/
def rrow (N : List (List Int)) (a b p : Nat) (l : List Int) : Bool := l.any fun x => rch N (-1) p && (decide (x = (b : Int)) && rdom N a p)
def rfd (N : List (List Int)) (a b k : Nat) : Bool := (List.range k).any fun p => rrow N a b p (sc N p)
def rin (N : List (List Int)) (a b : Nat) : Bool := rfd N a b N.length && (decide (a = b) || !rdom N a b)
/-- the reference's frontier of a as far as the blocks ahead of k -/
def rfr (N : List (List Int)) (k a : Nat) : List Int := if rch N (-1) a = true then ((List.range k).filter (rin N a)).map Int.ofNat else []
theorem rfr_succ (N : List (List Int)) (k a : Nat) (ha : rch N (-1) a = true) : rfr N (k + 1) a = rfr N k a ++ if rin N a k = true then [(k : Int)] else [] := by
  unfold rfr
  rw [if_pos ha, if_pos ha, List.range_succ, List.filter_append, List.map_append]
  congr 1
  cases h : rin N a k <;> simp [h]
theorem rfd_iff {N : List (List Int)} (hN : NOk N) (h0 : 0 < N.length) {F : Nat → Int} (h : TreeOk N F) {a b : Nat} : rfd N a b N.length = true ↔ ∃ p, RE N p ∧ ED N p b ∧ An F p a := by
  unfold rfd rrow
  simp only [List.any_eq_true, List.mem_range, Bool.and_eq_true, decide_eq_true_eq, rch_re hN h0]
  constructor
  · rintro ⟨p, _, x, hx, hR, rfl, hd⟩
    exact ⟨p, hR, hx, (rdom_an hN h0 h hR).1 hd⟩
  · rintro ⟨p, hR, hE, hA⟩
    exact ⟨p, RE.lt hN h0 hR, _, hE, hR, rfl, (rdom_an hN h0 h hR).2 hA⟩
theorem rfr_eq {N : List (List Int)} (hN : NOk N) (h0 : 0 < N.length) {F : Nat → Int} (h : TreeOk N F) (k a : Nat) : rfr N k a = frl N F k a := by
  obtain ⟨t, hg⟩ := gg_of hN h0
  unfold rfr
  by_cases hR : RE N a
  · rw [if_pos ((rch_re hN h0).2 hR)]
    unfold frl
    congr 1
    apply List.filter_congr
    intro b _
    have hiff : rin N a b = true ↔ frB N F a b = true := by
      rw [frB_iff]
      unfold rin FrB
      simp only [Bool.and_eq_true, Bool.or_eq_true, decide_eq_true_eq, Bool.not_eq_true', rfd_iff hN h0 h]
      constructor
      · rintro ⟨⟨p, k1, k2, k3⟩, k4⟩
        have hRb := hg.clo p b k1 k2
        refine ⟨hRb, p, k1, k2, k3, fun c hc hca => ?_⟩
        have hb0 : b ≠ 0 := by rintro rfl; rw [h.wf.z] at hc; omega
        have hba : An F b a := .up hb0 hc hca
        rcases k4 with rfl | k4
        · have := h.antisymm (.up hb0 hc (.self _)) hca
          subst this
          obtain ⟨q, e, _, hlt, _⟩ := h.wf.lt a (by omega)
          obtain rfl : a = q := Int.ofNat.inj (hc.symm.trans e)
          omega
        · rw [(rdom_an hN h0 h hRb).2 hba] at k4
          cases k4
      · rintro ⟨hRb, p, k1, k2, k3, k4⟩
        refine ⟨⟨p, k1, k2, k3⟩, ?_⟩
        by_cases e : a = b
        · exact .inl e
        · right
          cases hd : rdom N a b with
          | false => rfl
          | true =>
            rcases ((rdom_an hN h0 h hRb).1 hd).cases' with q | ⟨_, c, q1, q2⟩
            · exact (e q).elim
            · exact (k4 c q1 q2).elim
    cases h1 : rin N a b with
    | true => exact (hiff.1 h1).symm
    | false =>
      cases h2 : frB N F a b with
      | false => rfl
      | true => rw [hiff.2 h2] at h1; cases h1
  · rw [if_neg (fun q => hR ((rch_re hN h0).1 q))]
    symm
    apply List.eq_nil_iff_forall_not_mem.2
    intro x hx
    obtain ⟨b, _, _, _, p, k1, _, k3, _⟩ := frl_mem.1 hx
    exact hR (h.re_up k1 k3)
end Go.Proofs.Ytlhlbiaibgmapaa
