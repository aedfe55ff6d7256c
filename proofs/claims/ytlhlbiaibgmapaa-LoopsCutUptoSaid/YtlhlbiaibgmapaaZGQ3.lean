/-
  Plain: following the list of Tree is dominance; adding an edge from a parent.
-/
import Derived.Test.YtlhlbiaibgmapaaZGQ2
set_option linter.unusedSimpArgs false
set_option linter.unusedVariables false
namespace Go.Proofs.Ytlhlbiaibgmapaa
open Go.W Go.RowKit
/-- the list that Tree returns -/
abbrev tl (n : Nat) (F : Nat → Int) : List Int := (List.range n).map F
theorem tl_len (n : Nat) (F : Nat → Int) : (tl n F).length = n := by simp
theorem tl_getD {n : Nat} {F : Nat → Int} {b : Nat} (hb : b < n) : (tl n F).getD b 0 = F b := by
  rw [List.getD_eq_getElem?_getD]
  simp [hb]
theorem ord_le {N : List (List Int)} (hN : NOk N) (h0 : 0 < N.length) : (ord N).length ≤ N.length := by
  have := (lv_len hN h0).1
  unfold ord
  rw [List.length_reverse]
  exact this
theorem chn_an {N : List (List Int)} {F : Nat → Int} (hN : NOk N) (h0 : 0 < N.length) (h : TreeOk N F) {a b : Nat} (ha : An F b a) : ∀ k, RE N b → PO N b < k → chn (tl N.length F) a k b = true := by
  induction ha with
  | self b =>
    intro k hR hk
    obtain ⟨k', rfl⟩ : ∃ k', k = k' + 1 := ⟨k - 1, by omega⟩
    have := RE.lt hN h0 hR
    rw [chn, tl_len, if_neg (by omega), if_pos rfl]
  | @up b p a h1 h2 h3 ih =>
    intro k hR hk
    obtain ⟨k', rfl⟩ : ∃ k', k = k' + 1 := ⟨k - 1, by omega⟩
    have hb := RE.lt hN h0 hR
    obtain ⟨q, e, hRq, hlt, _⟩ := h.wf.lt b (by omega)
    obtain rfl : p = q := Int.ofNat.inj (h2.symm.trans e)
    rw [chn, tl_len, if_neg (by omega)]
    split
    · rfl
    · rw [Int.toNat_natCast, tl_getD hb, h2]
      exact ih k' hRq (by omega)
theorem an_chn {N : List (List Int)} {F : Nat → Int} (h : TreeOk N F) {a : Nat} : ∀ (k b : Nat), chn (tl N.length F) a k b = true → An F b a
  | 0, b, hc => by rw [chn] at hc; cases hc
  | k + 1, b, hc => by
    rw [chn, tl_len] at hc
    split at hc
    · cases hc
    · rename_i hr
      split at hc
      · rename_i e
        obtain rfl : a = b := Int.ofNat.inj e
        exact .self _
      · have hb : b < N.length := by omega
        rw [Int.toNat_natCast, tl_getD hb] at hc
        by_cases hn : F b < 0
        · exfalso
          cases k with
          | zero => rw [chn] at hc; cases hc
          | succ k => rw [chn, if_pos (.inl hn)] at hc; cases hc
        · obtain ⟨q, e⟩ := Int.eq_ofNat_of_zero_le (show 0 ≤ F b by omega)
          rw [e] at hc
          refine .up ?_ e (an_chn h k q hc)
          rintro rfl
          rw [h.wf.z] at e
          omega
theorem domI_an {N : List (List Int)} {F : Nat → Int} (hN : NOk N) (h0 : 0 < N.length) (h : TreeOk N F) {a b : Nat} (ha : a < N.length) (hb : b < N.length) : domI (tl N.length F) a b = true ↔ An F b a := by
  unfold domI
  rw [tl_len, if_neg (by omega)]
  constructor
  · exact an_chn h _ _
  · intro k
    by_cases hR : RE N b
    · exact chn_an hN h0 h k _ hR (Nat.lt_of_lt_of_le (PO_lt hR) (ord_le hN h0))
    · rcases k.cases' with rfl | ⟨_, q, k1, _⟩
      · obtain ⟨m, hm⟩ : ∃ m, N.length = m + 1 := ⟨N.length - 1, by omega⟩
        rw [hm, chn, if_neg (by rw [tl_len]; omega), if_pos rfl]
      · rw [h.wf.un b hR] at k1
        omega
theorem domI_rng {l : List Int} {a b : Int} (h : domI l a b = true) : (0 ≤ a ∧ a < l.length) ∧ 0 ≤ b ∧ b < l.length := by
  refine ⟨?_, ?_⟩
  · unfold domI at h
    split at h
    · cases h
    · omega
  · by_cases hb : b < 0 ∨ (l.length : Int) ≤ b
    · rw [domI_out hb] at h; cases h
    · omega
/-- the two ways up from a place are one -/
theorem An.chain {F : Nat → Int} {z x y : Nat} (hx : An F z x) (hy : An F z y) : An F x y ∨ An F y x := by
  induction hx with
  | self => exact .inl hy
  | @up z p x h1 h2 h3 ih =>
    rcases hy.cases' with rfl | ⟨_, q, k1, k2⟩
    · exact .inr (.up h1 h2 h3)
    · obtain rfl : p = q := Int.ofNat.inj (h2.symm.trans k1)
      exact ih k2
theorem TreeOk.root {N : List (List Int)} {F : Nat → Int} (h : TreeOk N F) : ∀ (k z : Nat), PO N z ≤ k → RE N z → An F z 0 := by
  intro k
  induction k using Nat.strongRecOn with
  | _ k ih =>
    intro z hz hR
    by_cases h0 : z = 0
    · rw [h0]; exact .self _
    · obtain ⟨q, e, hRq, hlt, _⟩ := h.wf.lt z (h.all z hR h0)
      exact .up h0 e (ih (PO N q) (by omega) q (Nat.le_refl _) hRq)
theorem rc_neg {E : Nat → Nat → Prop} {d e : Int} (hd : d < 0) (he : e < 0) {x : Nat} (h : Rc E d x) : Rc E e x := by
  induction h with
  | base _ => exact .base (by omega)
  | step _ h2 _ ih => exact .step ih h2 (by omega)
/-- the tree is settled by who dominates whom -/
theorem tree_uniq {N N' : List (List Int)} {F F' : Nat → Int} (h : TreeOk N F) (h' : TreeOk N' F') (hR : ∀ x, RE N' x ↔ RE N x) (hA : ∀ x d, RE N x → (An F' x d ↔ An F x d)) (x : Nat) : F' x = F x := by
  by_cases hx : RE N x
  · by_cases h0 : x = 0
    · rw [h0, h.wf.z, h'.wf.z]
    · obtain ⟨q, e, hq, hlt, _⟩ := h.wf.lt x (h.all x hx h0)
      obtain ⟨q', e', hq', hlt', _⟩ := h'.wf.lt x (h'.all x ((hR x).2 hx) h0)
      have n1 : q ≠ x := by rintro rfl; omega
      have n2 : q' ≠ x := by rintro rfl; omega
      have a1 : An F' q' q := by
        rcases ((hA x q hx).2 (.up h0 e (.self _))).cases' with k | ⟨_, y, k1, k2⟩
        · exact (n1 k).elim
        · obtain rfl : q' = y := Int.ofNat.inj (e'.symm.trans k1)
          exact k2
      have a2 : An F q q' := by
        rcases ((hA x q' hx).1 (.up h0 e' (.self _))).cases' with k | ⟨_, y, k1, k2⟩
        · exact (n2 k).elim
        · obtain rfl : q = y := Int.ofNat.inj (e.symm.trans k1)
          exact k2
      have := h.antisymm ((hA q' q ((hR q').1 hq')).1 a1) a2
      rw [e, e', this]
  · rw [h.wf.un x hx, h'.wf.un x (fun k => hx ((hR x).1 k))]
/-- an edge more, to a block from one below whose strict dominators are -/
theorem tree_more {N N' : List (List Int)} {F F' : Nat → Int} (hN : NOk N) (h0 : 0 < N.length) (hN' : NOk N') (hl : N'.length = N.length) (h : TreeOk N F) (h' : TreeOk N' F') {a b : Nat} (hRb : RE N b) (hRa : RE N a) (hab : ∀ d, An F b d → d = b ∨ An F a d) (hE : ∀ p c, ED N' p c ↔ ED N p c ∨ (p = a ∧ c = b)) :
    (∀ x, RE N' x ↔ RE N x) ∧ ∀ x, F' x = F x := by
  have h0' : 0 < N'.length := by omega
  have key : ∀ (d : Int) (x : Nat), Rc (ED N') d x ↔ Rc (ED N) d x := fun d x => by
    constructor
    · intro hr
      induction hr with
      | base hd => exact .base hd
      | @step p c h1 h2 h3 ih =>
        rcases (hE p c).1 h2 with h2 | ⟨rfl, rfl⟩
        · exact .step ih h2 h3
        · apply Classical.byContradiction
          intro hn
          by_cases hd : d < 0
          · exact hn (rc_neg (by omega) hd ((re_iff hN h0 c).1 hRb))
          · obtain ⟨m, rfl⟩ := Int.eq_ofNat_of_zero_le (show 0 ≤ d by omega)
            rcases hab m ((h.dom c m hRb).2 hn) with e | e
            · subst e; exact h3 rfl
            · exact (h.dom p m hRa).1 e ih
    · intro hr
      induction hr with
      | base hd => exact .base hd
      | step _ h2 h3 ih => exact .step ih ((hE _ _).2 (.inl h2)) h3
  have hR : ∀ x, RE N' x ↔ RE N x := fun x => by rw [re_iff hN' h0', re_iff hN h0, key]
  refine ⟨hR, tree_uniq h h' hR fun x d hx => ?_⟩
  rw [h'.dom x d ((hR x).2 hx), h.dom x d hx, key]
end Go.Proofs.Ytlhlbiaibgmapaa
