/-
  The loops of a list: disjoint or nested; parents; what follows the parents.
-/
import Derived.Test.YtlhlbiaibgmapaaZLP5
set_option linter.unusedSimpArgs false
set_option linter.unusedVariables false
namespace Go.Proofs.Ytlhlbiaibgmapaa
/-- a loop of the list -/
theorem fnd_at {N : List (List Int)} {i : Nat} (hi : i < (fnd N).length) : ∃ (h : Nat) (p : Int), (fnd N)[i] = ((h : Int), ascL N.length (bdS N h (lat N h)), lat N h, p) ∧ h < N.length ∧ lat N h ≠ [] ∧ (hsL N)[i]? = some (h : Int) ∧ p = parN N i := by
  have hi' : i < (hsL N).length := by unfold fnd at hi; rw [lstF_len] at hi; exact hi
  have h1 := lstF_get (N := N) (i := (hsL N).length) hi'
  rw [if_pos hi'] at h1
  have h2 : (fnd N)[i]? = some (fnd N)[i] := by simp
  unfold fnd at h2 ⊢
  rw [h1] at h2
  have hm : (hsL N)[i] ∈ hsL N := List.getElem_mem hi'
  obtain ⟨b, e, h3, h4⟩ := ascL_mem.1 hm
  have e2 : (hsL N).getD i 0 = (b : Int) := by rw [List.getD_eq_getElem?_getD, List.getElem?_eq_getElem hi', e]; rfl
  rw [e2] at h2
  refine ⟨b, parN N i, (Option.some.inj h2).symm, h3, by simpa using h4, by rw [List.getElem?_eq_getElem hi', e], rfl⟩
theorem ascL_at {n : Nat} {p : Nat → Bool} {a : Nat} (ha : a < n) : decide ((a : Int) ∈ ascL n p) = p a := by
  cases hp : p a with
  | true => exact decide_eq_true (ascL_mem.2 ⟨a, rfl, ha, hp⟩)
  | false =>
    refine decide_eq_false fun h => ?_
    obtain ⟨b, e, _, h2⟩ := ascL_mem.1 h
    obtain rfl : a = b := by omega
    rw [hp] at h2; cases h2
theorem fnd_len (N : List (List Int)) : (fnd N).length ≤ N.length := by
  unfold fnd
  rw [lstF_len]
  exact hsL_len N
structure Nst (L : List Lp) : Prop where
  par : ∀ k (hk : k < L.length), L[k].2.2.2 = parF L L[k] L.length
  hd : ∀ i j (hi : i < L.length) (hj : j < L.length), L[i].1 = L[j].1 → i = j
  nst : ∀ i j (hi : i < L.length) (hj : j < L.length), i ≠ j → ∀ b, b ∈ L[i].2.1 → b ∈ L[j].2.1 →
    ((∀ x ∈ L[j].2.1, x ∈ L[i].2.1) ∧ L[j].2.1.length < L[i].2.1.length) ∨ ((∀ x ∈ L[i].2.1, x ∈ L[j].2.1) ∧ L[i].2.1.length < L[j].2.1.length)
theorem asc_nodup {l : List Int} (h : Asc l) : l.Nodup := h.imp fun h => by omega
theorem asc_lt {l k : List Int} (hl : Asc l) (hs : ∀ x ∈ l, x ∈ k) {y : Int} (hy : y ∈ k) (hn : y ∉ l) : l.length < k.length := by
  have := nodup_len (L := y :: l) (K := k) (List.nodup_cons.2 ⟨hn, asc_nodup hl⟩) fun z hz => by
    rcases List.mem_cons.1 hz with rfl | hz
    · exact hy
    · exact hs z hz
  rw [List.length_cons] at this
  omega
theorem fnd_nst {N : List (List Int)} (hN : NOk N) (h0 : 0 < N.length) (hg : Good N) : Nst (fnd N) := by
  have hsn : ∀ (l k : Nat) (n : Nat), (hsL N)[l]? = some (n : Int) → (hsL N)[k]? = some (n : Int) → l = k := fun l k n h1 h2 => by
    obtain ⟨q1, e1⟩ := List.getElem?_eq_some_iff.1 h1
    obtain ⟨q2, e2⟩ := List.getElem?_eq_some_iff.1 h2
    have ha : Asc (hsL N) := ascL_asc _ _
    rcases Nat.lt_trichotomy l k with h | h | h
    · have := ha.lt h q2; omega
    · exact h
    · have := ha.lt h q1; omega
  refine ⟨fun k hk => ?_, fun i j hi hj he => ?_, fun i j hi hj hne b hbi hbj => ?_⟩
  · obtain ⟨h, p, e, _, _, _, rfl⟩ := fnd_at hk
    have h1 := parN_of N (hsL N).length (j := k) hk
    show _ = parF (lstF N (hsL N).length) (lstF N (hsL N).length)[k] (lstF N (hsL N).length).length
    rw [h1, e]
  · obtain ⟨h, p, e, _, _, e1, _⟩ := fnd_at hi
    obtain ⟨h', p', e', _, _, e1', _⟩ := fnd_at hj
    rw [e, e'] at he
    simp only [] at he
    obtain rfl : h = h' := by omega
    exact hsn _ _ _ e1 e1'
  · obtain ⟨h, p, e, hh, hl, e1, _⟩ := fnd_at hi
    obtain ⟨h', p', e', hh', hl', e1', _⟩ := fnd_at hj
    rw [e] at hbi
    rw [e'] at hbj
    rw [e, e']
    simp only [] at hbi hbj ⊢
    obtain ⟨c, rfl, hc, hc1⟩ := ascL_mem.1 hbi
    obtain ⟨c', hcc, hc', hc1'⟩ := ascL_mem.1 hbj
    obtain rfl : c = c' := by omega
    have hneh : h ≠ h' := by rintro rfl; exact hne (hsn _ _ _ e1 e1')
    have key : ∀ u v : Nat, u < N.length → lat N u ≠ [] → lat N v ≠ [] → bdS N u (lat N u) c = true → bdS N v (lat N v) c = true → PO N u < PO N v →
        (∀ x ∈ ascL N.length (bdS N v (lat N v)), x ∈ ascL N.length (bdS N u (lat N u))) ∧ (ascL N.length (bdS N v (lat N v))).length < (ascL N.length (bdS N u (lat N u))).length := fun u v hu lu lv bu bv hlt => by
      obtain ⟨q1, q2, q3⟩ := nest hN h0 hg lu lv bu bv hlt
      have q4 : ∀ x ∈ ascL N.length (bdS N v (lat N v)), x ∈ ascL N.length (bdS N u (lat N u)) := fun x hx => by
        obtain ⟨y, rfl, hy, hy1⟩ := ascL_mem.1 hx
        exact ascL_mem.2 ⟨y, rfl, hy, q1 y hy1⟩
      refine ⟨q4, asc_lt (ascL_asc _ _) q4 (y := (u : Int)) (ascL_mem.2 ⟨u, rfl, hu, q2⟩) fun hm => ?_⟩
      obtain ⟨y, hy0, _, hy1⟩ := ascL_mem.1 hm
      obtain rfl : u = y := by omega
      rw [q3] at hy1; cases hy1
    rcases Nat.lt_trichotomy (PO N h) (PO N h') with hlt | heq | hlt
    · exact .inl (key h h' hh hl hl' hc1 hc1' hlt)
    · obtain ⟨t, hgg⟩ := gg_of hN h0
      exact (hneh (hgg.inj h h' (hd_re hN h0 hg hl) (hd_re hN h0 hg hl') heq)).elim
    · exact .inr (key h' h hh' hl' hl hc1' hc1 hlt)
theorem cnt_one {α : Type} (p q : α → Bool) : ∀ (L : List α) (k : Nat) (hk : k < L.length), p L[k] = true → q L[k] = false → (∀ j (hj : j < L.length), j ≠ k → p L[j] = q L[j]) → (L.filter p).length = (L.filter q).length + 1
  | [], k, hk, _, _, _ => by simp at hk
  | x :: L, 0, hk, h1, h2, h3 => by
    simp only [List.getElem_cons_zero] at h1 h2
    rw [List.filter_cons_of_pos h1, List.filter_cons_of_neg (by rw [h2]; decide), List.length_cons]
    congr 2
    refine List.filter_congr fun y hy => ?_
    obtain ⟨j, hj, rfl⟩ := List.getElem_of_mem hy
    have := h3 (j + 1) (by simpa using hj) (by omega)
    simpa using this
  | x :: L, k + 1, hk, h1, h2, h3 => by
    simp only [List.getElem_cons_succ] at h1 h2
    have ih := cnt_one p q L k (by simpa using hk) h1 h2 fun j hj hne => by
      have := h3 (j + 1) (by simpa using hj) (by omega)
      simpa using this
    have h4 := h3 0 (by simp) (by omega)
    simp only [List.getElem_cons_zero] at h4
    rw [List.filter_cons, List.filter_cons, ← h4]
    split
    · simp [ih]
    · exact ih
def cCb (b : Int) (t : Nat) (x : Lp) : Bool := decide (b ∈ x.2.1 ∧ t ≤ x.2.1.length)
def cC (L : List Lp) (b : Int) (t : Nat) : Nat := (L.filter (cCb b t)).length
theorem inm_spec (L : List Lp) (b : Int) : ∀ i, i ≤ L.length → (inm L b i = -1 ∧ ∀ j (hj : j < L.length), j < i → b ∉ L[j].2.1) ∨ ∃ (p : Nat) (hp : p < L.length), p < i ∧ inm L b i = p ∧ b ∈ L[p].2.1 ∧ ∀ j (hj : j < L.length), j < i → b ∈ L[j].2.1 → L[p].2.1.length ≤ L[j].2.1.length
  | 0, _ => .inl ⟨rfl, by simp⟩
  | i + 1, hi => by
    have ih := inm_spec L b i (by omega)
    have hi' : i < L.length := by omega
    rw [inm, getD_at hi']
    rcases ih with ⟨h1, h2⟩ | ⟨p, hp, h1, h2, h3, h4⟩
    · rw [h1]
      by_cases hb : b ∈ L[i].2.1
      · rw [if_pos ⟨hb, .inl (by omega)⟩]
        refine .inr ⟨i, hi', by omega, rfl, hb, fun j hj hji hbj => ?_⟩
        by_cases e : j = i
        · subst e; exact Nat.le_refl _
        · exact (h2 j hj (by omega) hbj).elim
      · rw [if_neg fun h => hb h.1]
        refine .inl ⟨rfl, fun j hj hji => ?_⟩
        by_cases e : j = i
        · subst e; exact hb
        · exact h2 j hj (by omega)
    · have hbl : bln L (inm L b i) = L[p].2.1.length := by
        unfold bln
        rw [h2, Int.toNat_natCast, getD_at hp]
      rw [hbl, h2]
      by_cases hb : b ∈ L[i].2.1 ∧ L[i].2.1.length < L[p].2.1.length
      · rw [if_pos ⟨hb.1, .inr hb.2⟩]
        refine .inr ⟨i, hi', by omega, rfl, hb.1, fun j hj hji hbj => ?_⟩
        by_cases e : j = i
        · subst e; exact Nat.le_refl _
        · have := h4 j hj (by omega) hbj; omega
      · rw [if_neg fun h => hb ⟨h.1, h.2.resolve_left (by omega)⟩]
        refine .inr ⟨p, hp, by omega, rfl, h3, fun j hj hji hbj => ?_⟩
        by_cases e : j = i
        · subst e
          have : ¬ L[j].2.1.length < L[p].2.1.length := fun h => hb ⟨hbj, h⟩
          omega
        · exact h4 j hj (by omega) hbj
/-- a loop that includes another one with another header -/
def cand (L : List Lp) (o x : Lp) : Prop := x.1 ≠ o.1 ∧ o.2.1.length ≤ x.2.1.length ∧ ∀ b ∈ o.2.1, b ∈ x.2.1
theorem parF_spec (L : List Lp) (o : Lp) : ∀ i, i ≤ L.length → (parF L o i = -1 ∧ ∀ j (hj : j < L.length), j < i → ¬ cand L o L[j]) ∨ ∃ (p : Nat) (hp : p < L.length), p < i ∧ parF L o i = p ∧ cand L o L[p] ∧ ∀ j (hj : j < L.length), j < i → cand L o L[j] → L[p].2.1.length ≤ L[j].2.1.length
  | 0, _ => .inl ⟨rfl, by simp⟩
  | i + 1, hi => by
    have ih := parF_spec L o i (by omega)
    have hi' : i < L.length := by omega
    rw [parF, getD_at hi']
    have hpc : ∀ p : Int, parC o L[i] L p ↔ cand L o L[i] ∧ ¬ (0 ≤ p ∧ bln L p ≤ L[i].2.1.length) := fun p => by
      unfold parC cand
      constructor
      · rintro ⟨h1, h2, h3⟩
        exact ⟨⟨fun e => h1 (.inl e), by omega, h3⟩, h2⟩
      · rintro ⟨⟨h1, h2, h3⟩, h4⟩
        exact ⟨by rintro (e | e); exact h1 e; omega, h4, h3⟩
    rcases ih with ⟨h1, h2⟩ | ⟨p, hp, h1, h2, h3, h4⟩
    · rw [h1]
      by_cases hb : cand L o L[i]
      · rw [if_pos ((hpc _).2 ⟨hb, by omega⟩)]
        refine .inr ⟨i, hi', by omega, rfl, hb, fun j hj hji hbj => ?_⟩
        by_cases e : j = i
        · subst e; exact Nat.le_refl _
        · exact (h2 j hj (by omega) hbj).elim
      · rw [if_neg fun h => hb ((hpc _).1 h).1]
        refine .inl ⟨rfl, fun j hj hji => ?_⟩
        by_cases e : j = i
        · subst e; exact hb
        · exact h2 j hj (by omega)
    · have hbl : bln L (p : Int) = L[p].2.1.length := by
        unfold bln
        rw [Int.toNat_natCast, getD_at hp]
      rw [h2]
      by_cases hb : cand L o L[i] ∧ L[i].2.1.length < L[p].2.1.length
      · rw [if_pos ((hpc _).2 ⟨hb.1, by omega⟩)]
        refine .inr ⟨i, hi', by omega, rfl, hb.1, fun j hj hji hbj => ?_⟩
        by_cases e : j = i
        · subst e; exact Nat.le_refl _
        · have := h4 j hj (by omega) hbj; omega
      · rw [if_neg fun h => hb ⟨((hpc _).1 h).1, by have := ((hpc _).1 h).2; omega⟩]
        refine .inr ⟨p, hp, by omega, rfl, h3, fun j hj hji hbj => ?_⟩
        by_cases e : j = i
        · subst e
          have : ¬ L[j].2.1.length < L[p].2.1.length := fun h => hb ⟨hbj, h⟩
          omega
        · exact h4 j hj (by omega) hbj
theorem chain_start {L : List Lp} (b : Int) : (inm L b L.length = -1 ∧ dep L b = 0) ∨ ∃ (k : Nat) (hk : k < L.length), inm L b L.length = k ∧ b ∈ L[k].2.1 ∧ cC L b L[k].2.1.length = dep L b := by
  rcases inm_spec L b L.length (Nat.le_refl _) with ⟨h1, h2⟩ | ⟨p, hp, _, h2, h3, h4⟩
  · refine .inl ⟨h1, ?_⟩
    unfold dep
    rw [List.length_eq_zero_iff, List.filter_eq_nil_iff]
    intro x hx
    obtain ⟨j, hj, rfl⟩ := List.getElem_of_mem hx
    have := h2 j hj hj
    simpa using this
  · refine .inr ⟨p, hp, h2, h3, ?_⟩
    unfold cC dep
    congr 1
    refine List.filter_congr fun x hx => ?_
    obtain ⟨j, hj, rfl⟩ := List.getElem_of_mem hx
    unfold cCb
    refine decide_eq_decide.2 ⟨fun h => h.1, fun h => ⟨h, h4 j hj hj h⟩⟩
theorem chain_step {L : List Lp} (hL : Nst L) {b : Int} {k : Nat} (hk : k < L.length) (hb : b ∈ L[k].2.1) :
    (L[k].2.2.2 = -1 ∧ cC L b L[k].2.1.length = 1) ∨ ∃ (p : Nat) (hp : p < L.length), L[k].2.2.2 = p ∧ b ∈ L[p].2.1 ∧ L[k].2.1.length < L[p].2.1.length ∧ (∀ x ∈ L[k].2.1, x ∈ L[p].2.1) ∧ cC L b L[k].2.1.length = cC L b L[p].2.1.length + 1 := by
  rw [hL.par k hk]
  have hself : ¬ cand L L[k] L[k] := fun h => h.1 rfl
  have hcand : ∀ j (hj : j < L.length), j ≠ k → b ∈ L[j].2.1 → L[k].2.1.length ≤ L[j].2.1.length → cand L L[k] L[j] := fun j hj hne hbj hle => by
    refine ⟨fun e => hne (hL.hd j k hj hk e), hle, ?_⟩
    rcases hL.nst k j hk hj (fun e => hne e.symm) b hb hbj with ⟨_, h⟩ | ⟨h, _⟩
    · omega
    · exact h
  rcases parF_spec L L[k] L.length (Nat.le_refl _) with ⟨h1, h2⟩ | ⟨p, hp, _, h2, h3, h4⟩
  · refine .inl ⟨h1, ?_⟩
    have := cnt_one (cCb b L[k].2.1.length) (fun _ => false) L k hk (decide_eq_true ⟨hb, Nat.le_refl _⟩) rfl fun j hj hne => by
      refine decide_eq_false fun h => ?_
      exact h2 j hj hj (hcand j hj hne h.1 h.2)
    have e0 : L.filter (fun _ => false) = [] := by rw [List.filter_eq_nil_iff]; simp
    rw [e0] at this
    exact this
  · have hpk : p ≠ k := by rintro rfl; exact hself h3
    have hbp := h3.2.2 b hb
    have hlt : L[k].2.1.length < L[p].2.1.length := by
      rcases hL.nst k p hk hp (fun e => hpk e.symm) b hb hbp with ⟨_, h⟩ | ⟨_, h⟩
      · have := h3.2.1; omega
      · exact h
    refine .inr ⟨p, hp, h2, hbp, hlt, h3.2.2, ?_⟩
    refine cnt_one (cCb b L[k].2.1.length) (cCb b L[p].2.1.length) L k hk (decide_eq_true ⟨hb, Nat.le_refl _⟩) (decide_eq_false fun h => by omega) fun j hj hne => ?_
    refine decide_eq_decide.2 ⟨fun h => ⟨h.1, h4 j hj hj (hcand j hj hne h.1 h.2)⟩, fun h => ⟨h.1, by omega⟩⟩
theorem cC_le (L : List Lp) (b : Int) (t : Nat) : cC L b t ≤ L.length := List.length_filter_le _ _
end Go.Proofs.Ytlhlbiaibgmapaa
