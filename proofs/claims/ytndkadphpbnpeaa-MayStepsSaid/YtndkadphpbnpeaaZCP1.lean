/-
  The reference's lists and the bounds of may, in plain terms.
-/
import Derived.Test.YtndkadphpbnpeaaZCR2
set_option linter.unusedSimpArgs false
set_option linter.unusedVariables false
namespace Go.Proofs.Ytndkadphpbnpeaa
open Go.W
def Srt (L : List (Int × Int)) : Prop := L.Pairwise (fun x z => x.1 < z.1)
theorem pfold_done (k a : Int) : ∀ (L out : List (Int × Int)), L.foldl (pstep k a) (out, true) = (out ++ L.filter (fun x => decide (x.1 ≠ k)), true) := by
  intro L
  induction L with
  | nil => intro out; simp
  | cons x L ih =>
    intro out
    rw [List.foldl_cons]
    by_cases h : x.1 = k
    · have : pstep k a (out, true) x = (out, true) := by simp [pstep, h]
      rw [this, ih]; simp [h]
    · have : pstep k a (out, true) x = (out ++ [x], true) := by simp [pstep, h]
      rw [this, ih]; simp [h]
theorem pfold_go (k a : Int) : ∀ (L out : List (Int × Int)), Srt L →
    (let st := L.foldl (pstep k a) (out, false); if st.2 then st.1 else st.1 ++ [(k, a)]) = out ++ (L.filter (fun x => decide (x.1 < k)) ++ (k, a) :: L.filter (fun x => decide (k < x.1))) := by
  intro L
  induction L with
  | nil => intro out _; simp
  | cons x L ih =>
    intro out hs
    have hs2 : Srt L := (List.pairwise_cons.1 hs).2
    have hx := (List.pairwise_cons.1 hs).1
    rw [List.foldl_cons]
    by_cases h : k ≤ x.1
    · have e1 : L.filter (fun x => decide (x.1 < k)) = [] := by
        rw [List.filter_eq_nil_iff]; intro z hz; have := hx z hz; simp; omega
      have e2 : L.filter (fun x => decide (k < x.1)) = L := by
        rw [List.filter_eq_self]; intro z hz; have := hx z hz; simp; omega
      have e3 : L.filter (fun x => decide (x.1 ≠ k)) = L := by
        rw [List.filter_eq_self]; intro z hz; have := hx z hz; simp; omega
      by_cases h2 : x.1 = k
      · have : pstep k a (out, false) x = (out ++ [(k, a)], true) := by simp [pstep, h2]
        rw [this, pfold_done, e3]
        simp [List.filter_cons, h2, e1, e2]
      · have : pstep k a (out, false) x = (out ++ [(k, a)] ++ [x], true) := by simp [pstep, h2, h]
        have h3 : ¬ x.1 < k := by omega
        have h4 : k < x.1 := by omega
        rw [this, pfold_done, e3]
        simp [List.filter_cons, h3, h4, e1, e2]
    · have : pstep k a (out, false) x = (out ++ [x], false) := by
        have : ¬ x.1 = k := by omega
        simp [pstep, this, h]
      have h3 : x.1 < k := by omega
      have h4 : ¬ k < x.1 := by omega
      rw [this, ih _ hs2]
      simp [List.filter_cons, h3, h4]
theorem putF_eq {L : List (Int × Int)} (hs : Srt L) (k a : Int) : putF L k a = L.filter (fun x => decide (x.1 < k)) ++ (k, a) :: L.filter (fun x => decide (k < x.1)) := by
  have := pfold_go k a L [] hs
  simpa [putF] using this
/-- a list of the reference and the bounds that it holds -/
structure AbsL (L : List (Int × Int)) (m : Int → Option Int) : Prop where
  srt : Srt L
  mem : ∀ j b, (j, b) ∈ L ↔ m j = some b
theorem AbsL.put {L : List (Int × Int)} {m : Int → Option Int} (h : AbsL L m) (k a : Int) : AbsL (putF L k a) (fun j => if j = k then some a else m j) := by
  rw [putF_eq h.srt]
  constructor
  · refine List.pairwise_append.2 ⟨h.srt.filter _, List.pairwise_cons.2 ⟨?_, h.srt.filter _⟩, ?_⟩
    · intro z hz; simp only [List.mem_filter, decide_eq_true_eq] at hz; exact hz.2
    · intro x hx z hz
      simp only [List.mem_filter, List.mem_cons, decide_eq_true_eq] at hx hz
      rcases hz with rfl | hz
      · exact hx.2
      · omega
  · intro j b
    simp only [List.mem_append, List.mem_filter, List.mem_cons, decide_eq_true_eq, Prod.mk.injEq, h.mem]
    by_cases e : j = k
    · subst e; simp; exact ⟨fun h => h.symm, fun h => h.symm⟩
    · simp only [e, if_false, false_and, false_or]
      constructor
      · rintro (h | h) <;> exact h.1
      · intro h; have : j < k ∨ k < j := by omega
        rcases this with hlt | hlt
        · exact .inl ⟨h, hlt⟩
        · exact .inr ⟨h, hlt⟩
theorem AbsL.age {L : List (Int × Int)} {m : Int → Option Int} (h : AbsL L m) (k : Int) : rAge L k = (m k).getD (-1) := by
  unfold rAge
  split
  · rename_i p e
    have h1 := List.mem_of_find?_eq_some e
    have h2 := List.find?_some e
    simp only [beq_iff_eq] at h2
    have := (h.mem p.1 p.2).1 h1
    rw [← h2, this]; rfl
  · rename_i e
    cases hm : m k with
    | none => rfl
    | some b =>
      have := List.find?_eq_none.1 e (k, b) ((h.mem k b).2 hm)
      simp at this
theorem AbsL.bd {y : Int} {L : List (Int × Int)} {m : Int → Option Int} (h : AbsL L m) (hb : Bd y m) : BdL y L := by
  intro x hx; exact hb x.1 x.2 ((h.mem x.1 x.2).1 hx)
theorem AbsL.hOf {y : Int} {L : List (Int × Int)} {m : Int → Option Int} (h : AbsL L m) (hb : Bd y m) (k : Int) : hOf y L k = (m k).getD y := by
  unfold Go.Proofs.Ytndkadphpbnpeaa.hOf
  rw [h.age]
  cases e : m k with
  | none => simp
  | some b => have := hb k b e; simp; omega
theorem aged_fst (s y h k : Int) (x : Int × Int) : (aged s y h k x).1 = x.1 := by unfold aged; split <;> rfl
theorem AbsL.acc {s y : Int} {L : List (Int × Int)} {m : Int → Option Int} (h : AbsL L m) (hb : Bd y m) {k : Int} (hk : 0 ≤ k) : AbsL (rAcc s y L k) (accM s y m k) := by
  have hA : AbsL (agedL s y (Go.Proofs.Ytndkadphpbnpeaa.hOf y L k) k L) (fun j => if j = k then m k else if 0 ≤ j ∧ j % s = k % s then (m j).bind (ageing y ((m k).getD y)) else m j) := by
    rw [h.hOf hb]
    constructor
    · refine List.Pairwise.filter _ ?_
      rw [List.pairwise_map]
      exact h.srt.imp (fun {a b} hab => by rw [aged_fst, aged_fst]; exact hab)
    · intro j b
      simp only [agedL, List.mem_filter, List.mem_map, decide_eq_true_eq]
      constructor
      · rintro ⟨⟨⟨j0, b0⟩, hx, he⟩, hlt⟩
        have hm := (h.mem _ _).1 hx
        have := hb _ _ hm
        have ej : j0 = j := by have := congrArg Prod.fst he; rw [aged_fst] at this; exact this
        subst ej
        simp only [aged] at he
        by_cases e : j0 = k
        · subst e; simp at he; subst he; simp [hm]
        · simp only [e, if_false]
          by_cases e2 : j0 % s = k % s
          · simp only [ne_eq, e, not_false_eq_true, true_and, e2] at he
            rw [if_pos ⟨this.1, e2⟩, hm, Option.bind_some, ageing]
            by_cases e3 : b0 ≤ (m k).getD y
            · rw [if_pos e3] at he; simp at he; subst he
              rw [if_neg (by omega), if_neg (by omega)]
            · rw [if_neg e3] at he; simp at he; subst he
              rw [if_pos (by omega)]
          · simp only [e2, false_and, and_false, if_false] at he
            simp at he; subst he
            rw [if_neg (by simp [e2])]; exact hm
      · intro hj
        by_cases e : j = k
        · subst e
          simp only [if_true] at hj
          refine ⟨⟨(j, b), (h.mem _ _).2 hj, by simp [aged]⟩, (hb _ _ hj).2.2⟩
        · simp only [e, if_false] at hj
          by_cases e2 : 0 ≤ j ∧ j % s = k % s
          · rw [if_pos e2] at hj
            obtain ⟨b0, h0, h1⟩ := Option.bind_eq_some_iff.1 hj
            have := hb _ _ h0
            simp only [ageing] at h1
            refine ⟨⟨(j, b0), (h.mem _ _).2 h0, ?_⟩, ?_⟩
            · by_cases e3 : (m k).getD y < b0
              · rw [if_pos e3] at h1; simp at h1; subst h1
                simp only [aged]; rw [if_neg (by simp [e3])]
              · rw [if_neg e3] at h1
                split at h1
                · simp at h1
                · simp at h1; subst h1
                  simp only [aged]; rw [if_pos ⟨e, e2.2, by omega⟩]
            · split at h1
              · simp at h1; omega
              · split at h1
                · simp at h1
                · simp at h1; omega
          · rw [if_neg e2] at hj
            have := hb _ _ hj
            refine ⟨⟨(j, b), (h.mem _ _).2 hj, ?_⟩, this.2.2⟩
            simp only [aged]; rw [if_neg]; rintro ⟨_, h2, _⟩; exact e2 ⟨this.1, h2⟩
  have := hA.put k 0
  refine ⟨this.srt, fun j b => (this.mem j b).trans ?_⟩
  simp only [accM]
  by_cases e : j = k
  · simp [e]
  · simp [e]
theorem AbsL.puts {L : List (Int × Int)} {m : Int → Option Int} (h : AbsL L m) (lo : Int) : ∀ n : Nat, AbsL (rPuts L lo n) (rangeM m lo n) := by
  intro n
  induction n with
  | zero =>
    have e : rangeM m lo (0 : Nat) = m := by funext j; simp only [rangeM]; rw [if_neg (by omega)]
    rw [e]; exact h
  | succ n ih =>
    have := ih.put (lo + n) 0
    have e : (fun j => if j = lo + n then some 0 else rangeM m lo n j) = rangeM m lo ((n + 1 : Nat) : Int) := by
      funext j
      simp only [rangeM]
      by_cases e1 : j = lo + n
      · subst e1; rw [if_pos rfl, if_pos (by omega)]
      · rw [if_neg e1]
        by_cases e2 : lo ≤ j ∧ j < lo + n
        · rw [if_pos e2, if_pos (by omega)]
        · rw [if_neg e2, if_neg (by omega)]
    rw [e] at this
    exact this
/-- a state of may and one of the reference are the same -/
def Same (M : Option (Int → Option Int)) (r : Bool × List (Int × Int)) : Prop := match M with | none => r.1 = true | some m => r.1 = false ∧ AbsL r.2 m
def stepR (s y : Int) (r : Bool × List (Int × Int)) (lo hi : Int) : Bool × List (Int × Int) :=
  if lo = hi then (r.1, if r.1 = true ∨ lo < 0 then r.2 else rAcc s y r.2 lo) else rRng s y r.1 r.2 lo hi
theorem Same.step {s y : Int} (hy : 1 ≤ y) {M : Option (Int → Option Int)} {r : Bool × List (Int × Int)} (h : Same M r) (hb : BdS y M) (lo hi : Int) : Same (stepS s y M lo hi) (stepR s y r lo hi) := by
  obtain ⟨u, L⟩ := r
  cases M with
  | none =>
    have hu : u = true := h
    subst hu
    have : stepS s y none lo hi = none := by simp [stepS, accS, rngS]
    rw [this]
    by_cases e : lo = hi <;> simp [stepR, e, Same, rRng]
  | some m =>
    obtain ⟨hu, hA⟩ := h
    simp only at hu hA
    subst hu
    have hm := hb m rfl
    by_cases e : lo = hi
    · subst e
      simp only [stepS, stepR, accS, if_true, Option.map_some, Bool.false_eq_true, false_or]
      by_cases e2 : lo < 0
      · simp only [e2, if_true]; exact ⟨rfl, hA⟩
      · simp only [e2, if_false]; exact ⟨rfl, hA.acc hm (by omega)⟩
    · simp only [stepS, stepR, if_neg e, rngS, rRng, Option.bind_some, Bool.false_eq_true, false_or]
      by_cases e1 : hi < max lo 0
      · simp only [if_pos e1]; exact ⟨rfl, hA⟩
      · simp only [if_neg e1]
        by_cases e2 : max lo 0 = hi
        · simp only [if_pos e2]; exact ⟨rfl, hA.acc hm (by omega)⟩
        · simp only [if_neg e2]
          by_cases e3 : 64 ≤ hi - max lo 0
          · simp only [if_pos e3]; rfl
          · simp only [if_neg e3]
            refine ⟨rfl, ?_⟩
            have := hA.puts (max lo 0) (hi - max lo 0 + 1).toNat
            have e4 : ((hi - max lo 0 + 1).toNat : Int) = hi - max lo 0 + 1 := by omega
            rw [e4] at this
            exact this
theorem stepR_len (s y : Int) (r : Bool × List (Int × Int)) (lo hi : Int) : (stepR s y r lo hi).2.length ≤ r.2.length + 64 := by
  have hacc : ∀ k, (rAcc s y r.2 k).length ≤ r.2.length + 1 := by
    intro k
    have h1 := putF_len (agedL s y (Go.Proofs.Ytndkadphpbnpeaa.hOf y r.2 k) k r.2) k 0
    have h2 := agedL_len s y (Go.Proofs.Ytndkadphpbnpeaa.hOf y r.2 k) k r.2
    unfold rAcc; omega
  unfold stepR
  split
  · simp only []; split
    · omega
    · have := hacc lo; omega
  · unfold rRng
    split
    · simp only []; omega
    · split
      · have := hacc hi; simp only []; omega
      · split
        · simp
        · have := rPuts_len r.2 (max lo 0) (hi - max lo 0 + 1).toNat; simp only []; omega
end Go.Proofs.Ytndkadphpbnpeaa
