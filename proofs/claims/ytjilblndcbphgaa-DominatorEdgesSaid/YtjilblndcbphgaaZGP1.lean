/-
  Plain: depth-first search, its post-order.
-/
import Derived.Test.YtjilblndcbphgaaZV15
set_option linter.unusedSimpArgs false
set_option linter.unusedVariables false
namespace Go.Proofs.Ytjilblndcbphgaa
/-- successors in range -/
def NOk (N : List (List Int)) : Prop := ∀ l ∈ N, ∀ m ∈ l, 0 ≤ m ∧ m < N.length
def sc (N : List (List Int)) (b : Nat) : List Int := N.getD b []
theorem NOk.sc {N : List (List Int)} (h : NOk N) {b : Nat} {m : Int} (hm : m ∈ sc N b) : 0 ≤ m ∧ m.toNat < N.length := by
  unfold Go.Proofs.Ytjilblndcbphgaa.sc at hm
  by_cases hb : b < N.length
  · rw [List.getD_eq_getElem?_getD, List.getElem?_eq_getElem hb] at hm
    have := h _ (List.getElem_mem hb) m hm
    omega
  · rw [List.getD_eq_getElem?_getD, List.getElem?_eq_none (by omega)] at hm
    simp at hm
def setS (S : Nat → Bool) (b : Nat) : Nat → Bool := fun i => if i = b then true else S i
/-- a visit: what is seen, and the blocks in the order in which they are left -/
def vis (N : List (List Int)) : Nat → (Nat → Bool) → List Int → Nat → (Nat → Bool) × List Int
  | 0, S, out, _ => (S, out)
  | k + 1, S, out, b =>
    let r := (sc N b).foldl (fun s n => if s.1 n.toNat = true then s else vis N k s.1 s.2 n.toNat) (setS S b, out)
    (r.1, r.2 ++ [(b : Int)])
def visL (N : List (List Int)) (k : Nat) (s : (Nat → Bool) × List Int) (l : List Int) : (Nat → Bool) × List Int := l.foldl (fun s n => if s.1 n.toNat = true then s else vis N k s.1 s.2 n.toNat) s
theorem vis_succ (N : List (List Int)) (k : Nat) (S : Nat → Bool) (out : List Int) (b : Nat) : vis N (k + 1) S out b = ((visL N k (setS S b, out) (sc N b)).1, (visL N k (setS S b, out) (sc N b)).2 ++ [(b : Int)]) := rfl
theorem visL_snoc (N : List (List Int)) (k : Nat) (s : (Nat → Bool) × List Int) (l : List Int) (n : Int) : visL N k s (l ++ [n]) = if (visL N k s l).1 n.toNat = true then visL N k s l else vis N k (visL N k s l).1 (visL N k s l).2 n.toNat := by
  unfold visL
  rw [List.foldl_append]
  rfl
theorem visL_cons (N : List (List Int)) (k : Nat) (s : (Nat → Bool) × List Int) (l : List Int) (n : Int) : visL N k s (n :: l) = visL N k (if s.1 n.toNat = true then s else vis N k s.1 s.2 n.toNat) l := rfl
/-- how many are not seen -/
def uns (n : Nat) (S : Nat → Bool) : Nat := ((List.range n).filter fun i => !S i).length
theorem uns_mono {n : Nat} {S S' : Nat → Bool} (h : ∀ i, S i = true → S' i = true) : uns n S' ≤ uns n S := by
  unfold uns
  rw [← List.countP_eq_length_filter, ← List.countP_eq_length_filter]
  refine List.countP_mono_left fun m _ hm => ?_
  simp only [Bool.not_eq_true'] at hm ⊢
  cases e : S m with
  | false => rfl
  | true => rw [h m e] at hm; cases hm
theorem uns_set {n : Nat} {S : Nat → Bool} {b : Nat} (hb : b < n) (hS : S b = false) : uns n (setS S b) + 1 ≤ uns n S := by
  have h1 : ((List.range n).filter fun i => !setS S b i).Sublist ((List.range n).filter fun i => !S i) := by
    have : ((List.range n).filter fun i => !setS S b i) = ((List.range n).filter fun i => !S i).filter fun i => decide (i ≠ b) := by
      rw [List.filter_filter]
      refine List.filter_congr fun i _ => ?_
      unfold setS
      by_cases e : i = b <;> simp [e]
    rw [this]
    exact List.filter_sublist
  have hb1 : b ∈ (List.range n).filter fun i => !S i := by
    rw [List.mem_filter]; exact ⟨List.mem_range.2 hb, by simp [hS]⟩
  have hb2 : b ∉ (List.range n).filter fun i => !setS S b i := by
    rw [List.mem_filter]
    rintro ⟨_, h⟩
    simp [setS] at h
  unfold uns
  apply Nat.lt_of_le_of_ne h1.length_le
  intro e
  have := h1.eq_of_length e
  rw [this] at hb2
  exact hb2 hb1
theorem uns_pos {n : Nat} {S : Nat → Bool} {b : Nat} (hb : b < n) (hS : S b = false) : 1 ≤ uns n S := by
  have := uns_set hb hS
  omega
/-- what a stretch of the search does -/
structure Seg (N : List (List Int)) (S S' : Nat → Bool) (top : List Int) (seg : List Int) : Prop where
  rng : ∀ x ∈ seg, 0 ≤ x ∧ x.toNat < N.length ∧ S x.toNat = false
  seen : ∀ i : Nat, S' i = true ↔ S i = true ∨ (i : Int) ∈ seg
  nodup : seg.Nodup
  par : ∀ A x C, seg = A ++ x :: C → x ∈ top ∨ ∃ y ∈ C, x ∈ sc N y.toNat
theorem Seg.nil (N : List (List Int)) (S : Nat → Bool) (top : List Int) : Seg N S S top [] := ⟨by simp, by simp, by simp, fun A x C h => by simp at h⟩
theorem Seg.mono {N : List (List Int)} {S S' : Nat → Bool} {top top' seg : List Int} (h : Seg N S S' top seg) (ht : ∀ x ∈ top, x ∈ top') : Seg N S S' top' seg :=
  ⟨h.rng, h.seen, h.nodup, fun A x C e => (h.par A x C e).imp (ht x) id⟩
theorem Seg.le {N : List (List Int)} {S S' : Nat → Bool} {top seg : List Int} (h : Seg N S S' top seg) : ∀ i, S i = true → S' i = true := fun i hi => (h.seen i).2 (.inl hi)
theorem Seg.trans {N : List (List Int)} {S S' S'' : Nat → Bool} {top seg seg' : List Int} (h : Seg N S S' top seg) (k : Seg N S' S'' top seg') : Seg N S S'' top (seg ++ seg') := by
  refine ⟨fun x hx => ?_, fun i => ?_, ?_, fun A x C e => ?_⟩
  · rcases List.mem_append.1 hx with hx | hx
    · exact h.rng x hx
    · obtain ⟨q1, q2, q3⟩ := k.rng x hx
      refine ⟨q1, q2, ?_⟩
      cases e : S x.toNat with
      | false => rfl
      | true => rw [h.le _ e] at q3; cases q3
  · rw [k.seen, h.seen, List.mem_append]
    exact or_assoc
  · rw [List.nodup_append]
    refine ⟨h.nodup, k.nodup, fun a ha b hb e => ?_⟩
    subst e
    obtain ⟨q1, q2, q3⟩ := k.rng a hb
    have := (h.seen a.toNat).2 (.inr (by rw [Int.toNat_of_nonneg q1]; exact ha))
    rw [this] at q3
    cases q3
  · rw [List.append_eq_append_iff] at e
    rcases e with ⟨D, e1, e2⟩ | ⟨D, e1, e2⟩
    · exact k.par D x C e2
    · cases D with
      | nil =>
        simp only [List.nil_append] at e2
        exact k.par [] x C (by simp [e2])
      | cons z D =>
        simp only [List.cons_append, List.cons.injEq] at e2
        obtain ⟨rfl, rfl⟩ := e2
        rcases h.par A x D e1 with q | ⟨y, hy, q⟩
        · exact .inl q
        · exact .inr ⟨y, by simp [hy], q⟩
theorem Seg.len {N : List (List Int)} {S S' : Nat → Bool} {top seg : List Int} (h : Seg N S S' top seg) : seg.length + uns N.length S' ≤ uns N.length S := by
  have hnd : (seg ++ ((List.range N.length).filter fun i => !S' i).map Int.ofNat).Nodup := by
    rw [List.nodup_append]
    refine ⟨h.nodup, ?_, fun a ha b hb e => ?_⟩
    · unfold List.Nodup
      rw [List.pairwise_map]
      refine (List.nodup_range.filter _).imp ?_
      intro a b hab e
      exact hab (Int.ofNat.inj e)
    · subst e
      obtain ⟨i, hi, rfl⟩ := List.mem_map.1 hb
      rw [List.mem_filter] at hi
      have := (h.seen i).2 (.inr ha)
      simp [this] at hi
  have hsub : ∀ x ∈ seg ++ ((List.range N.length).filter fun i => !S' i).map Int.ofNat, x ∈ ((List.range N.length).filter fun i => !S i).map Int.ofNat := by
    intro x hx
    rcases List.mem_append.1 hx with hx | hx
    · obtain ⟨q1, q2, q3⟩ := h.rng x hx
      exact List.mem_map.2 ⟨x.toNat, List.mem_filter.2 ⟨List.mem_range.2 q2, by simp [q3]⟩, by simp only [Int.ofNat_eq_natCast]; omega⟩
    · obtain ⟨i, hi, rfl⟩ := List.mem_map.1 hx
      rw [List.mem_filter] at hi
      refine List.mem_map.2 ⟨i, List.mem_filter.2 ⟨hi.1, ?_⟩, rfl⟩
      cases e : S i with
      | false => rfl
      | true => rw [h.le i e] at hi; simp at hi
  have := List.Nodup.length_le_of_subset hnd hsub
  rw [List.length_append, List.length_map, List.length_map] at this
  exact this
/-- all successors of what has been left are seen -/
def Clo (N : List (List Int)) (S' : Nat → Bool) (seg : List Int) : Prop := ∀ x ∈ seg, ∀ m ∈ sc N x.toNat, S' m.toNat = true
theorem Clo.mono {N : List (List Int)} {S S' : Nat → Bool} {seg : List Int} (h : Clo N S seg) (hl : ∀ i, S i = true → S' i = true) : Clo N S' seg := fun x hx m hm => hl _ (h x hx m hm)
theorem vis_spec {N : List (List Int)} (hN : NOk N) : ∀ (k : Nat), (∀ (S : Nat → Bool) (out : List Int) (b : Nat), b < N.length → S b = false → uns N.length S ≤ k →
    ∃ seg, (vis N k S out b).2 = out ++ seg ∧ (∃ s', seg = s' ++ [(b : Int)]) ∧ Seg N S (vis N k S out b).1 [(b : Int)] seg ∧ Clo N (vis N k S out b).1 seg) ∧
    ∀ (l : List Int) (S : Nat → Bool) (out : List Int), (∀ m ∈ l, 0 ≤ m ∧ m.toNat < N.length) → uns N.length S ≤ k →
      ∃ seg, (visL N k (S, out) l).2 = out ++ seg ∧ Seg N S (visL N k (S, out) l).1 l seg ∧ Clo N (visL N k (S, out) l).1 seg ∧ ∀ m ∈ l, (visL N k (S, out) l).1 m.toNat = true := by
  intro k
  induction k with
  | zero =>
    have hv : ∀ (S : Nat → Bool) (b : Nat), b < N.length → S b = false → uns N.length S ≤ 0 → False := fun S b hb hS h => by have := uns_pos hb hS; omega
    refine ⟨fun S out b hb hS h => (hv S b hb hS h).elim, fun l => ?_⟩
    induction l with
    | nil => intro S out _ _; exact ⟨[], by simp [visL], Seg.nil N S [], fun x hx => by simp at hx, by simp⟩
    | cons n l ih =>
      intro S out hl hu
      obtain ⟨h1, h2⟩ := hl n (by simp)
      cases hS : S n.toNat with
      | false => exact (hv S _ h2 hS hu).elim
      | true =>
        rw [visL_cons, if_pos hS]
        obtain ⟨seg, q1, q2, q3, q4⟩ := ih S out (fun m hm => hl m (by simp [hm])) hu
        refine ⟨seg, q1, q2.mono (fun x hx => List.mem_cons_of_mem _ hx), q3, fun m hm => ?_⟩
        rcases List.mem_cons.1 hm with rfl | hm
        · exact q2.le _ hS
        · exact q4 m hm
  | succ k ih =>
    have hvis : ∀ (S : Nat → Bool) (out : List Int) (b : Nat), b < N.length → S b = false → uns N.length S ≤ k + 1 →
        ∃ seg, (vis N (k + 1) S out b).2 = out ++ seg ∧ (∃ s', seg = s' ++ [(b : Int)]) ∧ Seg N S (vis N (k + 1) S out b).1 [(b : Int)] seg ∧ Clo N (vis N (k + 1) S out b).1 seg := by
      intro S out b hb hS hu
      have h1 := uns_set hb hS
      obtain ⟨seg, q1, q2, q3, q4⟩ := ih.2 (sc N b) (setS S b) out (fun m hm => hN.sc hm) (by omega)
      rw [vis_succ]
      simp only []
      generalize visL N k (setS S b, out) (sc N b) = r at *
      have hbs : (b : Int) ∉ seg := fun h => by
        have := (q2.rng _ h).2.2
        simp [setS] at this
      refine ⟨seg ++ [(b : Int)], by rw [q1]; simp, ⟨seg, rfl⟩, ⟨fun x hx => ?_, fun i => ?_, ?_, fun A x C e => ?_⟩, fun x hx m hm => ?_⟩
      · rcases List.mem_append.1 hx with hx | hx
        · obtain ⟨k1, k2, k3⟩ := q2.rng x hx
          refine ⟨k1, k2, ?_⟩
          unfold setS at k3
          split at k3
          · cases k3
          · exact k3
        · simp only [List.mem_singleton] at hx
          subst hx
          exact ⟨by omega, by simpa using hb, by simpa using hS⟩
      · rw [q2.seen, List.mem_append, List.mem_singleton]
        unfold setS
        by_cases e : i = b
        · subst e; simp
        · simp only [e, if_false]
          have : ¬ ((i : Int) = (b : Int)) := by omega
          simp [this]
      · rw [List.nodup_append]
        refine ⟨q2.nodup, by simp, fun a ha c hc e => ?_⟩
        simp only [List.mem_singleton] at hc
        subst hc e
        exact hbs ha
      · by_cases hC : C = []
        · subst hC
          have := List.append_inj' e rfl
          simp only [List.cons.injEq, and_true] at this
          left
          simp [this.2]
        · obtain ⟨C', z, rfl⟩ : ∃ C' z, C = C' ++ [z] := ⟨C.dropLast, C.getLast hC, (List.dropLast_concat_getLast hC).symm⟩
          rw [← List.cons_append, ← List.append_assoc] at e
          obtain ⟨e1, e2⟩ := List.append_inj' e rfl
          simp only [List.cons.injEq, and_true] at e2
          subst e2
          right
          rcases q2.par A x C' e1 with q | ⟨y, hy, q⟩
          · exact ⟨b, by simp, by simpa using q⟩
          · exact ⟨y, by simp [hy], q⟩
      · rcases List.mem_append.1 hx with hx | hx
        · exact q3 x hx m hm
        · simp only [List.mem_singleton] at hx
          subst hx
          exact q4 m (by simpa using hm)
    refine ⟨hvis, fun l => ?_⟩
    induction l with
    | nil => intro S out _ _; exact ⟨[], by simp [visL], Seg.nil N S [], fun x hx => by simp at hx, by simp⟩
    | cons n l ih2 =>
      intro S out hl hu
      obtain ⟨h1, h2⟩ := hl n (by simp)
      rw [visL_cons]
      cases hS : S n.toNat with
      | true =>
        rw [if_pos (show (S, out).1 n.toNat = true from hS)]
        obtain ⟨seg, q1, q2, q3, q4⟩ := ih2 S out (fun m hm => hl m (by simp [hm])) hu
        refine ⟨seg, q1, q2.mono (fun x hx => List.mem_cons_of_mem _ hx), q3, fun m hm => ?_⟩
        rcases List.mem_cons.1 hm with rfl | hm
        · exact q2.le _ hS
        · exact q4 m hm
      | false =>
        rw [if_neg (show ¬ (S, out).1 n.toNat = true by simp [hS])]
        obtain ⟨seg, q1, ⟨s', q2⟩, q3, q4⟩ := hvis S out n.toNat h2 hS hu
        have hle := uns_mono (n := N.length) q3.le
        obtain ⟨seg2, p1, p2, p3, p4⟩ := ih2 (vis N (k + 1) S out n.toNat).1 (vis N (k + 1) S out n.toNat).2 (fun m hm => hl m (by simp [hm])) (by omega)
        have hn : ((n.toNat : Nat) : Int) = n := by omega
        refine ⟨seg ++ seg2, ?_, (q3.mono (by simp [hn])).trans (p2.mono (fun x hx => List.mem_cons_of_mem _ hx)), ?_, fun m hm => ?_⟩
        · rw [p1, q1, List.append_assoc]
        · intro x hx m hm
          rcases List.mem_append.1 hx with hx | hx
          · exact p2.le _ (q4 x hx m hm)
          · exact p3 x hx m hm
        · rcases List.mem_cons.1 hm with rfl | hm
          · apply p2.le
            rw [q3.seen]
            right
            rw [q2]
            exact List.mem_append.2 (.inr (List.mem_singleton.2 rfl))
          · exact p4 m hm
end Go.Proofs.Ytjilblndcbphgaa
