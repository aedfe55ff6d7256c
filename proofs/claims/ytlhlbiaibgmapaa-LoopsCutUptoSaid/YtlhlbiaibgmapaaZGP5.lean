/-
  Plain: the graph of a list of successors, its reverse post-order.
-/
import Derived.Test.YtlhlbiaibgmapaaZGP
import Derived.Test.YtlhlbiaibgmapaaZGA4
set_option linter.unusedSimpArgs false
set_option linter.unusedVariables false
namespace Go.Proofs.Ytlhlbiaibgmapaa
abbrev ED (N : List (List Int)) (p b : Nat) : Prop := (b : Int) ∈ sc N p
abbrev RE (N : List (List Int)) (x : Nat) : Prop := (x : Int) ∈ lv N
abbrev PO (N : List (List Int)) (x : Nat) : Nat := (ord N).idxOf (x : Int)
theorem lv_nodup {N : List (List Int)} (hN : NOk N) (h0 : 0 < N.length) : (lv N).Nodup := (lv_spec hN h0).2.1.nodup
theorem ord_nodup {N : List (List Int)} (hN : NOk N) (h0 : 0 < N.length) : (ord N).Nodup := by
  unfold ord List.Nodup
  rw [List.pairwise_reverse]
  exact (lv_nodup hN h0).imp Ne.symm
theorem mem_ord {N : List (List Int)} {x : Int} : x ∈ ord N ↔ x ∈ lv N := by unfold ord; exact List.mem_reverse
theorem lv_rng {N : List (List Int)} (hN : NOk N) (h0 : 0 < N.length) {x : Int} (hx : x ∈ lv N) : 0 ≤ x ∧ x.toNat < N.length := by
  have := (lv_spec hN h0).2.1.rng x hx
  exact ⟨this.1, this.2.1⟩
theorem idx_split {A C : List Int} {x : Int} (h : x ∉ A) : (A ++ x :: C).idxOf x = A.length := by
  rw [List.idxOf_append, if_neg h, List.idxOf_cons]
  simp
theorem idx_mem {A C : List Int} {y : Int} (h : y ∈ A) : (A ++ C).idxOf y < A.length := by
  rw [List.idxOf_append, if_pos h]
  exact List.idxOf_lt_length_of_mem h
theorem gg_of {N : List (List Int)} (hN : NOk N) (h0 : 0 < N.length) : ∃ t, GG (ED N) (RE N) (PO N) t := by
  obtain ⟨⟨s', hs⟩, hseg, hclo⟩ := lv_spec hN h0
  have hnd := lv_nodup hN h0
  have hpar : ∀ b : Nat, ∃ y : Nat, RE N b → b ≠ 0 → RE N y ∧ ED N y b ∧ PO N y < PO N b := by
    intro b
    by_cases hb : RE N b ∧ b ≠ 0
    · obtain ⟨A, C, hAC⟩ := List.append_of_mem hb.1
      rcases hseg.par A b C hAC with h | ⟨y, hy, hyb⟩
      · simp only [List.mem_singleton] at h
        exact (hb.2 (by omega)).elim
      · have hyl : y ∈ lv N := by rw [hAC]; simp [hy]
        obtain ⟨hy0, _⟩ := lv_rng hN h0 hyl
        have hyc : ((y.toNat : Nat) : Int) = y := by omega
        refine ⟨y.toNat, fun _ _ => ⟨by rw [RE, hyc]; exact hyl, hyb, ?_⟩⟩
        have ho : ord N = C.reverse ++ (b : Int) :: A.reverse := by unfold ord; rw [hAC]; simp
        have hnC : (b : Int) ∉ C.reverse := by
          rw [List.mem_reverse]
          intro hc
          rw [hAC, List.nodup_append] at hnd
          exact (List.nodup_cons.1 hnd.2.1).1 hc
        unfold PO
        rw [hyc, ho, idx_split hnC]
        exact idx_mem (List.mem_reverse.2 hy)
    · exact ⟨0, fun h1 h2 => (hb ⟨h1, h2⟩).elim⟩
  refine ⟨fun b => (hpar b).choose, ⟨by rw [RE, hs]; simp, ?_, fun a b ha hb e => ?_, fun p b hp he => ?_, fun b hb hb0 => (hpar b).choose_spec hb hb0⟩⟩
  · unfold PO ord
    rw [hs]
    simp
  · have h1 := List.getElem_idxOf (List.idxOf_lt_length_of_mem (mem_ord.2 ha))
    have h2 := List.getElem_idxOf (List.idxOf_lt_length_of_mem (mem_ord.2 hb))
    simp only [PO] at e
    have : (a : Int) = b := by
      rw [← h1, ← h2]
      simp only [e]
    omega
  · have := hclo (p : Int) hp (b : Int) (by simpa using he)
    rw [hseg.seen] at this
    rcases this with h | h
    · cases h
    · simpa using h
theorem ord_get {N : List (List Int)} (hN : NOk N) (h0 : 0 < N.length) {i : Nat} (hi : i < (ord N).length) : ∃ b : Nat, (ord N)[i]? = some (b : Int) ∧ RE N b ∧ PO N b = i ∧ b < N.length := by
  have hm : (ord N)[i] ∈ lv N := mem_ord.1 (List.getElem_mem hi)
  obtain ⟨h1, h2⟩ := lv_rng hN h0 hm
  have hc : (((ord N)[i].toNat : Nat) : Int) = (ord N)[i] := by omega
  refine ⟨(ord N)[i].toNat, by rw [hc]; simp, by rw [RE, hc]; exact hm, ?_, h2⟩
  unfold PO
  rw [hc]
  exact (ord_nodup hN h0).idxOf_getElem i hi
/-- reached without passing anything that is no block -/
theorem re_iff {N : List (List Int)} (hN : NOk N) (h0 : 0 < N.length) (x : Nat) : RE N x ↔ Rc (ED N) (-1) x := by
  obtain ⟨t, hg⟩ := gg_of hN h0
  constructor
  · suffices h : ∀ k x, PO N x ≤ k → RE N x → Rc (ED N) (-1) x from h _ x (Nat.le_refl _)
    intro k
    induction k with
    | zero =>
      intro x hx hR
      have : x = 0 := hg.inj x 0 hR hg.r0 (by have := hg.p0; omega)
      subst this
      exact .base (by omega)
    | succ k ih =>
      intro x hx hR
      by_cases e : x = 0
      · subst e; exact .base (by omega)
      · obtain ⟨h1, h2, h3⟩ := hg.par x hR e
        exact .step (ih (t x) (by omega) h1) h2 (by omega)
  · intro h
    induction h with
    | base => exact hg.r0
    | step _ h2 _ ih => exact hg.clo _ _ ih h2
end Go.Proofs.Ytlhlbiaibgmapaa
