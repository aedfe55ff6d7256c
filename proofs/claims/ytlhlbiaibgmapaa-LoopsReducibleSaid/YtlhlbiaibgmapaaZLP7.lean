/-
  An edge more to a dominator; the tree exists.
-/
import Derived.Test.YtlhlbiaibgmapaaZLP5
import Derived.Test.YtlhlbiaibgmapaaZLP1
import Derived.Test.YtlhlbiaibgmapaaZLP2
import Derived.Test.YtlhlbiaibgmapaaZGD6
set_option linter.unusedSimpArgs false
set_option linter.unusedVariables false
namespace Go.Proofs.Ytlhlbiaibgmapaa
theorem rc_pass {E : Nat → Nat → Prop} {b a : Nat} {d : Int} (hd : ¬ Rc E (b : Int) a) (h : Rc E d a) : Rc E d b := by
  induction h with
  | base h =>
    by_cases e : b = 0
    · subst e; exact .base h
    · exact (hd (.base (by omega))).elim
  | @step p c hp hE hne ih =>
    by_cases e : c = b
    · subst e; exact .step hp hE hne
    · exact ih fun hr => hd (hr.step hE (by omega))
section
variable {N : List (List Int)} (hN : NOk N) (h0 : 0 < N.length)
include hN h0
theorem dom_re {d x : Nat} (hx : RE N x) (hne : d ≠ x) (hd : ¬ Rc (ED N) (d : Int) x) : RE N d := by
  have h1 := dom_lt' hN h0 hx hne hd
  have h2 : PO N x < (ord N).length := List.idxOf_lt_length_iff.2 (mem_ord.2 hx)
  have h3 : PO N d < (ord N).length := by omega
  exact mem_ord.1 (List.idxOf_lt_length_iff.1 h3)
theorem tree_ex : ∃ F, TreeOk N F := by
  have hz : ∀ x, ¬ Rc (ED N) ((0 : Nat) : Int) x := fun x h => by
    induction h with
    | base h => exact h rfl
    | step _ _ _ ih => exact ih
  have hex : ∀ x, RE N x → x ≠ 0 → ∃ i : Nat, (i ≠ x ∧ ¬ Rc (ED N) (i : Int) x) ∧ ∀ y, y < N.length → (y ≠ x ∧ ¬ Rc (ED N) (y : Int) x) → PO N y ≤ PO N i := fun x hx hx0 =>
    ex_max (n := N.length) (p := fun i => i ≠ x ∧ ¬ Rc (ED N) (i : Int) x) (PO N) N.length ⟨0, h0, fun e => hx0 e.symm, hz x⟩
  let F : Nat → Int := fun x => if h : RE N x ∧ x ≠ 0 then ((Classical.choose (hex x h.1 h.2) : Nat) : Int) else -1
  have hF : ∀ x (h1 : RE N x) (h2 : x ≠ 0), ∃ i : Nat, F x = i ∧ i ≠ x ∧ ¬ Rc (ED N) (i : Int) x ∧ ∀ y, y < N.length → y ≠ x → ¬ Rc (ED N) (y : Int) x → PO N y ≤ PO N i := fun x h1 h2 => by
    have := Classical.choose_spec (hex x h1 h2)
    refine ⟨Classical.choose (hex x h1 h2), ?_, this.1.1, this.1.2, fun y hy hy1 hy2 => this.2 y hy ⟨hy1, hy2⟩⟩
    show (if h : RE N x ∧ x ≠ 0 then ((Classical.choose (hex x h.1 h.2) : Nat) : Int) else -1) = _
    rw [dif_pos ⟨h1, h2⟩]
  have hF0 : ∀ x, ¬ (RE N x ∧ x ≠ 0) → F x = -1 := fun x h => by
    show (if h : RE N x ∧ x ≠ 0 then ((Classical.choose (hex x h.1 h.2) : Nat) : Int) else -1) = _
    rw [dif_neg h]
  refine ⟨F, ⟨fun b hb => hF0 b fun h => hb h.1, hF0 0 fun h => h.2 rfl, fun b hb => ?_⟩, fun b hb hb0 => ?_, fun x d hx => ⟨fun ha => ?_, ?_⟩⟩
  · have hb' : RE N b ∧ b ≠ 0 := Classical.byContradiction fun h => by rw [hF0 b h] at hb; omega
    obtain ⟨i, e1, e2, e3, _⟩ := hF b hb'.1 hb'.2
    have hr := dom_re hN h0 hb'.1 e2 e3
    refine ⟨i, e1, hr, dom_lt' hN h0 hb'.1 e2 e3, ?_⟩
    by_cases hi : i = 0
    · exact .inl hi
    · obtain ⟨j, e4, _⟩ := hF i hr hi
      exact .inr (by omega)
  · obtain ⟨i, e1, _⟩ := hF b hb hb0
    omega
  · induction ha with
    | self => exact fun h => rc_ne h rfl
    | @up x p y h1 h2 h3 ih =>
      obtain ⟨i, e1, e2, e3, _⟩ := hF x hx h1
      obtain rfl : i = p := by omega
      have hr := dom_re hN h0 hx e2 e3
      exact fun hc => ih hr (rc_pass e3 hc)
  · have key : ∀ (k x : Nat), PO N x ≤ k → RE N x → ¬ Rc (ED N) (d : Int) x → An F x d := by
      obtain ⟨t, hg⟩ := gg_of hN h0
      intro k
      induction k with
      | zero =>
        intro x hk hx hd
        by_cases e : d = x
        · subst e; exact .self _
        · have := dom_lt' hN h0 hx e hd; omega
      | succ k ih =>
        intro x hk hx hd
        by_cases e : d = x
        · subst e; exact .self _
        · have hlt := dom_lt' hN h0 hx e hd
          have hx0 : x ≠ 0 := by rintro rfl; rw [hg.p0] at hlt; omega
          obtain ⟨i, e1, e2, e3, e4⟩ := hF x hx hx0
          have hri := dom_re hN h0 hx e2 e3
          have hrd := dom_re hN h0 hx e hd
          have hli := dom_lt' hN h0 hx e2 e3
          by_cases e5 : d = i
          · subst e5; exact .up hx0 e1 (.self _)
          · have h6 := e4 d (RE.lt hN h0 hrd) e hd
            have h7 : PO N d ≠ PO N i := fun q => e5 (hg.inj d i hrd hri q)
            exact .up hx0 e1 (ih i (by omega) hri (dom_chain hN h0 hx hd e3 (by omega)))
    exact key _ x (Nat.le_refl _) hx
theorem good_red {F : Nat → Int} (hT : TreeOk N F) : Good N ↔ Red N F := by
  have hre : ∀ x, rch N (-1) x = true ↔ RE N x := fun x => by rw [rch_iff hN h0, re_iff hN h0]
  constructor
  · intro hg p b h1 h2 h3
    rw [hT.dom p b h1]
    by_cases e : b = p
    · subst e; exact fun h => rc_ne h rfl
    · have hp : p < N.length := RE.lt hN h0 h1
      have he : ((p : Int), (b : Int)) ∈ edg 0 N := (edg_mem N 0 _).2 ⟨p, hp, by simp, h2⟩
      have hb := hg _ he
      unfold badE isR at hb
      simp only [Int.toNat_natCast] at hb
      rw [(hre p).2 h1, decide_eq_true h3, Bool.true_and, Bool.true_and, Bool.not_eq_false'] at hb
      exact (rdom_iff hN h0 h1).1 hb
  · intro hr e he
    obtain ⟨a, b, rfl, ha, hb, hE⟩ := edg_rng hN he
    unfold badE
    cases hR : isR N ((a : Int), (b : Int)) with
    | false => rfl
    | true =>
      unfold isR at hR
      simp only [Int.toNat_natCast, Bool.and_eq_true, decide_eq_true_eq] at hR
      have h1 := (hre a).1 hR.1
      have h2 := hr a b h1 hE hR.2
      rw [hT.dom a b h1, ← rdom_iff hN h0 h1] at h2
      simp only [Int.toNat_natCast]
      rw [h2]
      rfl
theorem good_rnk {F : Nat → Int} (hT : TreeOk N F) : Good N ↔ Rnk N F := by rw [good_red hN h0 hT, red_rnk hN h0 hT]
section
variable {a b : Nat} (ha : RE N a) (hd : ¬ Rc (ED N) (b : Int) a)
include ha hd
theorem rc_more (d : Int) (x : Nat) : Rc (ED (addE N a b)) d x ↔ Rc (ED N) d x := by
  have hal := RE.lt hN h0 ha
  constructor
  · intro h
    induction h with
    | base h => exact .base h
    | @step p c hp hE hne ih =>
      rcases (addE_ed hal p c).1 hE with h1 | ⟨rfl, rfl⟩
      · exact .step ih h1 hne
      · exact rc_pass hd ih
  · intro h
    induction h with
    | base h => exact .base h
    | @step p c hp hE hne ih => exact .step ih ((addE_ed hal p c).2 (.inl hE)) hne
theorem good_more (hN' : NOk (addE N a b)) (hg : Good N) : Good (addE N a b) := by
  have hal := RE.lt hN h0 ha
  have h0' : 0 < (addE N a b).length := by rw [addE_len]; exact h0
  obtain ⟨F, hT⟩ := tree_ex hN h0
  obtain ⟨F', hT'⟩ := tree_ex hN' h0'
  have hre : ∀ x, RE (addE N a b) x ↔ RE N x := fun x => by rw [re_iff hN' h0', re_iff hN h0, rc_more hN h0 ha hd]
  rw [good_rnk hN' h0' hT']
  obtain ⟨r, hr⟩ := (good_rnk hN h0 hT).1 hg
  refine ⟨r, fun p c h1 h2 h3 => ?_⟩
  have h1' := (hre p).1 h1
  rw [hT'.dom p c h1, rc_more hN h0 ha hd] at h3
  rcases (addE_ed hal p c).1 h2 with h4 | ⟨rfl, rfl⟩
  · exact hr p c h1' h4 (by rw [hT.dom p c h1']; exact h3)
  · exact (h3 hd).elim
theorem lat_more (hN' : NOk (addE N a b)) (hg : Good N) (x h : Nat) : (x : Int) ∈ lat (addE N a b) h ↔ (x : Int) ∈ lat N h ∨ (x = a ∧ h = b) := by
  have hal := RE.lt hN h0 ha
  have h0' : 0 < (addE N a b).length := by rw [addE_len]; exact h0
  have hre : ∀ x, RE (addE N a b) x ↔ RE N x := fun x => by rw [re_iff hN' h0', re_iff hN h0, rc_more hN h0 ha hd]
  rw [lat_iff hN' h0' (good_more hN h0 ha hd hN' hg), lat_iff hN h0 hg, hre, rc_more hN h0 ha hd, addE_ed hal]
  constructor
  · rintro ⟨h1, h2 | h2, h3⟩
    · exact .inl ⟨h1, h2, h3⟩
    · exact .inr h2
  · rintro (⟨h1, h2, h3⟩ | ⟨rfl, rfl⟩)
    · exact ⟨h1, .inl h2, h3⟩
    · exact ⟨ha, .inr ⟨rfl, rfl⟩, hd⟩
end
end
end Go.Proofs.Ytlhlbiaibgmapaa
