/-
  dominator.Tree.
-/
import Derived.Test.YtlhlbiaibgmapaaZGA5
import Derived.Test.YtlhlbiaibgmapaaZGP6
set_option linter.unusedSimpArgs false
set_option linter.unusedVariables false
namespace Go.Proofs.Ytlhlbiaibgmapaa
open Go.W Go.RowKit
theorem prevs_le : ∀ (N : List (List Int)) (PL : List (List Int)) (k m : Nat), rowsLe PL m → (∀ l ∈ N, l.length ≤ 2) → rowsLe (prevs PL k N) (m + 2 * N.length)
  | [], PL, k, m, h, _ => h
  | l :: N, PL, k, m, h, h2 => by
    rw [prevs, List.length_cons]
    have h3 := prevs_le N (addP PL k l) (k + 1) (m + l.length) (addP_le k l PL m h) (fun x hx => h2 x (by simp [hx]))
    intro x hx
    have := h3 x hx
    have := h2 l (by simp)
    omega
theorem prevOf_le {N : List (List Int)} (h2 : ∀ l ∈ N, l.length ≤ 2) : rowsLe (prevOf N) (2 * N.length) := by
  have := prevs_le N (List.replicate N.length []) 0 0 (fun l hl => by rw [(List.mem_replicate.1 hl).2]; simp) h2
  rw [Nat.zero_add] at this
  exact this
/-- what Tree returns -/
structure TreeOk (N : List (List Int)) (F : Nat → Int) : Prop where
  wf : WF (RE N) (PO N) F
  all : ∀ b, RE N b → b ≠ 0 → 0 ≤ F b
  dom : ∀ x d : Nat, RE N x → (An F x d ↔ ¬ Rc (ED N) d x)
/-- the tree ahead of a pass -/
def Hd (N : List (List Int)) (t : Nat → Nat) (F : Nat → Int) : Prop := (F = fun _ => -1) ∨ (WF (RE N) (PO N) F ∧ (∀ b, RE N b → b ≠ 0 → 0 ≤ F b) ∧ (∀ m, Ps (ED N) (RE N) (PO N) t F m) ∧ Gd (ED N) F)
/-- within a pass, at place i -/
structure In (N : List (List Int)) (t : Nat → Nat) (o F : Nat → Int) (i : Nat) (ch : Bool) : Prop where
  wf : WF (RE N) (PO N) F
  ps : Ps (ED N) (RE N) (PO N) t F i
  gd : Gd (ED N) F
  pass : (o = (fun _ => -1) ∧ (∀ b, RE N b → i ≤ PO N b → F b = -1) ∧ (ch = false → i = 1)) ∨ (WF (RE N) (PO N) o ∧ (∀ b, RE N b → b ≠ 0 → 0 ≤ o b) ∧ (∀ m, Ps (ED N) (RE N) (PO N) t o m) ∧ P1 (RE N) (PO N) o F i)
  fx : ch = false → F = o ∧ ∀ b c : Nat, RE N b → 0 < PO N b → PO N b < i → F b = c → Nca (ED N) F b c
  le : mu (ord N).length (PO N) F ((ord N).map Int.toNat) ≤ mu (ord N).length (PO N) o ((ord N).map Int.toNat)
  lt : ch = true → mu (ord N).length (PO N) F ((ord N).map Int.toNat) < mu (ord N).length (PO N) o ((ord N).map Int.toNat)
theorem In.start {N : List (List Int)} {t : Nat → Nat} (hg : GG (ED N) (RE N) (PO N) t) {o : Nat → Int} (h : Hd N t o) : In N t o o 1 false := by
  have hfx : false = false → o = o ∧ ∀ b c : Nat, RE N b → 0 < PO N b → PO N b < 1 → o b = c → Nca (ED N) o b c := fun _ => ⟨rfl, fun b c _ h1 h2 => by omega⟩
  rcases h with rfl | ⟨h1, h2, h3, h4⟩
  · obtain ⟨k1, k2, k3⟩ := init_first hg
    exact ⟨k1, k2, k3, .inl ⟨rfl, fun _ _ _ => rfl, fun _ => rfl⟩, hfx, Nat.le_refl _, nofun⟩
  · exact ⟨h1, h3 1, h4, .inr ⟨h1, h2, h3, init_later hg⟩, hfx, Nat.le_refl _, nofun⟩
theorem setF_same {f : Nat → Int} {b c : Nat} (h : f b = c) : setF f b c = f := by
  funext x
  unfold setF
  split
  · rename_i e; rw [e, h]
  · rfl
theorem PO_lt {N : List (List Int)} {b : Nat} (hb : RE N b) : PO N b < (ord N).length := List.idxOf_lt_length_of_mem (mem_ord.2 hb)
theorem nat_nodup {N : List (List Int)} (hN : NOk N) (h0 : 0 < N.length) : ((ord N).map Int.toNat).Nodup := by
  unfold List.Nodup
  rw [List.pairwise_map]
  refine List.Pairwise.imp_of_mem ?_ (ord_nodup hN h0)
  intro a b ha hb hab e
  have h1 := (lv_rng hN h0 (mem_ord.1 ha)).1
  have h2 := (lv_rng hN h0 (mem_ord.1 hb)).1
  exact hab (by omega)
theorem In.step {N : List (List Int)} (hN : NOk N) (h0 : 0 < N.length) {t : Nat → Nat} (hg : GG (ED N) (RE N) (PO N) t) {o F : Nat → Int} {i b c : Nat} {ch : Bool} (h : In N t o F i ch) (hi0 : 0 < i) (hb : RE N b) (hi : PO N b = i) (hc : Nca (ED N) F b c) :
    In N t o (setF F b c) (i + 1) (ch || decide (F b ≠ c)) := by
  have hb0 : b ≠ 0 := by rintro rfl; rw [hg.p0] at hi; omega
  have hbl : b ∈ (ord N).map Int.toNat := List.mem_map.2 ⟨(b : Int), mem_ord.2 hb, by simp⟩
  have hms := mu_set (n := (ord N).length) (f := F) (c := c) (pos := PO N) (nat_nodup hN h0) hbl
  have hpl := PO_lt hb
  obtain ⟨hwf, hps, hgd, hpass, hfx, hle, hlt⟩ := h
  have hval : PO N c ≤ mval (ord N).length (PO N) (F b) ∧ (F b ≠ c → PO N c < mval (ord N).length (PO N) (F b)) ∧ WF (RE N) (PO N) (setF F b c) ∧ Ps (ED N) (RE N) (PO N) t (setF F b c) (i + 1) ∧ Gd (ED N) (setF F b c) ∧
      ((o = (fun _ => -1) ∧ (∀ b', RE N b' → i + 1 ≤ PO N b' → setF F b c b' = -1) ∧ F b = -1) ∨ (WF (RE N) (PO N) o ∧ (∀ b, RE N b → b ≠ 0 → 0 ≤ o b) ∧ (∀ m, Ps (ED N) (RE N) (PO N) t o m) ∧ P1 (RE N) (PO N) o (setF F b c) (i + 1))) := by
    rcases hpass with ⟨ho, hU, _⟩ | ⟨ho, hall, hPo, hP⟩
    · obtain ⟨k1, k2, k3, k4, k5⟩ := step_first hg hwf hU hps hgd hb hb0 hi hc
      have hFb := hU b hb (by omega)
      have hmv : mval (ord N).length (PO N) (F b) = (ord N).length := by rw [hFb]; rfl
      exact ⟨by omega, fun _ => by omega, k2, k4, k5, .inl ⟨ho, k3, hFb⟩⟩
    · obtain ⟨⟨p, hp, hu⟩, k2, k3, k4, k5⟩ := step_later hg ho hwf hall hPo hP hps hgd hb hb0 hi hc
      have hmv : mval (ord N).length (PO N) (F b) = PO N p := by rw [hp]; unfold mval; rw [if_neg (by omega)]; simp
      refine ⟨by rw [hmv]; exact hwf.le hu, fun hne => ?_, k2, k4, k5, .inr ⟨ho, hall, hPo, k3⟩⟩
      rcases hwf.po hu with e | e
      · exact (hne (by rw [hp, e])).elim
      · omega
  obtain ⟨v1, v2, v3, v4, v5, v6⟩ := hval
  refine ⟨v3, v4, v5, ?_, fun hch => ?_, by omega, fun hch => ?_⟩
  · rcases v6 with ⟨k1, k2, k3⟩ | k
    · refine .inl ⟨k1, k2, fun hch => ?_⟩
      simp only [Bool.or_eq_false_iff, decide_eq_false_iff_not, Classical.not_not] at hch
      rw [k3] at hch
      omega
    · exact .inr k
  · simp only [Bool.or_eq_false_iff, decide_eq_false_iff_not, Classical.not_not] at hch
    have hsame := setF_same hch.2
    rw [hsame]
    obtain ⟨e1, e2⟩ := hfx hch.1
    refine ⟨e1, fun b' c' hR h1 h2 h3 => ?_⟩
    by_cases e : b' = b
    · subst e
      rw [hch.2] at h3
      have : c = c' := Int.ofNat.inj h3
      subst this
      exact hc
    · have : PO N b' ≠ PO N b := fun q => e (hg.inj b' b hR hb q)
      exact e2 b' c' hR h1 (by omega) h3
  · simp only [Bool.or_eq_true, decide_eq_true_eq] at hch
    rcases hch with h | h
    · have := hlt h; omega
    · have := v2 h; omega
/-- behind a pass -/
theorem In.stop {N : List (List Int)} {t : Nat → Nat} (hg : GG (ED N) (RE N) (PO N) t) {o F : Nat → Int} {i : Nat} {ch : Bool} (h : In N t o F i ch) (hi : (ord N).length ≤ i) : (ch = true → Hd N t F) ∧ (ch = false → TreeOk N F) := by
  have hlt : ∀ b, RE N b → PO N b < i := fun b hb => Nat.lt_of_lt_of_le (PO_lt hb) hi
  have hps := h.ps.all hlt
  have hall : ∀ b, RE N b → b ≠ 0 → 0 ≤ F b := fun b hb hb0 => h.ps.d b hb (pos_ne hg hb hb0) (hlt b hb)
  refine ⟨fun _ => .inr ⟨h.wf, hall, hps, h.gd⟩, fun hch => ⟨h.wf, hall, fun x d hx => ?_⟩⟩
  obtain ⟨_, hfx⟩ := h.fx hch
  exact dom_of_fix hg h.wf hall h.gd (fun b c hb hb0 hc => hfx b c hb (pos_ne hg hb hb0) (hlt b hb) hc) hx
end Go.Proofs.Ytlhlbiaibgmapaa
