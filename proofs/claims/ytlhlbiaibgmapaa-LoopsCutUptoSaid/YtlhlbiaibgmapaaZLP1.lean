/-
  Plain: what the depth-first search says of edges that go back.
-/
import Derived.Test.YtlhlbiaibgmapaaZGQ3
set_option linter.unusedSimpArgs false
set_option linter.unusedVariables false
namespace Go.Proofs.Ytlhlbiaibgmapaa
open Go.W Go.RowKit
/-- down the search's tree, the leaving order falling -/
inductive Ds (N : List (List Int)) (l : List Int) : Int → Int → Prop
  | self (x : Int) : Ds N l x x
  | step {m p v : Int} {A C : List Int} : Ds N l m p → v ∈ sc N p.toNat → l = A ++ v :: C → p ∈ C → Ds N l m v
theorem Ds.mono {N : List (List Int)} {l : List Int} (L R : List Int) {m x : Int} (h : Ds N l m x) : Ds N (L ++ l ++ R) m x := by
  induction h with
  | self => exact .self _
  | @step p v A C _ h2 h3 h4 ih => exact .step (A := L ++ A) (C := C ++ R) ih h2 (by rw [h3]; simp) (by simp [h4])
def Anc (N : List (List Int)) (S : Nat → Bool) (seg : List Int) : Prop := ∀ A x C, seg = A ++ x :: C → ∀ m ∈ sc N x.toNat, S m.toNat = true ∨ m ∈ A ∨ (m ∈ x :: C ∧ Ds N seg m x)
theorem Seg.down {N : List (List Int)} {S S' : Nat → Bool} {b : Int} {seg : List Int} (h : Seg N S S' [b] seg) : ∀ (k : Nat) (A C : List Int) (x : Int), C.length ≤ k → seg = A ++ x :: C → Ds N seg b x := by
  intro k
  induction k with
  | zero =>
    intro A C x hC e
    rcases h.par A x C e with q | ⟨y, hy, _⟩
    · simp only [List.mem_singleton] at q; subst q; exact .self _
    · have : C = [] := List.length_eq_zero_iff.1 (by omega)
      subst this; cases hy
  | succ k ih =>
    intro A C x hC e
    rcases h.par A x C e with q | ⟨y, hy, q⟩
    · simp only [List.mem_singleton] at q; subst q; exact .self _
    · obtain ⟨C1, C2, rfl⟩ := List.append_of_mem hy
      refine .step (ih (A ++ x :: C1) C2 y ?_ (by rw [e]; simp)) q e hy
      simp at hC; omega
theorem split_mem {seg A C : List Int} {x : Int} {P Q : List Int} (e : P ++ Q = A ++ x :: C) : (∃ C1, P = A ++ x :: C1 ∧ C = C1 ++ Q) ∨ ∃ A2, A = P ++ A2 ∧ Q = A2 ++ x :: C := by
  rcases List.append_eq_append_iff.1 e with ⟨a, h1, h2⟩ | ⟨c, h1, h2⟩
  · exact .inr ⟨a, h1, h2⟩
  · cases c with
    | nil => right; exact ⟨[], by simpa using h1.symm, by simpa using h2.symm⟩
    | cons y c =>
      rw [List.cons_append, List.cons.injEq] at h2
      obtain ⟨rfl, rfl⟩ := h2
      exact .inl ⟨c, h1, rfl⟩
theorem vis_anc {N : List (List Int)} (hN : NOk N) : ∀ (k : Nat), (∀ (S : Nat → Bool) (out : List Int) (b : Nat), b < N.length → S b = false → uns N.length S ≤ k → ∀ seg, (vis N k S out b).2 = out ++ seg → Anc N S seg) ∧
    ∀ (l : List Int) (S : Nat → Bool) (out : List Int), (∀ m ∈ l, 0 ≤ m ∧ m.toNat < N.length) → uns N.length S ≤ k → ∀ seg, (visL N k (S, out) l).2 = out ++ seg → Anc N S seg := by
  intro k
  induction k with
  | zero =>
    have hv : ∀ (S : Nat → Bool) (b : Nat), b < N.length → S b = false → uns N.length S ≤ 0 → False := fun S b hb hS h => by have := uns_pos hb hS; omega
    refine ⟨fun S out b hb hS h => (hv S b hb hS h).elim, fun l => ?_⟩
    induction l with
    | nil =>
      intro S out _ _ seg hs
      have : seg = [] := by simpa [visL] using hs
      subst this
      intro A x C e
      simp at e
    | cons n l ih =>
      intro S out hl hu
      obtain ⟨h1, h2⟩ := hl n (by simp)
      cases hS : S n.toNat with
      | false => exact (hv S _ h2 hS hu).elim
      | true =>
        rw [visL_cons, if_pos hS]
        exact ih S out (fun m hm => hl m (by simp [hm])) hu
  | succ k ih =>
    have hvis : ∀ (S : Nat → Bool) (out : List Int) (b : Nat), b < N.length → S b = false → uns N.length S ≤ k + 1 → ∀ seg, (vis N (k + 1) S out b).2 = out ++ seg → Anc N S seg := by
      intro S out b hb hS hu seg hs
      have h1 := uns_set hb hS
      obtain ⟨seg', w1, _, w3, _⟩ := (vis_spec hN (k + 1)).1 S out b hb hS hu
      have e0 : seg = seg' := List.append_cancel_left (hs.symm.trans w1)
      subst e0
      obtain ⟨seg0, q1, q2, q3, q4⟩ := (vis_spec hN k).2 (sc N b) (setS S b) out (fun m hm => hN.sc hm) (by omega)
      have hanc := ih.2 (sc N b) (setS S b) out (fun m hm => hN.sc hm) (by omega) seg0 q1
      have hseg : seg = seg0 ++ [(b : Int)] := by
        rw [vis_succ] at hs
        simp only [] at hs
        rw [q1, List.append_assoc] at hs
        exact (List.append_cancel_left hs).symm
      have hset : ∀ m : Int, 0 ≤ m → setS S b m.toNat = true → S m.toNat = true ∨ m = b := fun m h0 hm => by
        unfold setS at hm
        split at hm
        · right; omega
        · exact .inl hm
      intro A x C e m hm
      rw [hseg] at e
      rcases split_mem (seg := seg) e with ⟨C1, e1, rfl⟩ | ⟨A2, rfl, e2⟩
      · have hm0 := (hN.sc hm).1
        rcases hanc A x C1 e1 m hm with h | h | ⟨h, hd⟩
        · rcases hset m hm0 h with h | rfl
          · exact .inl h
          · right; right
            exact ⟨by simp, w3.down _ A (C1 ++ [(b : Int)]) x (Nat.le_refl _) (by rw [hseg, e])⟩
        · exact .inr (.inl h)
        · right; right
          refine ⟨by simp at h ⊢; rcases h with h | h <;> simp [h], ?_⟩
          have := hd.mono [] [(b : Int)]
          rw [hseg]
          simpa using this
      · cases A2 with
        | cons y A2 => simp at e2
        | nil =>
          simp only [List.nil_append, List.cons.injEq] at e2
          obtain ⟨rfl, rfl⟩ := e2
          have hm' : m ∈ sc N b := by simpa using hm
          have hm0 := (hN.sc hm').1
          have h4 := q4 m hm'
          rw [q2.seen] at h4
          rcases h4 with h4 | h4
          · rcases hset m hm0 h4 with h | rfl
            · exact .inl h
            · exact .inr (.inr ⟨by simp, .self _⟩)
          · right; left
            have : ((m.toNat : Nat) : Int) = m := by omega
            rw [this] at h4
            simpa using h4
    refine ⟨hvis, fun l => ?_⟩
    induction l with
    | nil =>
      intro S out _ _ seg hs
      have : seg = [] := by simpa [visL] using hs
      subst this
      intro A x C e
      simp at e
    | cons n l ih2 =>
      intro S out hl hu seg hs
      obtain ⟨h1, h2⟩ := hl n (by simp)
      rw [visL_cons] at hs
      cases hS : S n.toNat with
      | true =>
        rw [if_pos (show (S, out).1 n.toNat = true from hS)] at hs
        exact ih2 S out (fun m hm => hl m (by simp [hm])) hu seg hs
      | false =>
        rw [if_neg (show ¬ (S, out).1 n.toNat = true by simp [hS])] at hs
        obtain ⟨seg1, q1, _, q3, q4⟩ := (vis_spec hN (k + 1)).1 S out n.toNat h2 hS hu
        have a1 := hvis S out n.toNat h2 hS hu seg1 q1
        have hle := uns_mono (n := N.length) q3.le
        obtain ⟨seg2, p1, _⟩ := (vis_spec hN (k + 1)).2 l (vis N (k + 1) S out n.toNat).1 (vis N (k + 1) S out n.toNat).2 (fun m hm => hl m (by simp [hm])) (by omega)
        have a2 := ih2 (vis N (k + 1) S out n.toNat).1 (vis N (k + 1) S out n.toNat).2 (fun m hm => hl m (by simp [hm])) (by omega) seg2 p1
        have hseg : seg = seg1 ++ seg2 := by
          have h3 : (visL N (k + 1) (vis N (k + 1) S out n.toNat) l).2 = out ++ seg := hs
          have h4 : (visL N (k + 1) (vis N (k + 1) S out n.toNat) l).2 = (vis N (k + 1) S out n.toNat).2 ++ seg2 := p1
          rw [h4, q1, List.append_assoc] at h3
          exact (List.append_cancel_left h3).symm
        intro A x C e m hm
        rw [hseg] at e
        rcases split_mem (seg := seg) e with ⟨C1, e1, rfl⟩ | ⟨A2, rfl, e2⟩
        · rcases a1 A x C1 e1 m hm with h | h | ⟨h, hd⟩
          · exact .inl h
          · exact .inr (.inl h)
          · right; right
            refine ⟨by simp at h ⊢; rcases h with h | h <;> simp [h], ?_⟩
            have := hd.mono [] seg2
            rw [hseg]
            simpa using this
        · have hm0 := (hN.sc hm).1
          rcases a2 A2 x C e2 m hm with h | h | ⟨h, hd⟩
          · rw [q3.seen] at h
            have : ((m.toNat : Nat) : Int) = m := by omega
            rw [this] at h
            rcases h with h | h
            · exact .inl h
            · exact .inr (.inl (by simp [h]))
          · exact .inr (.inl (by simp [h]))
          · right; right
            refine ⟨h, ?_⟩
            have := hd.mono seg1 []
            rw [hseg]
            simpa using this
theorem lv_anc {N : List (List Int)} (hN : NOk N) (h0 : 0 < N.length) : Anc N (fun _ => false) (lv N) :=
  (vis_anc hN N.length).1 (fun _ => false) [] 0 h0 rfl (by rw [uns_none]; omega) (lv N) (by unfold lv; rfl)
theorem po_split {N : List (List Int)} (hN : NOk N) (h0 : 0 < N.length) {A C : List Int} {x : Nat} (e : lv N = A ++ (x : Int) :: C) : PO N x = C.length ∧ (∀ p : Nat, (p : Int) ∈ C → PO N p < C.length) ∧ ∀ m : Nat, (m : Int) ∈ A → C.length < PO N m := by
  have hnd := lv_nodup hN h0
  have eo : ord N = C.reverse ++ (x : Int) :: A.reverse := by unfold ord; rw [e]; simp
  rw [e] at hnd
  rw [List.nodup_append] at hnd
  obtain ⟨_, h2, h3⟩ := hnd
  rw [List.nodup_cons] at h2
  refine ⟨?_, fun p hp => ?_, fun m hm => ?_⟩
  · show (ord N).idxOf (x : Int) = _
    rw [eo, idx_split (by simpa using h2.1)]
    simp
  · show (ord N).idxOf (p : Int) < _
    rw [eo]
    have := idx_mem (A := C.reverse) (C := (x : Int) :: A.reverse) (y := (p : Int)) (by simpa using hp)
    simpa using this
  · show _ < (ord N).idxOf (m : Int)
    have n1 : (m : Int) ∉ C.reverse := fun h => h3 _ hm _ (List.mem_cons_of_mem _ (by simpa using h)) rfl
    have n2 : (x : Int) ≠ m := fun h => h3 _ hm _ (by simp) h.symm
    rw [eo, List.idxOf_append, if_neg n1, List.idxOf_cons]
    have : ((x : Int) == (m : Int)) = false := by simpa using n2
    rw [this]
    simp
/-- down the search's tree -/
inductive Up (N : List (List Int)) : Nat → Nat → Prop
  | self (x : Nat) : RE N x → Up N x x
  | step {m p v : Nat} : Up N m p → ED N p v → PO N p < PO N v → RE N v → Up N m v
theorem Up.re {N : List (List Int)} {m x : Nat} (h : Up N m x) : RE N x := by cases h <;> assumption
/-- an edge back leads to a place above in the search's tree -/
theorem retreat {N : List (List Int)} (hN : NOk N) (h0 : 0 < N.length) {p b : Nat} (hp : RE N p) (hE : ED N p b) (hle : PO N b ≤ PO N p) : Up N b p := by
  obtain ⟨t, hg⟩ := gg_of hN h0
  have hb := hg.clo p b hp hE
  obtain ⟨A, C, e⟩ := List.append_of_mem (show (p : Int) ∈ lv N from hp)
  obtain ⟨k1, k2, k3⟩ := po_split hN h0 e
  have key : ∀ x : Int, Ds N (lv N) b x → ∀ y : Nat, x = y → Up N b y := fun x hd => by
    induction hd with
    | self => intro y e; obtain rfl : b = y := Int.ofNat.inj e; exact .self _ hb
    | @step q v A C h1 h2 h3 h4 ih =>
      rintro y rfl
      have hq : q ∈ lv N := by rw [h3]; simp [h4]
      have hq0 := (lv_rng hN h0 hq).1
      obtain ⟨j1, j2, j3⟩ := po_split hN h0 h3
      obtain ⟨q', rfl⟩ := Int.eq_ofNat_of_zero_le hq0
      have h5 := j2 q' h4
      exact .step (ih q' rfl) (by simpa using h2) (by omega) (by show (y : Int) ∈ lv N; rw [h3]; simp)
  rcases lv_anc hN h0 A p C e b (by simpa using hE) with h | h | ⟨_, h⟩
  · cases h
  · have := k3 b h; omega
  · exact key _ h p rfl
/-- each edge that goes back is one to a dominator -/
def Red (N : List (List Int)) (F : Nat → Int) : Prop := ∀ p b, RE N p → ED N p b → PO N b ≤ PO N p → An F p b
/-- all other edges rise -/
def Rnk (N : List (List Int)) (F : Nat → Int) : Prop := ∃ r : Nat → Nat, ∀ p b, RE N p → ED N p b → ¬ An F p b → r p < r b
theorem red_rnk {N : List (List Int)} (hN : NOk N) (h0 : 0 < N.length) {F : Nat → Int} (h : TreeOk N F) : Red N F ↔ Rnk N F := by
  constructor
  · intro hr
    exact ⟨PO N, fun p b h1 h2 h3 => by
      apply Classical.byContradiction
      intro h4
      exact h3 (hr p b h1 h2 (by omega))⟩
  · rintro ⟨r, hr⟩ p b h1 h2 h3
    apply Classical.byContradiction
    intro h4
    have h5 := hr p b h1 h2 h4
    have key : ∀ x, Up N b x → r b ≤ r x := fun x hu => by
      induction hu with
      | self => exact Nat.le_refl _
      | @step q v k1 k2 k3 k4 ih =>
        have := hr q v k1.re k2 fun ha => by have := h.wf.le ha; omega
        omega
    have := key p (retreat hN h0 h1 h2 h3)
    omega
end Go.Proofs.Ytlhlbiaibgmapaa
