/-
  Plain: persist: which lines references access.
-/
import Derived.Test.YtneipineehichaaZF
set_option linter.unusedSimpArgs false
set_option linter.unusedVariables false
namespace Go.Proofs.Ytneipineehichaa
open Go.W
/-- a reference allows an access of a line -/
def alw (r : Int × Int) (n : Int) : Prop := 0 ≤ n ∧ n ≤ 65535 ∧ r.1 ≤ n ∧ n ≤ r.2
instance (r : Int × Int) (n : Int) : Decidable (alw r n) := inferInstanceAs (Decidable (_ ∧ _))
def acd (L : List (Int × Int)) (n : Int) : Bool := L.any fun r => decide (alw r n)
theorem acd_iff {L : List (Int × Int)} {n : Int} : acd L n = true ↔ ∃ r ∈ L, alw r n := by simp [acd]
theorem acd_range {L : List (Int × Int)} {n : Int} (h : acd L n = true) : 0 ≤ n ∧ n ≤ 65535 := by
  obtain ⟨r, _, h⟩ := acd_iff.1 h
  exact ⟨h.1, h.2.1⟩
/-- the number of references that allow a line -/
def opn (L : List (Int × Int)) (n : Int) : Int := match L with
  | [] => 0
  | r :: L => (if max r.1 0 ≤ n ∧ n ≤ min r.2 65535 then 1 else 0) + opn L n
/-- what changes at a line -/
def chg (L : List (Int × Int)) (n : Int) : Int := match L with
  | [] => 0
  | r :: L => (if max r.1 0 ≤ min r.2 65535 then (if n = max r.1 0 then 1 else 0) - (if n = min r.2 65535 + 1 then 1 else 0) else 0) + chg L n
theorem opn_step : ∀ (L : List (Int × Int)) (n : Int), opn L n = opn L (n - 1) + chg L n
  | [], n => rfl
  | r :: L, n => by
    have h := opn_step L n
    simp only [opn, chg]
    rw [h]
    have : (if max r.1 0 ≤ n ∧ n ≤ min r.2 65535 then (1 : Int) else 0) = (if max r.1 0 ≤ n - 1 ∧ n - 1 ≤ min r.2 65535 then 1 else 0) + (if max r.1 0 ≤ min r.2 65535 then (if n = max r.1 0 then 1 else 0) - (if n = min r.2 65535 + 1 then 1 else 0) else 0) := by
      repeat' split
      all_goals omega
    omega
theorem opn_neg : ∀ (L : List (Int × Int)), opn L (-1) = 0
  | [] => rfl
  | r :: L => by
    simp only [opn]
    rw [opn_neg L, if_neg (by omega)]; rfl
theorem opn_bd : ∀ (L : List (Int × Int)) (n : Int), 0 ≤ opn L n ∧ opn L n ≤ L.length
  | [], n => by simp [opn]
  | r :: L, n => by
    have := opn_bd L n
    simp only [opn, List.length_cons]
    split <;> omega
theorem opn_pos : ∀ {L : List (Int × Int)} {n : Int}, 0 < opn L n ↔ acd L n = true
  | [], n => by simp [opn, acd]
  | r :: L, n => by
    have ih := opn_pos (L := L) (n := n)
    have hb := opn_bd L n
    simp only [opn, acd, List.any_cons, Bool.or_eq_true, decide_eq_true_eq] at *
    by_cases h : alw r n
    · have : max r.1 0 ≤ n ∧ n ≤ min r.2 65535 := by unfold alw at h; omega
      rw [if_pos this]
      exact ⟨fun _ => .inl h, fun _ => by omega⟩
    · have : ¬ (max r.1 0 ≤ n ∧ n ≤ min r.2 65535) := by unfold alw at h; omega
      rw [if_neg this, Int.zero_add, ih]
      exact ⟨.inr, fun q => q.elim (fun q => (h q).elim) id⟩
theorem chg_append (A B : List (Int × Int)) (n : Int) : chg (A ++ B) n = chg A n + chg B n := by
  induction A with
  | nil => simp [chg]
  | cons r A ih => simp only [List.cons_append, chg]; rw [ih]; omega
theorem chg_bd : ∀ (L : List (Int × Int)) (n : Int), -(L.length : Int) ≤ chg L n ∧ chg L n ≤ L.length
  | [], n => by simp [chg]
  | r :: L, n => by
    have := chg_bd L n
    simp only [chg, List.length_cons]
    repeat' split
    all_goals omega
/-- how many lines there are -/
def MX : Nat := 65536
theorem MX_eq : MX = 65536 := rfl
/-- the accessed lines of a set, ascending, up to a bound -/
def lns (L : List (Int × Int)) (s : Int) (i : Nat) (k : Nat) : List Int := ((List.range k).filter fun (n : Nat) => acd L (n : Int) && decide (((n : Int) % s).toNat = i)).map fun (n : Nat) => (n : Int)
def cnt (L : List (Int × Int)) (s : Int) (i : Nat) : Nat := (lns L s i MX).length
/-- the persistent lines, ascending -/
def pers (L : List (Int × Int)) (s y : Int) : List Int := ((List.range MX).filter fun (n : Nat) => acd L (n : Int) && decide ((cnt L s ((n : Int) % s).toNat : Int) ≤ y)).map fun (n : Nat) => (n : Int)
theorem lns_mem {L : List (Int × Int)} {s : Int} {i k : Nat} {n : Int} : n ∈ lns L s i k ↔ acd L n = true ∧ n < k ∧ (n % s).toNat = i := by
  unfold lns
  simp only [List.mem_map, List.mem_filter, List.mem_range, Bool.and_eq_true, decide_eq_true_eq]
  constructor
  · rintro ⟨q, ⟨h1, h2, h3⟩, rfl⟩
    exact ⟨h2, by omega, h3⟩
  · rintro ⟨h1, h2, h3⟩
    have := acd_range h1
    refine ⟨n.toNat, ⟨by omega, ?_, ?_⟩, by omega⟩
    · rw [show ((n.toNat : Nat) : Int) = n by omega]; exact h1
    · rw [show ((n.toNat : Nat) : Int) = n by omega]; exact h3
theorem lns_succ (L : List (Int × Int)) (s : Int) (i k : Nat) : lns L s i (k + 1) = lns L s i k ++ if acd L k = true ∧ ((k : Int) % s).toNat = i then [(k : Int)] else [] := by
  unfold lns
  rw [List.range_succ, List.filter_append, List.map_append]
  congr 1
  by_cases h : acd L k = true ∧ ((k : Int) % s).toNat = i
  · rw [if_pos h]; simp [h.1, h.2]
  · rw [if_neg h]
    have : (acd L k && decide (((k : Int) % s).toNat = i)) = false := by
      rw [Bool.and_eq_false_iff]
      by_cases h1 : acd L k = true
      · right; exact decide_eq_false (fun h2 => h ⟨h1, h2⟩)
      · left; simpa using h1
    simp [this]
theorem lns_sorted (L : List (Int × Int)) (s : Int) (i k : Nat) : (lns L s i k).Pairwise (· < ·) := by
  unfold lns
  rw [List.pairwise_map]
  refine List.Pairwise.imp ?_ (List.pairwise_lt_range.filter _)
  intro a b h; omega
theorem pers_mem {L : List (Int × Int)} {s y : Int} {n : Int} : n ∈ pers L s y ↔ acd L n = true ∧ (cnt L s (n % s).toNat : Int) ≤ y := by
  unfold pers
  simp only [List.mem_map, List.mem_filter, List.mem_range, Bool.and_eq_true, decide_eq_true_eq]
  constructor
  · rintro ⟨q, ⟨h1, h2, h3⟩, rfl⟩
    exact ⟨h2, h3⟩
  · rintro ⟨h1, h3⟩
    have := acd_range h1
    have := MX_eq
    refine ⟨n.toNat, ⟨by omega, ?_, ?_⟩, by omega⟩
    · rw [show ((n.toNat : Nat) : Int) = n by omega]; exact h1
    · rw [show ((n.toNat : Nat) : Int) = n by omega]; exact h3
theorem pers_sorted (L : List (Int × Int)) (s y : Int) : (pers L s y).Pairwise (· < ·) := by
  unfold pers
  rw [List.pairwise_map]
  refine List.Pairwise.imp ?_ (List.pairwise_lt_range.filter _)
  intro a b h; omega
theorem sorted_ext {A B : List Int} (hA : A.Pairwise (· < ·)) (hB : B.Pairwise (· < ·)) (h : ∀ n, n ∈ A ↔ n ∈ B) : A = B := by
  have nA : A.Nodup := hA.imp (by intro a b h; omega)
  have nB : B.Nodup := hB.imp (by intro a b h; omega)
  refine List.Perm.eq_of_pairwise (le := fun x y => x ≤ y) ?_ (hA.imp (by intro a b h; omega)) (hB.imp (by intro a b h; omega)) ((List.perm_ext_iff_of_nodup nA nB).2 h)
  intro a b _ _ h1 h2
  omega
end Go.Proofs.Ytneipineehichaa
