/-
  Plain: what an access does to the ages.
-/
import Derived.Test.YtehmbpkcbmnfnaaZK
set_option linter.unusedSimpArgs false
set_option linter.unusedVariables false
namespace Go.Proofs.Ytehmbpkcbmnfnaa
open Go.W Go.RowKit
open C (dst stS addH hh mem_dst dst_nodup stS_get stS_getD set_lt hitS hitS_stS)
theorem filter_pos {n k : Int} : ∀ {M : List Int} {j : Nat}, M.Nodup → (M.filter (· != n))[j]? = some k → (M[j]? = some k ∧ ∀ q, q ≤ j → M[q]? ≠ some n) ∨ (M[j + 1]? = some k ∧ ∃ i, i ≤ j ∧ M[i]? = some n)
  | [], j, _, h => by simp at h
  | x :: M, j, hn, h => by
    rw [List.nodup_cons] at hn
    rw [List.filter_cons] at h
    by_cases e : x = n
    · subst e
      have hf : M.filter (· != x) = M := by
        rw [List.filter_eq_self]
        intro a ha
        simp only [bne_iff_ne, ne_eq]
        rintro rfl
        exact hn.1 ha
      simp only [bne_self_eq_false, Bool.false_eq_true, if_false, hf] at h
      exact .inr ⟨by simpa using h, 0, Nat.zero_le _, by simp⟩
    · have e2 : (x != n) = true := by simpa using e
      rw [if_pos e2] at h
      cases j with
      | zero =>
        refine .inl ⟨by simpa using h, fun q hq => ?_⟩
        obtain rfl : q = 0 := by omega
        simpa using e
      | succ j =>
        simp only [List.getElem?_cons_succ] at h
        rcases filter_pos hn.2 h with ⟨h, hq⟩ | ⟨h1, i, hi, h2⟩
        · refine .inl ⟨by simpa using h, fun q hq' => ?_⟩
          cases q with
          | zero => simpa using e
          | succ q => simpa using hq q (by omega)
        · exact .inr ⟨by simpa using h1, i + 1, by omega, by simpa using h2⟩
theorem filter_back {n k : Int} (hkn : k ≠ n) : ∀ {M : List Int} {j : Nat}, M.Nodup → M[j]? = some k → ((∀ q, q ≤ j → M[q]? ≠ some n) ∧ (M.filter (· != n))[j]? = some k) ∨ (∃ q, q < j ∧ M[q]? = some n ∧ (M.filter (· != n))[j - 1]? = some k)
  | [], j, _, h => by simp at h
  | x :: M, j, hn, h => by
    rw [List.nodup_cons] at hn
    rw [List.filter_cons]
    by_cases e : x = n
    · subst e
      have hf : M.filter (· != x) = M := by
        rw [List.filter_eq_self]
        intro a ha
        simp only [bne_iff_ne, ne_eq]
        rintro rfl
        exact hn.1 ha
      simp only [bne_self_eq_false, Bool.false_eq_true, if_false, hf]
      cases j with
      | zero => simp only [List.getElem?_cons_zero, Option.some.injEq] at h; exact (hkn h.symm).elim
      | succ j => exact .inr ⟨0, by omega, by simp, by simpa using h⟩
    · have e2 : (x != n) = true := by simpa using e
      rw [if_pos e2]
      cases j with
      | zero =>
        refine .inl ⟨fun q hq => ?_, by simpa using h⟩
        obtain rfl : q = 0 := by omega
        simpa using e
      | succ j =>
        simp only [List.getElem?_cons_succ] at h
        rcases filter_back hkn hn.2 h with ⟨hq, h⟩ | ⟨q, hq, h1, h2⟩
        · refine .inl ⟨fun q hq' => ?_, by simpa using h⟩
          cases q with
          | zero => simpa using e
          | succ q => simpa using hq q (by omega)
        · refine .inr ⟨q + 1, by omega, by simpa using h1, ?_⟩
          obtain ⟨j', rfl⟩ : ∃ j', j = j' + 1 := ⟨j - 1, by omega⟩
          simpa using h2
/-- the histories' lines lie in their sets -/
def Hok (s : Int) (H : Nat → List Int) : Prop := ∀ i k, k ∈ H i → 0 ≤ k ∧ (k % s).toNat = i
theorem Hok.add {s l : Int} {H : Nat → List Int} (h : Hok s H) (hl : 0 < l) (a : Int) : Hok s (addH s l H a) := by
  intro i k hk
  simp only [addH] at hk
  split at hk
  · rename_i hc
    rcases List.mem_cons.1 hk with rfl | hk
    · exact ⟨Int.ediv_nonneg hc.1 (by omega), hc.2⟩
    · exact h i k hk
  · exact h i k hk
/-- where a line stands behind an access of another one -/
theorem acc_new {s y l : Int} (hg : Geo s y l = true) {H : Nat → List Int} {n k : Int} (hn : 0 ≤ n) (hkn : k ≠ n) {j : Nat} (hk : (dst (H (n % s).toNat))[j]? = some k) :
    ((∀ q, q ≤ j → (dst (H (n % s).toNat))[q]? ≠ some n) ∧ (dst (addH s l H (n * l) (n % s).toNat))[j + 1]? = some k) ∨ (∃ q, q < j ∧ (dst (H (n % s).toNat))[q]? = some n ∧ (dst (addH s l H (n * l) (n % s).toNat))[j]? = some k) := by
  have hp := Geo_spec hg
  have hd : (n * l) / l = n := Int.mul_ediv_cancel n (by omega)
  have hnl : 0 ≤ n * l := Int.mul_nonneg hn (by omega)
  have same : addH s l H (n * l) (n % s).toNat = n :: H (n % s).toNat := by simp [addH, hd, hnl]
  rw [same, dst]
  rcases filter_back hkn (dst_nodup _) hk with ⟨hq, hf⟩ | ⟨q, hq, hnq, hf⟩
  · exact .inl ⟨hq, by simpa using hf⟩
  · obtain ⟨j', rfl⟩ : ∃ j', j = j' + 1 := ⟨j - 1, by omega⟩
    exact .inr ⟨q, hq, hnq, by simpa using hf⟩
theorem acc_self {s y l : Int} (hg : Geo s y l = true) {H : Nat → List Int} {n : Int} (hn : 0 ≤ n) : (dst (addH s l H (n * l) (n % s).toNat))[0]? = some n := by
  have hp := Geo_spec hg
  have hd : (n * l) / l = n := Int.mul_ediv_cancel n (by omega)
  have hnl : 0 ≤ n * l := Int.mul_nonneg hn (by omega)
  have same : addH s l H (n * l) (n % s).toNat = n :: H (n % s).toNat := by simp [addH, hd, hnl]
  rw [same, dst]; rfl
theorem acc_other {s y l : Int} (hg : Geo s y l = true) {H : Nat → List Int} {n : Int} {i : Nat} (e : i ≠ (n % s).toNat) : addH s l H (n * l) i = H i := by
  have hp := Geo_spec hg
  have hd : (n * l) / l = n := Int.mul_ediv_cancel n (by omega)
  simp only [addH, hd]; rw [if_neg (fun h => e h.2.symm)]
theorem acc_old {s y l : Int} (hg : Geo s y l = true) {H : Nat → List Int} {n k : Int} (hn : 0 ≤ n) {j : Nat} (hk : (dst (addH s l H (n * l) (n % s).toNat))[j]? = some k) :
    (j = 0 ∧ k = n) ∨ (k ≠ n ∧ ∃ j', j = j' + 1 ∧ (((dst (H (n % s).toNat))[j']? = some k ∧ ∀ q, q ≤ j' → (dst (H (n % s).toNat))[q]? ≠ some n) ∨ ((dst (H (n % s).toNat))[j' + 1]? = some k ∧ ∃ q, q ≤ j' ∧ (dst (H (n % s).toNat))[q]? = some n))) := by
  have hp := Geo_spec hg
  have hd : (n * l) / l = n := Int.mul_ediv_cancel n (by omega)
  have hnl : 0 ≤ n * l := Int.mul_nonneg hn (by omega)
  have same : addH s l H (n * l) (n % s).toNat = n :: H (n % s).toNat := by simp [addH, hd, hnl]
  rw [same, dst] at hk
  cases j with
  | zero => simp only [List.getElem?_cons_zero, Option.some.injEq] at hk; exact .inl ⟨rfl, hk.symm⟩
  | succ j =>
    simp only [List.getElem?_cons_succ] at hk
    have hkn : k ≠ n := by
      have := List.mem_of_getElem? hk
      rw [List.mem_filter] at this
      simpa using this.2
    exact .inr ⟨hkn, j, rfl, filter_pos (dst_nodup _) hk⟩
end Go.Proofs.Ytehmbpkcbmnfnaa
