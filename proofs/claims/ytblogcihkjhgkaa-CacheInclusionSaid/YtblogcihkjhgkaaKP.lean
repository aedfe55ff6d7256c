/-
  Plain: lists of lines, the most recent one first (LRU).
-/
import Derived.Test.YtblogcihkjhgkaaK8
set_option linter.unusedSimpArgs false
set_option linter.unusedVariables false
namespace Go.Proofs.Ytblogcihkjhgkaa
open Go.W
/-- the lines of a history (the most recent one first), each once -/
def dst : List Int → List Int
  | [] => []
  | n :: h => n :: (dst h).filter (· != n)
theorem dst_nodup : ∀ h, (dst h).Nodup
  | [] => List.nodup_nil
  | n :: h => by
    rw [dst, List.nodup_cons]
    refine ⟨by simp, (dst_nodup h).filter _⟩
theorem mem_dst {x : Int} : ∀ {h : List Int}, x ∈ dst h ↔ x ∈ h
  | [] => by simp [dst]
  | n :: h => by
    rw [dst, List.mem_cons, List.mem_filter, mem_dst, List.mem_cons]
    constructor
    · rintro (h | h)
      · exact .inl h
      · exact .inr h.1
    · rintro (h | h)
      · exact .inl h
      · by_cases e : x = n
        · exact .inl e
        · exact .inr ⟨h, by simpa using e⟩
theorem eraseIdx_idx {cur : List Int} {n : Int} (hn : cur.Nodup) (hm : n ∈ cur) : cur.eraseIdx (idxI cur n).toNat = cur.filter (· != n) := by
  induction cur with
  | nil => simp at hm
  | cons x cur ih =>
    rw [List.nodup_cons] at hn
    by_cases e : x = n
    · subst e
      have : idxI (x :: cur) x = 0 := by simp [idxI, List.idxOf?, List.findIdx?_cons]
      rw [this]
      simp only [Int.toNat_zero, List.eraseIdx_cons_zero, List.filter_cons, bne_self_eq_false, Bool.false_eq_true, if_false]
      rw [List.filter_eq_self.2]
      intro a ha
      simp only [bne_iff_ne, ne_eq]
      rintro rfl
      exact hn.1 ha
    · have hm' : n ∈ cur := by simpa [Ne.symm e] using hm
      obtain ⟨i, hi, _⟩ := idxI_lt hm'
      have : idxI (x :: cur) n = (i + 1 : Nat) := by
        have h1 : cur.idxOf? n = some i := by
          unfold idxI at hi
          split at hi
          · rename_i j hj; rw [hj]; congr 1; omega
          · omega
        simp only [List.idxOf?] at h1
        simp [idxI, List.idxOf?, List.findIdx?_cons, e, h1]
      rw [this, Int.toNat_natCast, List.eraseIdx_cons_succ, List.filter_cons]
      have e2 : (x != n) = true := by simpa using e
      rw [if_pos e2]
      have := ih hn.2 hm'
      rw [hi, Int.toNat_natCast] at this
      rw [this]
theorem filter_len {cur : List Int} {n : Int} (hm : n ∈ cur) : (cur.filter (· != n)).length < cur.length := by
  apply List.length_filter_lt_length_iff_exists.2
  exact ⟨n, hm, by simp⟩
/-- one access, in one word -/
theorem accL_eq {y : Int} {cur : List Int} {n : Int} (hy : 1 ≤ y) (hn : cur.Nodup) (hl : cur.length ≤ y.toNat) : accL y cur n = n :: (cur.filter (· != n)).take (y.toNat - 1) := by
  unfold accL
  congr 1
  by_cases hm : n ∈ cur
  · rw [if_pos hm, eraseIdx_idx hn hm, List.take_of_length_le]
    have := filter_len hm
    omega
  · rw [if_neg hm]
    have hf : cur.filter (· != n) = cur := by
      rw [List.filter_eq_self]
      intro a ha
      simp only [bne_iff_ne, ne_eq]
      rintro rfl
      exact hm ha
    rw [hf]
    split
    · rename_i e
      rw [List.dropLast_eq_take, e]
    · rw [List.take_of_length_le (by omega)]
theorem take_filter {n : Int} : ∀ {M : List Int} (k : Nat), M.Nodup → (((M.take (k + 1)).filter (· != n)).take k) = (M.filter (· != n)).take k
  | [], k, _ => by simp
  | x :: M, 0, _ => by simp
  | x :: M, k + 1, hn => by
    rw [List.nodup_cons] at hn
    rw [List.take_succ_cons, List.filter_cons, List.filter_cons]
    by_cases e : x = n
    · subst e
      have hf : ∀ (Q : List Int), (∀ a ∈ Q, a ∈ M) → Q.filter (· != x) = Q := by
        intro Q hQ
        rw [List.filter_eq_self]
        intro a ha
        simp only [bne_iff_ne, ne_eq]
        rintro rfl
        exact hn.1 (hQ a ha)
      simp only [bne_self_eq_false, Bool.false_eq_true, if_false]
      rw [hf _ (fun a ha => List.mem_of_mem_take ha), hf M (fun a ha => ha), List.take_take, Nat.min_self]
    · have e2 : (x != n) = true := by simpa using e
      rw [if_pos e2, if_pos e2, List.take_succ_cons, List.take_succ_cons, take_filter k hn.2]
/-- an access and the history -/
theorem accL_dst {y : Int} (hy : 1 ≤ y) (h : List Int) (n : Int) : accL y ((dst h).take y.toNat) n = (dst (n :: h)).take y.toNat := by
  rw [accL_eq hy ((dst_nodup h).sublist (List.take_sublist _ _)) (by simp; omega), dst]
  obtain ⟨k, hk⟩ : ∃ k, y.toNat = k + 1 := ⟨y.toNat - 1, by omega⟩
  rw [hk, Nat.add_sub_cancel, List.take_succ_cons, take_filter k (dst_nodup h)]
theorem dst_append : ∀ (P Q : List Int), dst (P ++ Q) = dst P ++ (dst Q).filter (fun x => !P.contains x)
  | [], Q => by
    simp only [List.nil_append, dst, List.contains_nil, Bool.not_false]
    exact (List.filter_eq_self.2 (by simp)).symm
  | n :: P, Q => by
    rw [List.cons_append, dst, dst_append P Q, dst, List.filter_append, List.filter_filter, List.cons_append]
    congr 2
    apply List.filter_congr
    intro x _
    simp only [List.contains_cons, Bool.not_or]
    rfl
/-- the stack distance -/
theorem mem_take_dst {P R : List Int} {n : Int} (hP : n ∉ P) (y : Nat) : n ∈ (dst (P ++ n :: R)).take y ↔ (dst P).length < y := by
  have hd : n ∉ dst P := fun h => hP (mem_dst.1 h)
  have e : dst (P ++ n :: R) = dst P ++ n :: ((dst R).filter (· != n)).filter (fun x => !P.contains x) := by
    rw [dst_append, dst, List.filter_cons, if_pos (by simpa using hP)]
  rw [e, List.take_append, List.mem_append]
  constructor
  · rintro (h | h)
    · exact (hd (List.mem_of_mem_take h)).elim
    · apply Nat.lt_of_not_le
      intro hle
      rw [Nat.sub_eq_zero_of_le hle] at h
      simp at h
  · intro h
    right
    obtain ⟨k, hk⟩ : ∃ k, y - (dst P).length = k + 1 := ⟨y - (dst P).length - 1, by omega⟩
    rw [hk, List.take_succ_cons]
    simp
theorem not_mem_take_dst {P : List Int} {n : Int} (hP : n ∉ P) (y : Nat) : n ∉ (dst P).take y := fun h => hP (mem_dst.1 (List.mem_of_mem_take h))
/-- the lists of all sets, by the sets' histories -/
def stS (s y : Int) (H : Nat → List Int) : List (List Int) := (List.range s.toNat).map fun i => (dst (H i)).take y.toNat
def addH (s l : Int) (H : Nat → List Int) (a : Int) : Nat → List Int := fun i => if 0 ≤ a ∧ ((a / l) % s).toNat = i then a / l :: H i else H i
theorem stS_get {s y : Int} {H : Nat → List Int} {i : Nat} (hi : i < s.toNat) : (stS s y H)[i]? = some ((dst (H i)).take y.toNat) := by
  simp [stS, hi]
theorem stS_getD {s y : Int} {H : Nat → List Int} {i : Nat} (hi : i < s.toNat) : (stS s y H).getD i [] = (dst (H i)).take y.toNat := by
  rw [List.getD_eq_getElem?_getD, stS_get hi]; rfl
theorem emp_stS (s y : Int) : emp s = stS s y fun _ => [] := by
  apply List.ext_getElem?
  intro i
  simp [emp, stS, dst, List.getElem?_replicate]
  split <;> simp_all
theorem set_lt {s y l n : Int} (hg : Geo s y l = true) : (n % s).toNat < s.toNat := by
  have := Geo_spec hg
  have h1 := Int.emod_nonneg n (show s ≠ 0 by omega)
  have h2 := Int.emod_lt_of_pos n (show 0 < s by omega)
  omega
theorem accS_stS {s y l : Int} (hg : Geo s y l = true) (H : Nat → List Int) (a : Int) : accS s y l (stS s y H) a = stS s y (addH s l H a) := by
  have hgs := Geo_spec hg
  have hlt := set_lt (n := a / l) hg
  unfold accS
  split
  · rename_i ha
    rw [lnS, stS_getD hlt, accL_dst (by omega)]
    apply List.ext_getElem?
    intro j
    by_cases hj : j < s.toNat
    · rw [stS_get hj]
      by_cases e : ((a / l) % s).toNat = j
      · subst e
        rw [List.getElem?_set_self (by rw [stS, List.length_map, List.length_range]; exact hj)]
        simp [addH, ha]
      · rw [List.getElem?_set_ne e, stS_get hj]
        simp [addH, e]
    · rw [List.getElem?_eq_none (by simp [stS]; omega), List.getElem?_eq_none (by simp [stS]; omega)]
  · rename_i ha
    congr 1
    funext i
    simp [addH, ha]
theorem runS_stS {s y l : Int} (hg : Geo s y l = true) : ∀ (xs : List Int) (H : Nat → List Int), runS s y l (stS s y H) xs = stS s y (xs.foldl (addH s l) H)
  | [], H => rfl
  | a :: xs, H => by
    have := runS_stS hg xs (addH s l H a)
    rw [runS, List.foldl_cons, accS_stS hg, List.foldl_cons]
    exact this
theorem hitS_stS {s y l : Int} (hg : Geo s y l = true) (H : Nat → List Int) (a : Int) : hitS s l (stS s y H) a = decide (0 ≤ a ∧ a / l ∈ (dst (H ((a / l) % s).toNat)).take y.toNat) := by
  rw [hitS, lnS, stS_getD (set_lt hg)]
/-- the history of a set, from accesses in their order -/
def hh (s l : Int) (i : Nat) (xs : List Int) : List Int := xs.foldl (addH s l) (fun _ => []) i
theorem foldl_addH (s l : Int) (i : Nat) : ∀ (xs : List Int) (H : Nat → List Int), xs.foldl (addH s l) H i = hh s l i xs ++ H i
  | [], H => rfl
  | x :: xs, H => by
    rw [List.foldl_cons, foldl_addH s l i xs, show hh s l i (x :: xs) = xs.foldl (addH s l) (addH s l (fun _ => []) x) i from rfl, foldl_addH s l i xs, List.append_assoc]
    congr 1
    simp only [addH]
    split <;> simp
theorem hh_cons (s l : Int) (i : Nat) (x : Int) (xs : List Int) : hh s l i (x :: xs) = hh s l i xs ++ if 0 ≤ x ∧ ((x / l) % s).toNat = i then [x / l] else [] := by
  rw [hh, List.foldl_cons, foldl_addH]
  simp only [addH]
theorem hh_append (s l : Int) (i : Nat) (xs ys : List Int) : hh s l i (xs ++ ys) = hh s l i ys ++ hh s l i xs := by
  rw [hh, List.foldl_append, foldl_addH]; rfl
theorem idxI_take {M : List Int} {n : Int} {i : Nat} (hn : M.Nodup) (h : M[i]? = some n) : idxI M n = i := by
  have hi := (List.getElem?_eq_some_iff.1 h).1
  have he := (List.getElem?_eq_some_iff.1 h).2
  rw [idxI, idxOf?_take hi ?_ he]
  intro hm
  obtain ⟨j, hj, e⟩ := List.mem_take_iff_getElem.1 hm
  have hj' : j < i := by omega
  have := List.pairwise_iff_getElem.1 hn j i (by omega) hi hj'
  exact this (by rw [e, he])
end Go.Proofs.Ytblogcihkjhgkaa
