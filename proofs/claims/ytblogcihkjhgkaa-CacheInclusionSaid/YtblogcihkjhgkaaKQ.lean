/-
  Plain: which lines a set holds; misses; the flush lemma; inclusion.
-/
import Derived.Test.YtblogcihkjhgkaaKP
set_option linter.unusedSimpArgs false
set_option linter.unusedVariables false
namespace Go.Proofs.Ytblogcihkjhgkaa
open Go.W
theorem mem_hh {s l : Int} {i : Nat} {n : Int} : ∀ {xs : List Int}, n ∈ hh s l i xs → ∃ x ∈ xs, 0 ≤ x ∧ n = x / l ∧ (n % s).toNat = i
  | [], h => by simp [hh] at h
  | x :: xs, h => by
    rw [hh_cons, List.mem_append] at h
    rcases h with h | h
    · obtain ⟨x', h1, h2⟩ := mem_hh h
      exact ⟨x', List.mem_cons_of_mem _ h1, h2⟩
    · split at h
      · rename_i hc
        simp only [List.mem_singleton] at h
        subst h
        exact ⟨x, List.mem_cons_self .., hc.1, rfl, hc.2⟩
      · simp at h
abbrev stX (s y l : Int) (xs : List Int) : List (List Int) := stS s y (xs.foldl (addH s l) fun _ => [])
theorem stX_get {s y l : Int} {xs : List Int} {i : Nat} (hi : i < s.toNat) : (stX s y l xs)[i]? = some ((dst (hh s l i xs)).take y.toNat) := stS_get hi
theorem stS_len (s y : Int) (H : Nat → List Int) : (stS s y H).length = s.toNat := by simp [stS]
theorem stS_some {s y : Int} {H : Nat → List Int} {i : Nat} {li : List Int} (h : (stS s y H)[i]? = some li) : i < s.toNat ∧ li = (dst (H i)).take y.toNat := by
  have hi : i < s.toNat := by have := (List.getElem?_eq_some_iff.1 h).1; rw [stS_len] at this; exact this
  rw [stS_get hi] at h
  simp only [Option.some.injEq] at h
  exact ⟨hi, h.symm⟩
theorem nodup_take (h : List Int) (k : Nat) : ((dst h).take k).Nodup := (dst_nodup h).sublist (List.take_sublist _ _)
theorem line_facts {s y l : Int} (hg : Geo s y l = true) {xs : List Int} (hx : ∀ x ∈ xs, x ≤ 100000) {i j : Nat} {k : Int} (hi : i < s.toNat) (hk : ((dst (hh s l i xs)).take y.toNat)[j]? = some k) :
    0 ≤ k ∧ k ≤ 100000 ∧ setOf s y l k = i ∧ ageS s y l (stX s y l xs) k = j ∧ hitS s l (stX s y l xs) (k * l) = true ∧ hitS s l (stX s y l xs) (k * l + l - 1) = true := by
  have hgs := Geo_spec hg
  have hm := List.mem_of_getElem? hk
  have hm0 := mem_dst.1 (List.mem_of_mem_take hm)
  obtain ⟨x, hxm, hx0, rfl, hset⟩ := mem_hh hm0
  have h0 : 0 ≤ x / l := Int.ediv_nonneg hx0 (by omega)
  have h1 : x / l ≤ 100000 := Int.le_trans (Int.ediv_le_self _ hx0) (hx x hxm)
  generalize x / l = k at *
  have hs0 := Int.emod_nonneg k (show s ≠ 0 by omega)
  have e1 : (k * l) / l = k := Int.mul_ediv_cancel k (by omega)
  have e2 : (k * l + l - 1) / l = k := by
    rw [show k * l + l - 1 = (l - 1) + k * l by omega, Int.add_mul_ediv_right _ _ (by omega), Int.ediv_eq_zero_of_lt (by omega) (by omega), Int.zero_add]
  have hkl : 0 ≤ k * l := Int.mul_nonneg h0 (by omega)
  refine ⟨h0, h1, by rw [setOf_eq hg h0]; omega, ?_, ?_, ?_⟩
  · rw [ageS, if_pos h0, hset, stS_getD hi]
    exact idxI_take (nodup_take _ _) hk
  · rw [hitS_stS hg, e1, hset]
    exact decide_eq_true ⟨hkl, hm⟩
  · rw [hitS_stS hg, e2, hset]
    exact decide_eq_true ⟨by omega, hm⟩
theorem age_none {s y l : Int} (hg : Geo s y l = true) {H : Nat → List Int} {n : Int} (h : ∀ i, i < s.toNat → n ∉ (dst (H i)).take y.toNat) : ageS s y l (stS s y H) n = -1 := by
  unfold ageS
  split
  · have hlt := set_lt (n := n) hg
    rw [stS_getD hlt]
    have := h _ hlt
    rw [← idxI_mem] at this
    unfold idxI at *
    split
    · rename_i i hi; rw [hi] at this; simp only [] at this; omega
    · rfl
  · rfl
theorem hit_none {s y l : Int} (hg : Geo s y l = true) {H : Nat → List Int} {n : Int} (h : ∀ i, i < s.toNat → n ∉ (dst (H i)).take y.toNat) : hitS s l (stS s y H) (n * l) = false := by
  have hgs := Geo_spec hg
  rw [hitS_stS hg, Int.mul_ediv_cancel n (by omega)]
  exact decide_eq_false fun hh => h _ (set_lt hg) hh.2
/-! ### misses -/
def misB (s y l : Int) (H : Nat → List Int) (a : Int) : Nat := if 0 ≤ a ∧ a / l ∉ (dst (H ((a / l) % s).toNat)).take y.toNat then 1 else 0
def mis (s y l : Int) (H : Nat → List Int) : List Int → Nat
  | [] => 0
  | a :: xs => misB s y l H a + mis s y l (addH s l H a) xs
theorem mis_snoc (s y l : Int) (a : Int) : ∀ (xs : List Int) (H : Nat → List Int), mis s y l H (xs ++ [a]) = mis s y l H xs + misB s y l (xs.foldl (addH s l) H) a
  | [], H => by simp [mis]
  | x :: xs, H => by simp only [List.cons_append, mis, List.foldl_cons]; rw [mis_snoc s y l a xs]; omega
theorem misB_le (s y l : Int) (H : Nat → List Int) (a : Int) : misB s y l H a ≤ 1 := by unfold misB; split <;> omega
theorem mis_le (s y l : Int) : ∀ (xs : List Int) (H : Nat → List Int), mis s y l H xs ≤ xs.length
  | [], H => by simp [mis]
  | x :: xs, H => by have := mis_le s y l xs (addH s l H x); have := misB_le s y l H x; simp only [mis, List.length_cons]; omega
/-- what a set's history has room for -/
def room (y : Int) (P : List Int) : Nat := min y.toNat (dst P).length
def sumR (y : Int) (P : Nat → List Int) : Nat → Nat
  | 0 => 0
  | n + 1 => sumR y P n + room y (P n)
theorem sumR_le (y : Int) (P : Nat → List Int) : ∀ n, sumR y P n ≤ n * y.toNat
  | 0 => by simp [sumR]
  | n + 1 => by
    have := sumR_le y P n
    have : room y (P n) ≤ y.toNat := Nat.min_le_left _ _
    rw [sumR, Nat.succ_mul]; omega
theorem sumR_congr (y : Int) {P Q : Nat → List Int} : ∀ n, (∀ i, i < n → P i = Q i) → sumR y P n = sumR y Q n
  | 0, _ => rfl
  | n + 1, h => by rw [sumR, sumR, sumR_congr y n (fun i hi => h i (by omega)), h n (by omega)]
theorem sumR_upd (y : Int) {P Q : Nat → List Int} {i : Nat} {d : Nat} : ∀ n, i < n → (∀ j, j ≠ i → P j = Q j) → room y (P i) + d ≤ room y (Q i) → sumR y P n + d ≤ sumR y Q n
  | 0, h, _, _ => by omega
  | n + 1, h, h1, h2 => by
    rw [sumR, sumR]
    by_cases e : i = n
    · subst e
      rw [sumR_congr y i (fun j hj => h1 j (by omega))]
      omega
    · have := sumR_upd y n (by omega) h1 h2
      rw [h1 n (Ne.symm e)]
      omega
theorem dst_cons_len {P : List Int} {n : Int} : (dst P).length ≤ (dst (n :: P)).length ∧ (n ∉ P → (dst (n :: P)).length = (dst P).length + 1) := by
  have hf : n ∉ P → (dst P).filter (· != n) = dst P := by
    intro h
    rw [List.filter_eq_self]
    intro a ha
    simp only [bne_iff_ne, ne_eq]
    rintro rfl
    exact h (mem_dst.1 ha)
  by_cases h : n ∈ P
  · refine ⟨?_, fun h' => (h' h).elim⟩
    -- one is taken out, one is put ahead
    have hm := mem_dst.2 h
    have h1 : ∀ (M : List Int), M.Nodup → M.length ≤ (M.filter (· != n)).length + 1 := by
      intro M
      induction M with
      | nil => intro _; simp
      | cons x M ih =>
        intro hn
        rw [List.nodup_cons] at hn
        rw [List.filter_cons]
        by_cases e : x = n
        · subst e
          have : M.filter (· != x) = M := by
            rw [List.filter_eq_self]
            intro a ha
            simp only [bne_iff_ne, ne_eq]
            rintro rfl
            exact hn.1 ha
          simp [this]
        · have e2 : (x != n) = true := by simpa using e
          rw [if_pos e2]
          have := ih hn.2
          simp only [List.length_cons]; omega
    have := h1 _ (dst_nodup P)
    rw [dst, List.length_cons]; exact this
  · rw [dst, List.length_cons, hf h]
    exact ⟨by omega, fun _ => rfl⟩
/-- a hit behind a flush is a hit without it; and a miss that the flush has made takes room -/
theorem flush_step {y : Int} {P R : List Int} {n : Int} : (n ∈ (dst P).take y.toNat → n ∈ (dst (P ++ R)).take y.toNat) ∧
    (n ∉ (dst P).take y.toNat → n ∈ (dst (P ++ R)).take y.toNat → room y P + 1 ≤ room y (n :: P)) := by
  rw [dst_append, List.take_append]
  refine ⟨fun h => List.mem_append_left _ h, fun h1 h2 => ?_⟩
  rcases List.mem_append.1 h2 with h | h
  · exact (h1 h).elim
  · have hlt : (dst P).length < y.toNat := by
      apply Nat.lt_of_not_le
      intro hle
      rw [Nat.sub_eq_zero_of_le hle] at h
      simp at h
    have hn : n ∉ P := by
      have := List.mem_of_mem_take h
      rw [List.mem_filter] at this
      simpa using this.2
    have := dst_cons_len.2 hn
    unfold room
    omega
theorem room_mono {y : Int} {P : List Int} {n : Int} : room y P ≤ room y (n :: P) := by
  have := (dst_cons_len (P := P) (n := n)).1
  unfold room; omega
/-- one access of two caches, the second one's history a part of the first one's -/
theorem flush_acc {s y l : Int} (hg : Geo s y l = true) {H P : Nat → List Int} (hR : ∀ i, ∃ R, H i = P i ++ R) (a : Int) :
    misB s y l H a ≤ misB s y l P a ∧ misB s y l P a + sumR y P s.toNat ≤ misB s y l H a + sumR y (addH s l P a) s.toNat ∧ (∀ i, ∃ R, addH s l H a i = addH s l P a i ++ R) := by
  have hR' : ∀ i, ∃ R, addH s l H a i = addH s l P a i ++ R := by
    intro i
    obtain ⟨R, hr⟩ := hR i
    refine ⟨R, ?_⟩
    simp only [addH]
    split
    · rw [hr]; rfl
    · exact hr
  by_cases ha : 0 ≤ a
  · have hlt := set_lt (n := a / l) hg
    generalize hi : ((a / l) % s).toNat = i at *
    obtain ⟨R, hr⟩ := hR i
    have fs := flush_step (y := y) (P := P i) (R := R) (n := a / l)
    have e1 : ∀ (Q : Nat → List Int), misB s y l Q a = if a / l ∉ (dst (Q i)).take y.toNat then 1 else 0 := by
      intro Q; unfold misB; rw [hi]; simp [ha]
    have eP : addH s l P a i = a / l :: P i := by simp [addH, ha, hi]
    have eN : ∀ j, j ≠ i → P j = addH s l P a j := by
      intro j hj
      simp only [addH]; rw [hi, if_neg (fun h => hj h.2.symm)]
    have up := fun d => sumR_upd y (d := d) s.toNat hlt eN
    rw [eP] at up
    rw [e1 H, e1 P, hr]
    refine ⟨?_, ?_, hR'⟩
    · by_cases h1 : a / l ∈ (dst (P i)).take y.toNat
      · rw [if_neg (fun h => h (fs.1 h1)), if_neg (fun h => h h1)]; exact Nat.le_refl _
      · rw [if_pos h1]; split <;> omega
    · by_cases h1 : a / l ∈ (dst (P i)).take y.toNat
      · have := up 0 (by have := room_mono (y := y) (P := P i) (n := a / l); omega)
        rw [if_neg (fun h => h h1)]; omega
      · by_cases h2 : a / l ∈ (dst (P i ++ R)).take y.toNat
        · have := up 1 (fs.2 h1 h2)
          rw [if_pos h1, if_neg (fun h => h h2)]; omega
        · have := up 0 (by have := room_mono (y := y) (P := P i) (n := a / l); omega)
          rw [if_pos h1, if_pos h2]; omega
  · have e1 : ∀ (Q : Nat → List Int), misB s y l Q a = 0 := by intro Q; unfold misB; rw [if_neg (fun h => ha h.1)]
    have e2 : addH s l P a = P := by funext i; simp [addH, ha]
    refine ⟨?_, ?_, hR'⟩
    · rw [e1, e1]; exact Nat.le_refl _
    · rw [e1, e1, e2]; exact Nat.le_refl _
/-- the flush lemma -/
theorem flush_run {s y l : Int} (hg : Geo s y l = true) : ∀ (xs : List Int) {H P : Nat → List Int}, (∀ i, ∃ R, H i = P i ++ R) →
    mis s y l H xs ≤ mis s y l P xs ∧ mis s y l P xs + sumR y P s.toNat ≤ mis s y l H xs + s.toNat * y.toNat
  | [], H, P, _ => by have := sumR_le y P s.toNat; simp only [mis]; omega
  | a :: xs, H, P, hR => by
    obtain ⟨h1, h2, h3⟩ := flush_acc hg hR a
    obtain ⟨h4, h5⟩ := flush_run hg xs h3
    simp only [mis]
    omega
theorem sumR_nil (y : Int) : ∀ n, sumR y (fun _ => []) n = 0
  | 0 => rfl
  | n + 1 => by rw [sumR, sumR_nil y n]; simp [room, dst]
end Go.Proofs.Ytblogcihkjhgkaa
