/-
  Plain: without ranges the may analysis is exact.
-/
import Derived.Test.YtndkadphpbnpeaaZCS2
set_option linter.unusedSimpArgs false
set_option linter.unusedVariables false
namespace Go.Proofs.Ytndkadphpbnpeaa
open Go.W Go.RowKit
open C (dst stS addH hh mem_dst dst_nodup stS_get stS_getD set_lt hitS hitS_stS)
theorem filter_pos {n k : Int} : ∀ {M : List Int} {j : Nat}, M.Nodup → (M.filter (· != n))[j]? = some k → (M[j]? = some k ∧ ∀ q, q ≤ j → M[q]? ≠ some n) ∨ (M[j + 1]? = some k ∧ ∃ i, i ≤ j ∧ M[i]? = some n)
  | [], j, _, h => by simp at h
  | x :: M, j, hn, h => by
    rw [List.nodup_cons] at hn
    rw [List.filter_cons] at h
    by_cases e : x = n
    · subst e
      have hf : M.filter (· != x) = M := by
        rw [List.filter_eq_self]
        intro a ha
        simp only [bne_iff_ne, ne_eq]
        rintro rfl
        exact hn.1 ha
      simp only [bne_self_eq_false, Bool.false_eq_true, if_false, hf] at h
      exact .inr ⟨by simpa using h, 0, Nat.zero_le _, by simp⟩
    · have e2 : (x != n) = true := by simpa using e
      rw [if_pos e2] at h
      cases j with
      | zero =>
        refine .inl ⟨by simpa using h, fun q hq => ?_⟩
        obtain rfl : q = 0 := by omega
        simpa using e
      | succ j =>
        simp only [List.getElem?_cons_succ] at h
        rcases filter_pos hn.2 h with ⟨h, hq⟩ | ⟨h1, i, hi, h2⟩
        · refine .inl ⟨by simpa using h, fun q hq' => ?_⟩
          cases q with
          | zero => simpa using e
          | succ q => simpa using hq q (by omega)
        · exact .inr ⟨by simpa using h1, i + 1, by omega, by simpa using h2⟩
theorem filter_back {n k : Int} (hkn : k ≠ n) : ∀ {M : List Int} {j : Nat}, M.Nodup → M[j]? = some k → ((∀ q, q ≤ j → M[q]? ≠ some n) ∧ (M.filter (· != n))[j]? = some k) ∨ (∃ q, q < j ∧ M[q]? = some n ∧ (M.filter (· != n))[j - 1]? = some k)
  | [], j, _, h => by simp at h
  | x :: M, j, hn, h => by
    rw [List.nodup_cons] at hn
    rw [List.filter_cons]
    by_cases e : x = n
    · subst e
      have hf : M.filter (· != x) = M := by
        rw [List.filter_eq_self]
        intro a ha
        simp only [bne_iff_ne, ne_eq]
        rintro rfl
        exact hn.1 ha
      simp only [bne_self_eq_false, Bool.false_eq_true, if_false, hf]
      cases j with
      | zero => simp only [List.getElem?_cons_zero, Option.some.injEq] at h; exact (hkn h.symm).elim
      | succ j => exact .inr ⟨0, by omega, by simp, by simpa using h⟩
    · have e2 : (x != n) = true := by simpa using e
      rw [if_pos e2]
      cases j with
      | zero =>
        refine .inl ⟨fun q hq => ?_, by simpa using h⟩
        obtain rfl : q = 0 := by omega
        simpa using e
      | succ j =>
        simp only [List.getElem?_cons_succ] at h
        rcases filter_back hkn hn.2 h with ⟨hq, h⟩ | ⟨q, hq, h1, h2⟩
        · refine .inl ⟨fun q hq' => ?_, by simpa using h⟩
          cases q with
          | zero => simpa using e
          | succ q => simpa using hq q (by omega)
        · refine .inr ⟨q + 1, by omega, by simpa using h1, ?_⟩
          obtain ⟨j', rfl⟩ : ∃ j', j = j' + 1 := ⟨j - 1, by omega⟩
          simpa using h2
/-- the bounds are the ages -/
structure Exa (s y : Int) (m : Int → Option Int) (H : Nat → List Int) : Prop where
  fw : ∀ i, i < s.toNat → ∀ (j : Nat) k, j < y.toNat → (dst (H i))[j]? = some k → m k = some (j : Int)
  bw : ∀ k b, m k = some b → 0 ≤ k ∧ ∃ j : Nat, b = j ∧ j < y.toNat ∧ (dst (H (k % s).toNat))[j]? = some k
theorem Exa.acc {s y l : Int} (hg : Geo s y l = true) {m : Int → Option Int} {H : Nat → List Int} (hH : Hok s H) (h : Exa s y m H) {n : Int} (hn : 0 ≤ n) : Exa s y (accM s y m n) (addH s l H (n * l)) := by
  have hp := Geo_spec hg
  have hd : (n * l) / l = n := Int.mul_ediv_cancel n (by omega)
  have hnl : 0 ≤ n * l := Int.mul_nonneg hn (by omega)
  have hs0 := Int.emod_nonneg n (show s ≠ 0 by omega)
  have hin : (n % s).toNat < s.toNat := set_lt (y := y) (l := l) hg
  have hmem : ∀ {i j : Nat} {k : Int}, (dst (H i))[j]? = some k → 0 ≤ k ∧ (k % s).toNat = i := fun h => hH _ _ (mem_dst.1 (List.mem_of_getElem? h))
  have same : addH s l H (n * l) (n % s).toNat = n :: H (n % s).toNat := by simp [addH, hd, hnl]
  have other : ∀ i, i ≠ (n % s).toNat → addH s l H (n * l) i = H i := fun i e => by simp only [addH, hd]; rw [if_neg (fun h => e h.2.symm)]
  -- the age of n, or none
  have hlim : ∀ (j : Nat), j < y.toNat → (∀ q, q ≤ j → (dst (H (n % s).toNat))[q]? ≠ some n) → ¬ (m n).getD y < j := by
    intro j hj hq hlt
    cases hm : m n with
    | none => rw [hm, Option.getD_none] at hlt; omega
    | some b =>
      rw [hm, Option.getD_some] at hlt
      obtain ⟨_, q, rfl, hqy, hq2⟩ := h.bw n b hm
      exact hq q (by omega) hq2
  refine ⟨fun i hi j k hj hk => ?_, fun k b hb => ?_⟩
  · by_cases e : i = (n % s).toNat
    · subst e
      rw [same, dst] at hk
      cases j with
      | zero =>
        simp only [List.getElem?_cons_zero, Option.some.injEq] at hk
        subst hk
        simp [accM]
      | succ j =>
        simp only [List.getElem?_cons_succ] at hk
        have hkn : k ≠ n := by
          have := List.mem_of_getElem? hk
          rw [List.mem_filter] at this
          simpa using this.2
        have hacc : ∀ b, m k = some b → 0 ≤ k → k % s = n % s → accM s y m n k = ageing y ((m n).getD y) b := by
          intro b hb h0 hs
          unfold accM
          rw [if_neg hkn, if_pos ⟨h0, hs⟩, hb]
          rfl
        rcases filter_pos (dst_nodup _) hk with ⟨hk, hq⟩ | ⟨hk, q, hq, hnq⟩
        · obtain ⟨hk0, hks⟩ := hmem hk
          have hks0 := Int.emod_nonneg k (show s ≠ 0 by omega)
          have := h.fw _ hi j k (by omega) hk
          rw [hacc _ this hk0 (by omega)]
          unfold ageing
          rw [if_neg (hlim j (by omega) hq), if_neg (by omega)]
          simp
        · obtain ⟨hk0, hks⟩ := hmem hk
          have hks0 := Int.emod_nonneg k (show s ≠ 0 by omega)
          have hb := h.fw _ hi (j + 1) k hj hk
          have hbn := h.fw _ hi q n (by omega) hnq
          rw [hacc _ hb hk0 (by omega)]
          unfold ageing
          rw [hbn, Option.getD_some, if_pos (by omega)]
    · rw [other i e] at hk
      obtain ⟨hk0, hks⟩ := hmem hk
      have hks0 := Int.emod_nonneg k (show s ≠ 0 by omega)
      have := h.fw i hi j k hj hk
      unfold accM
      rw [if_neg (by rintro rfl; omega), if_neg (by rintro ⟨_, h2⟩; omega)]
      exact this
  · unfold accM at hb
    by_cases ekn : k = n
    · subst ekn
      rw [if_pos rfl] at hb
      simp only [Option.some.injEq] at hb
      subst hb
      refine ⟨hn, 0, rfl, by omega, ?_⟩
      rw [same, dst]; rfl
    · rw [if_neg ekn] at hb
      split at hb
      · rename_i hc
        cases hmk : m k with
        | none => rw [hmk] at hb; cases hb
        | some b0 =>
          rw [hmk] at hb
          simp only [Option.bind_some] at hb
          obtain ⟨hk0, j0, rfl, hj0, hkj⟩ := h.bw k b0 hmk
          have hks0 := Int.emod_nonneg k (show s ≠ 0 by omega)
          have es : (k % s).toNat = (n % s).toNat := by omega
          rw [es] at hkj
          refine ⟨hk0, ?_⟩
          rw [es, same, dst]
          unfold ageing at hb
          rcases filter_back ekn (dst_nodup _) hkj with ⟨hq, hf⟩ | ⟨q, hq, hnq, hf⟩
          · rw [if_neg (hlim j0 hj0 hq)] at hb
            split at hb
            · cases hb
            · simp only [Option.some.injEq] at hb
              exact ⟨j0 + 1, by omega, by omega, by simpa using hf⟩
          · have hbn := h.fw _ hin q n (by omega) hnq
            rw [hbn, Option.getD_some, if_pos (by omega)] at hb
            simp only [Option.some.injEq] at hb
            obtain ⟨j', rfl⟩ : ∃ j', j0 = j' + 1 := ⟨j0 - 1, by omega⟩
            exact ⟨j' + 1, hb.symm, hj0, by simpa using hf⟩
      · rename_i hc
        obtain ⟨hk0, j0, rfl, hj0, hkj⟩ := h.bw k b hb
        have hks0 := Int.emod_nonneg k (show s ≠ 0 by omega)
        refine ⟨hk0, j0, rfl, hj0, ?_⟩
        rw [other _ (fun e => hc ⟨hk0, by omega⟩)]
        exact hkj
theorem Exa_empty (s y : Int) : Exa s y (fun _ => none) (fun _ => []) := ⟨fun i _ j k _ h => by simp [dst] at h, fun k b h => by cases h⟩
theorem Exa.age {s y : Int} {m : Int → Option Int} {H : Nat → List Int} (h : Exa s y m H) (hH : Hok s H) {i j : Nat} {k : Int} (hi : i < s.toNat) (hk : ((dst (H i)).take y.toNat)[j]? = some k) : ageM (some m) k = ((j : Int), true) := by
  have hj : j < y.toNat := by have := (List.getElem?_eq_some_iff.1 hk).1; simp only [List.length_take] at this; omega
  rw [List.getElem?_take_of_lt hj] at hk
  have h1 := h.fw i hi j k hj hk
  have h2 := (hH i k (mem_dst.1 (List.mem_of_getElem? hk))).1
  simp only [ageM]
  rw [if_neg (by omega), h1]
/-- all lines of the cache -/
theorem Exa.keys {s y l : Int} (hg : Geo s y l = true) {m : Int → Option Int} {H : Nat → List Int} (h : Exa s y m H) (hH : Hok s H) : ∃ Ks, KeysOf m Ks ∧ Ks.length = (stS s y H).flatten.length := by
  have hp := Geo_spec hg
  have hmemf : ∀ k, k ∈ (stS s y H).flatten ↔ m k ≠ none := by
    intro k
    rw [List.mem_flatten]
    constructor
    · rintro ⟨li, hli, hk⟩
      obtain ⟨i, hi, e⟩ := List.getElem_of_mem hli
      obtain ⟨hi', rfl⟩ := C.stS_some (show (stS s y H)[i]? = some li by rw [List.getElem?_eq_getElem hi, e])
      obtain ⟨j, hj, e2⟩ := List.getElem_of_mem hk
      have hk' : ((dst (H i)).take y.toNat)[j]? = some k := by rw [List.getElem?_eq_getElem hj, e2]
      have hjy : j < y.toNat := by simp only [List.length_take] at hj; omega
      rw [List.getElem?_take_of_lt hjy] at hk'
      rw [h.fw i hi' j k hjy hk']
      simp
    · intro hne
      obtain ⟨b, hb⟩ := Option.ne_none_iff_exists'.1 hne
      obtain ⟨hk0, j, rfl, hj, hk⟩ := h.bw k b hb
      have hlt : (k % s).toNat < s.toNat := set_lt (y := y) (l := l) hg
      refine ⟨(dst (H (k % s).toNat)).take y.toNat, List.mem_of_getElem? (stS_get hlt), ?_⟩
      exact List.mem_of_getElem? (i := j) (by rw [List.getElem?_take_of_lt hj]; exact hk)
  have hnd : (stS s y H).flatten.Nodup := by
    rw [List.Nodup, List.pairwise_flatten]
    refine ⟨fun li hli => ?_, ?_⟩
    · obtain ⟨i, hi, e⟩ := List.getElem_of_mem hli
      obtain ⟨hi', rfl⟩ := C.stS_some (show (stS s y H)[i]? = some li by rw [List.getElem?_eq_getElem hi, e])
      exact C.nodup_take _ _
    · rw [List.pairwise_iff_getElem]
      intro i j hi hj hij a ha b hb e
      subst e
      have q1 := C.stS_some (List.getElem?_eq_getElem hi)
      have q2 := C.stS_some (List.getElem?_eq_getElem hj)
      rw [q1.2] at ha
      rw [q2.2] at hb
      have h1 := (hH i a (mem_dst.1 (List.mem_of_mem_take ha))).2
      have h2 := (hH j a (mem_dst.1 (List.mem_of_mem_take hb))).2
      omega
  have hperm := List.mergeSort_perm (stS s y H).flatten (fun x y => decide (x ≤ y))
  have hsrt : ((stS s y H).flatten.mergeSort fun x y => decide (x ≤ y)).Pairwise (fun x y => decide (x ≤ y) = true) := List.pairwise_mergeSort (by intro a b c; simp; omega) (by intro a b; simp; omega) _
  refine ⟨(stS s y H).flatten.mergeSort fun x y => decide (x ≤ y), ⟨?_, fun k => ?_, fun k hk => ?_, ?_⟩, List.length_mergeSort _⟩
  · have hn2 := hperm.nodup_iff.2 hnd
    exact (hsrt.and hn2).imp (by rintro a b ⟨h1, h2⟩; simp only [decide_eq_true_eq] at h1; omega)
  · rw [← hmemf, hperm.mem_iff]
  · rw [hperm.mem_iff, hmemf] at hk
    obtain ⟨b, hb⟩ := Option.ne_none_iff_exists'.1 hk
    exact (h.bw k b hb).1
  · rw [List.length_mergeSort]
    have : ∀ (L : List (List Int)), (∀ li ∈ L, li.length ≤ 8) → L.flatten.length ≤ 8 * L.length := by
      intro L
      induction L with
      | nil => intro _; simp
      | cons x L ih =>
        intro hL
        have h1 := hL x (by simp)
        have h2 := ih fun li hli => hL li (by simp [hli])
        simp only [List.flatten_cons, List.length_append, List.length_cons]
        omega
    have h1 := this (stS s y H) (fun li hli => by
      obtain ⟨i, hi, e⟩ := List.getElem_of_mem hli
      obtain ⟨hi', rfl⟩ := C.stS_some (show (stS s y H)[i]? = some li by rw [List.getElem?_eq_getElem hi, e])
      have : ((dst (H i)).take y.toNat).length ≤ y.toNat := List.length_take_le ..
      omega)
    rw [C.stS_len] at h1
    omega
end Go.Proofs.Ytndkadphpbnpeaa
