/-
  Plain: the may analysis is sound.
-/
import Derived.Test.YtndkadphpbnpeaaZCN4
import Derived.Test.YtndkadphpbnpeaaZK
set_option linter.unusedSimpArgs false
set_option linter.unusedVariables false
namespace Go.Proofs.Ytndkadphpbnpeaa
open Go.W Go.RowKit
open C (dst stS addH hh mem_dst dst_nodup stS_get stS_getD set_lt hitS hitS_stS)
theorem filter_at {n k : Int} : ∀ {M : List Int} {j : Nat}, M.Nodup → (M.filter (· != n))[j]? = some k → M[j]? = some k ∨ (M[j + 1]? = some k ∧ ∃ i, i ≤ j ∧ M[i]? = some n)
  | [], j, _, h => by simp at h
  | x :: M, j, hn, h => by
    rw [List.nodup_cons] at hn
    rw [List.filter_cons] at h
    by_cases e : x = n
    · subst e
      have hf : M.filter (· != x) = M := by
        rw [List.filter_eq_self]
        intro a ha
        simp only [bne_iff_ne, ne_eq]
        rintro rfl
        exact hn.1 ha
      simp only [bne_self_eq_false, Bool.false_eq_true, if_false, hf] at h
      exact .inr ⟨by simpa using h, 0, Nat.zero_le _, by simp⟩
    · have e2 : (x != n) = true := by simpa using e
      rw [if_pos e2] at h
      cases j with
      | zero => exact .inl (by simpa using h)
      | succ j =>
        simp only [List.getElem?_cons_succ] at h
        rcases filter_at hn.2 h with h | ⟨h1, i, hi, h2⟩
        · exact .inl (by simpa using h)
        · exact .inr ⟨by simpa using h1, i + 1, by omega, by simpa using h2⟩
/-- the histories' lines lie in their sets -/
def Hok (s : Int) (H : Nat → List Int) : Prop := ∀ i k, k ∈ H i → 0 ≤ k ∧ (k % s).toNat = i
theorem Hok.add {s l : Int} {H : Nat → List Int} (h : Hok s H) (hl : 0 < l) (a : Int) : Hok s (addH s l H a) := by
  intro i k hk
  simp only [addH] at hk
  split at hk
  · rename_i hc
    rcases List.mem_cons.1 hk with rfl | hk
    · exact ⟨Int.ediv_nonneg hc.1 (by omega), hc.2⟩
    · exact h i k hk
  · exact h i k hk
/-- each line of the contents has a bound that is not greater than its age -/
def Des (s y : Int) (m : Int → Option Int) (H : Nat → List Int) : Prop := ∀ i, i < s.toNat → ∀ (j : Nat) k, ((dst (H i)).take y.toNat)[j]? = some k → ∃ b, m k = some b ∧ b ≤ j
theorem DesP_iff {s y l : Int} (hg : Geo s y l = true) {m : Int → Option Int} {H : Nat → List Int} (hH : Hok s H) : DesP (some m) s (stS s y H) ↔ Des s y m H := by
  have hp := Geo_spec hg
  unfold DesP
  have hlen : ((stS s y H).length : Int) = s := by rw [C.stS_len]; omega
  constructor
  · rintro ⟨_, h | h⟩
    · cases h
    · intro i hi j k hk
      have hj : j < ((dst (H i)).take y.toNat).length := (List.getElem?_eq_some_iff.1 hk).1
      have := h i _ (stS_get hi) j k hj hk
      have hk0 := (hH i k (mem_dst.1 (List.mem_of_mem_take (List.mem_of_getElem? hk)))).1
      simp only [ageM] at this
      rw [if_neg (by omega)] at this
      cases hm : m k with
      | none => rw [hm] at this; simp at this
      | some b => rw [hm] at this; exact ⟨b, rfl, this.2⟩
  · intro h
    refine ⟨hlen, .inr fun i l' hl' j k hj hk => ?_⟩
    obtain ⟨hi, rfl⟩ := C.stS_some hl'
    obtain ⟨b, hb, hle⟩ := h i hi j k hk
    have hk0 := (hH i k (mem_dst.1 (List.mem_of_mem_take (List.mem_of_getElem? hk)))).1
    simp only [ageM]
    rw [if_neg (by omega), hb]
    exact ⟨rfl, hle⟩
/-- what stands where behind an access -/
theorem acc_at {s y l : Int} (hg : Geo s y l = true) {H : Nat → List Int} (hH : Hok s H) {n : Int} (hn : 0 ≤ n) {i : Nat} {j : Nat} {k : Int} (hk : ((dst (addH s l H (n * l) i)).take y.toNat)[j]? = some k) :
    (i ≠ (n % s).toNat ∧ ((dst (H i)).take y.toNat)[j]? = some k) ∨ (i = (n % s).toNat ∧ ((j = 0 ∧ k = n) ∨ (k ≠ n ∧ 1 ≤ j ∧ j < y.toNat ∧ (((dst (H i)).take y.toNat)[j - 1]? = some k ∨
      (((dst (H i)).take y.toNat)[j]? = some k ∧ ∃ q, q < j ∧ ((dst (H i)).take y.toNat)[q]? = some n))))) := by
  have hp := Geo_spec hg
  have hd : (n * l) / l = n := Int.mul_ediv_cancel n (by omega)
  have hnl : 0 ≤ n * l := Int.mul_nonneg hn (by omega)
  by_cases e : i = (n % s).toNat
  · right
    refine ⟨e, ?_⟩
    have ha : addH s l H (n * l) i = n :: H i := by simp only [addH, hd]; rw [if_pos ⟨hnl, e.symm⟩]
    rw [ha, dst] at hk
    have hj : j < y.toNat := by have := (List.getElem?_eq_some_iff.1 hk).1; simp only [List.length_take] at this; omega
    rw [List.getElem?_take_of_lt hj] at hk
    cases j with
    | zero => simp only [List.getElem?_cons_zero, Option.some.injEq] at hk; exact .inl ⟨rfl, hk.symm⟩
    | succ j =>
      simp only [List.getElem?_cons_succ] at hk
      have hkn : k ≠ n := by
        have := List.mem_of_getElem? hk
        rw [List.mem_filter] at this
        simpa using this.2
      refine .inr ⟨hkn, by omega, hj, ?_⟩
      rcases filter_at (dst_nodup _) hk with h | ⟨h, q, hq, h2⟩
      · left; rw [List.getElem?_take_of_lt (by omega)]; exact h
      · right
        exact ⟨by rw [List.getElem?_take_of_lt (by omega)]; exact h, q, by omega, by rw [List.getElem?_take_of_lt (by omega)]; exact h2⟩
  · left
    have ha : addH s l H (n * l) i = H i := by simp only [addH, hd]; rw [if_neg (fun h => e h.2.symm)]
    rw [ha] at hk
    exact ⟨e, hk⟩
theorem Des.acc {s y l : Int} (hg : Geo s y l = true) {m : Int → Option Int} {H : Nat → List Int} (hH : Hok s H) (h : Des s y m H) {n : Int} (hn : 0 ≤ n) : Des s y (accM s y m n) (addH s l H (n * l)) := by
  have hp := Geo_spec hg
  intro i hi j k hk
  have hmem : ∀ {j : Nat} {k : Int}, ((dst (H i)).take y.toNat)[j]? = some k → 0 ≤ k ∧ (k % s).toNat = i := fun h => hH i _ (mem_dst.1 (List.mem_of_mem_take (List.mem_of_getElem? h)))
  have hs0 := Int.emod_nonneg n (show s ≠ 0 by omega)
  rcases acc_at hg hH hn hk with ⟨hne, hk⟩ | ⟨he, ⟨rfl, rfl⟩ | ⟨hkn, hj1, hjy, hk⟩⟩
  · obtain ⟨b, hb, hle⟩ := h i hi j k hk
    obtain ⟨hk0, hks⟩ := hmem hk
    have hks0 := Int.emod_nonneg k (show s ≠ 0 by omega)
    refine ⟨b, ?_, hle⟩
    unfold accM
    rw [if_neg (by rintro rfl; omega), if_neg (by rintro ⟨_, h2⟩; omega)]
    exact hb
  · exact ⟨0, by simp [accM], by omega⟩
  · have fin : ∀ (j0 : Nat), ((dst (H i)).take y.toNat)[j0]? = some k → j0 ≤ j → (j0 = j → ∃ q b, q < j ∧ m n = some b ∧ b ≤ (q : Nat)) → ∃ b, accM s y m n k = some b ∧ b ≤ j := by
      intro j0 hk hle0
      obtain ⟨b, hb, hle⟩ := h i hi j0 k hk
      obtain ⟨hk0, hks⟩ := hmem hk
      have hks0 := Int.emod_nonneg k (show s ≠ 0 by omega)
      have hacc : accM s y m n k = ageing y ((m n).getD y) b := by
        unfold accM
        rw [if_neg hkn, if_pos ⟨hk0, by omega⟩, hb]
        rfl
      rw [hacc]
      unfold ageing
      intro hq
      by_cases e : j0 = j
      · obtain ⟨q, bn, hqj, hmn, hbn⟩ := hq e
        clear hq
        rw [hmn, Option.getD_some]
        split
        · exact ⟨b, rfl, by omega⟩
        · rw [if_neg (by omega)]
          exact ⟨b + 1, rfl, by omega⟩
      · clear hq
        split
        · exact ⟨b, rfl, by omega⟩
        · rw [if_neg (by omega)]
          exact ⟨b + 1, rfl, by omega⟩
    rcases hk with hk | ⟨hk, q, hq, hn'⟩
    · exact fin (j - 1) hk (by omega) (fun e => by omega)
    · obtain ⟨b, hb, hle⟩ := h i hi q n hn'
      exact fin j hk (Nat.le_refl _) (fun _ => ⟨q, b, hq, hb, hle⟩)
theorem Des.range {s y l : Int} (hg : Geo s y l = true) {m : Int → Option Int} {H : Nat → List Int} (hH : Hok s H) (h : Des s y m H) {n lo c : Int} (hn : 0 ≤ n) (h1 : lo ≤ n) (h2 : n < lo + c) : Des s y (rangeM m lo c) (addH s l H (n * l)) := by
  intro i hi j k hk
  unfold rangeM
  by_cases hr : lo ≤ k ∧ k < lo + c
  · rw [if_pos hr]; exact ⟨0, rfl, by omega⟩
  · rw [if_neg hr]
    rcases acc_at hg hH hn hk with ⟨hne, hk⟩ | ⟨he, ⟨rfl, rfl⟩ | ⟨hkn, hj1, hjy, hk | ⟨hk, _⟩⟩⟩
    · exact h i hi j k hk
    · exact (hr ⟨h1, h2⟩).elim
    · obtain ⟨b, hb, hle⟩ := h i hi (j - 1) k hk
      exact ⟨b, hb, by omega⟩
    · exact h i hi j k hk
/-- the line that is really accessed -/
def lineM (lo hi p : Int) : Option Int := if hi < max lo 0 then none else some (max lo 0 + p % (hi - max lo 0 + 1))
theorem lineM_in {lo hi p n : Int} (hp : 0 ≤ p) (h : lineM lo hi p = some n) : max lo 0 ≤ n ∧ n ≤ hi := by
  unfold lineM at h
  split at h
  · cases h
  · simp only [Option.some.injEq] at h
    have h1 := Int.emod_nonneg p (show hi - max lo 0 + 1 ≠ 0 by omega)
    have h2 := Int.emod_lt_of_pos p (show 0 < hi - max lo 0 + 1 by omega)
    omega
def accH (s l : Int) (H : Nat → List Int) : Option Int → Nat → List Int
  | none => H
  | some n => addH s l H (n * l)
theorem sound_step {s y l : Int} (hg : Geo s y l = true) {M : Option (Int → Option Int)} {H : Nat → List Int} (hH : Hok s H) (h : DesP M s (stS s y H)) {lo hi p : Int} (hp : 0 ≤ p) :
    DesP (stepS s y M lo hi) s (stS s y (accH s l H (lineM lo hi p))) ∧ Hok s (accH s l H (lineM lo hi p)) := by
  have hgs := Geo_spec hg
  have hH' : Hok s (accH s l H (lineM lo hi p)) := by
    cases lineM lo hi p with
    | none => exact hH
    | some n => exact hH.add (by omega) _
  refine ⟨?_, hH'⟩
  cases M with
  | none =>
    have : stepS s y none lo hi = none := by unfold stepS accS rngS; split <;> rfl
    rw [this]
    exact ⟨by rw [C.stS_len]; omega, .inl rfl⟩
  | some m =>
    rw [DesP_iff hg hH] at h
    cases hl : lineM lo hi p with
    | none =>
      have hlt : hi < max lo 0 := by
        apply Classical.byContradiction
        intro hc
        unfold lineM at hl
        rw [if_neg hc] at hl
        cases hl
      have : stepS s y (some m) lo hi = some m := by
        unfold stepS accS rngS
        split
        · simp only [Option.map_some]
          rw [if_pos (by omega)]
        · simp only [Option.bind_some, hlt, if_true]
      rw [this]
      simp only [accH]
      exact (DesP_iff hg hH).2 h
    | some n =>
      obtain ⟨h1, h2⟩ := lineM_in hp hl
      rw [hl] at hH'
      simp only [accH] at hH' ⊢
      have hn : 0 ≤ n := by omega
      unfold stepS accS rngS
      split
      · rename_i e
        simp only [Option.map_some]
        rw [if_neg (by omega), show lo = n by omega]
        exact (DesP_iff hg hH').2 (h.acc hg hH hn)
      · simp only [Option.bind_some]
        rw [if_neg (by omega)]
        split
        · rw [show hi = n by omega]
          exact (DesP_iff hg hH').2 (h.acc hg hH hn)
        · split
          · exact ⟨by rw [C.stS_len]; omega, .inl rfl⟩
          · exact (DesP_iff hg hH').2 (h.range hg hH hn h1 (by omega))
theorem sound_hit {s y l : Int} (hg : Geo s y l = true) {M : Option (Int → Option Int)} {H : Nat → List Int} (hH : Hok s H) (h : DesP M s (stS s y H)) {n : Int} (hn : 0 ≤ n) (hin : (ageM M n).2 = false) : hitS s l (stS s y H) (n * l) = false := by
  have hgs := Geo_spec hg
  cases M with
  | none =>
    simp only [ageM] at hin
    rw [if_neg (by omega)] at hin
    cases hin
  | some m =>
    rw [DesP_iff hg hH] at h
    rw [hitS_stS hg, Int.mul_ediv_cancel n (by omega)]
    apply decide_eq_false
    rintro ⟨_, hm⟩
    obtain ⟨j, hj, e⟩ := List.getElem_of_mem hm
    obtain ⟨b, hb, _⟩ := h _ (set_lt hg) j n (by rw [List.getElem?_eq_getElem hj, e])
    simp only [ageM] at hin
    rw [if_neg (by omega), hb] at hin
    cases hin
end Go.Proofs.Ytndkadphpbnpeaa
