/-
  Plain: must: bounds of ages from above.
-/
import Derived.Test.YtehmbpkcbmnfnaaZCQ
set_option linter.unusedSimpArgs false
set_option linter.unusedVariables false
namespace Go.Proofs.Ytehmbpkcbmnfnaa
open Go.W Go.RowKit
open C (dst stS addH hh mem_dst dst_nodup stS_get stS_getD set_lt hitS hitS_stS)
abbrev Bnd := Int → Option Int
def Bd (y : Int) (m : Bnd) : Prop := ∀ j b, m j = some b → 0 ≤ j ∧ 0 ≤ b ∧ b < y
def agU (y lim b : Int) : Option Int := if lim ≤ b then some b else if y ≤ b + 1 then none else some (b + 1)
def accU (s y : Int) (m : Bnd) (k : Int) : Bnd := fun j => if j = k then some 0 else if 0 ≤ j ∧ j % s = k % s then (m j).bind (agU y ((m k).getD y)) else m j
/-- the set i has a line of the range -/
def tch (s lo hi i : Int) : Prop := (i - lo % s + s) % s ≤ hi - lo
instance (s lo hi i : Int) : Decidable (tch s lo hi i) := inferInstanceAs (Decidable (_ ≤ _))
def rngU (s y : Int) (m : Bnd) (lo hi : Int) : Bnd := fun j => if 0 ≤ j ∧ tch s lo hi (j % s) then (m j).bind (agU y y) else m j
def accX (s y : Int) (m : Bnd) (k : Int) : Bnd := if k < 0 then m else accU s y m k
def rngX (s y : Int) (m : Bnd) (lo hi : Int) : Bnd := if hi < max lo 0 then m else if max lo 0 = hi then accU s y m hi else rngU s y m (max lo 0) hi
def emU : Bnd := fun _ => none
def doU (s y : Int) (m : Bnd) (lo hi : Int) : Bnd := if lo = -1 ∧ hi = -1 then emU else if lo = hi then accX s y m lo else rngX s y m lo hi
def joinU (m n : Bnd) : Bnd := fun k => match m k, n k with | some a, some b => some (max a b) | _, _ => none
theorem agU_bd {y lim b c : Int} (hb : 0 ≤ b ∧ b < y) (h : agU y lim b = some c) : 0 ≤ c ∧ c < y ∧ b ≤ c ∧ c ≤ b + 1 := by
  unfold agU at h
  split at h
  · simp only [Option.some.injEq] at h; omega
  · split at h
    · cases h
    · simp only [Option.some.injEq] at h; omega
theorem Bd.acc {s y k : Int} {m : Bnd} (h : Bd y m) (hy : 1 ≤ y) (hk : 0 ≤ k) : Bd y (accU s y m k) := by
  intro j b hb
  unfold accU at hb
  split at hb
  · rename_i e; subst e; simp only [Option.some.injEq] at hb; omega
  · split at hb
    · rename_i hc
      obtain ⟨b0, h0, h1⟩ := Option.bind_eq_some_iff.1 hb
      obtain ⟨q0, q1, q2⟩ := h j b0 h0
      have := agU_bd ⟨q1, q2⟩ h1
      omega
    · exact h j b hb
theorem Bd.rng {s y lo hi : Int} {m : Bnd} (h : Bd y m) : Bd y (rngU s y m lo hi) := by
  intro j b hb
  unfold rngU at hb
  split at hb
  · obtain ⟨b0, h0, h1⟩ := Option.bind_eq_some_iff.1 hb
    obtain ⟨q0, q1, q2⟩ := h j b0 h0
    have := agU_bd ⟨q1, q2⟩ h1
    omega
  · exact h j b hb
theorem Bd_em (y : Int) : Bd y emU := by intro j b h; cases h
theorem Bd.accX {s y k : Int} {m : Bnd} (h : Bd y m) (hy : 1 ≤ y) : Bd y (accX s y m k) := by
  unfold Go.Proofs.Ytehmbpkcbmnfnaa.accX; split
  · exact h
  · exact h.acc hy (by omega)
theorem Bd.rngX {s y lo hi : Int} {m : Bnd} (h : Bd y m) (hy : 1 ≤ y) : Bd y (rngX s y m lo hi) := by
  unfold Go.Proofs.Ytehmbpkcbmnfnaa.rngX
  split
  · exact h
  · split
    · exact h.acc hy (by omega)
    · exact h.rng
theorem Bd.do {s y lo hi : Int} {m : Bnd} (h : Bd y m) (hy : 1 ≤ y) : Bd y (doU s y m lo hi) := by
  unfold doU
  split
  · exact Bd_em y
  · split
    · exact h.accX hy
    · exact h.rngX hy
theorem Bd.join {y : Int} {m n : Bnd} (h : Bd y m) (k : Bd y n) : Bd y (joinU m n) := by
  intro j b hb
  unfold joinU at hb
  split at hb
  · rename_i a c ha hc
    have := h j a ha
    have := k j c hc
    simp only [Option.some.injEq] at hb
    omega
  · cases hb
/-- no line beyond a bound -/
def Lim (m : Bnd) : Prop := ∀ k, m k ≠ none → k ≤ 1000
theorem Lim_em : Lim emU := fun k h => (h rfl).elim
theorem Lim.acc {s y k : Int} {m : Bnd} (h : Lim m) (hk : k ≤ 1000) : Lim (accU s y m k) := by
  intro j hj
  unfold accU at hj
  split at hj
  · omega
  · split at hj
    · apply h
      intro e
      rw [e] at hj
      exact hj rfl
    · exact h j hj
theorem Lim.rng {s y lo hi : Int} {m : Bnd} (h : Lim m) : Lim (rngU s y m lo hi) := by
  intro j hj
  unfold rngU at hj
  split at hj
  · apply h
    intro e
    rw [e] at hj
    exact hj rfl
  · exact h j hj
theorem Lim.do {s y lo hi : Int} {m : Bnd} (h : Lim m) (hlo : lo ≤ 1000) (hhi : hi ≤ 1000) : Lim (doU s y m lo hi) := by
  unfold doU accX rngX
  split
  · exact Lim_em
  · split
    · split
      · exact h
      · exact h.acc hlo
    · split
      · exact h
      · split
        · exact h.acc hhi
        · exact h.rng
theorem Lim.join {m n : Bnd} (h : Lim m) : Lim (joinU m n) := by
  intro j hj
  apply h
  intro e
  apply hj
  simp only [joinU, e]
/-! ### soundness -/
def DesU (s : Int) (m : Bnd) (H : Nat → List Int) : Prop := ∀ k b, m k = some b → ∃ j : Nat, (j : Int) ≤ b ∧ (dst (H (k % s).toNat))[j]? = some k
theorem DesU.acc {s y l : Int} (hg : Geo s y l = true) {m : Bnd} (hb : Bd y m) {H : Nat → List Int} (h : DesU s m H) {n : Int} (hn : 0 ≤ n) : DesU s (accU s y m n) (addH s l H (n * l)) := by
  have hp := Geo_spec hg
  have hs0 := Int.emod_nonneg n (show s ≠ 0 by omega)
  intro k b hk
  unfold accU at hk
  by_cases ekn : k = n
  · subst ekn
    rw [if_pos rfl] at hk
    simp only [Option.some.injEq] at hk
    exact ⟨0, by omega, acc_self (y := y) hg hn⟩
  · rw [if_neg ekn] at hk
    split at hk
    · rename_i hc
      obtain ⟨b0, h0, h1⟩ := Option.bind_eq_some_iff.1 hk
      obtain ⟨j, hj, hkj⟩ := h k b0 h0
      have hb0 := hb k b0 h0
      have hks0 := Int.emod_nonneg k (show s ≠ 0 by omega)
      have es : (k % s).toNat = (n % s).toNat := by omega
      rw [es] at hkj ⊢
      unfold agU at h1
      rcases acc_new (y := y) (l := l) hg hn ekn hkj with ⟨hq, hf⟩ | ⟨q, hq, hnq, hf⟩
      · refine ⟨j + 1, ?_, hf⟩
        split at h1
        · rename_i hlim
          simp only [Option.some.injEq] at h1
          cases hmn : m n with
          | none => rw [hmn, Option.getD_none] at hlim; omega
          | some bn =>
            rw [hmn, Option.getD_some] at hlim
            obtain ⟨qn, hqn, hnq⟩ := h n bn hmn
            have : ¬ qn ≤ j := fun hle => hq qn hle hnq
            omega
        · split at h1
          · cases h1
          · simp only [Option.some.injEq] at h1; omega
      · refine ⟨j, ?_, hf⟩
        split at h1
        · simp only [Option.some.injEq] at h1; omega
        · split at h1
          · cases h1
          · simp only [Option.some.injEq] at h1; omega
    · rename_i hc
      obtain ⟨j, hj, hkj⟩ := h k b hk
      have hb0 := hb k b hk
      have hks0 := Int.emod_nonneg k (show s ≠ 0 by omega)
      refine ⟨j, hj, ?_⟩
      rw [acc_other (y := y) hg (fun e => hc ⟨hb0.1, by omega⟩)]
      exact hkj
theorem tch_in {s lo hi n : Int} (hs : 1 ≤ s) (h1 : lo ≤ n) (h2 : n ≤ hi) : tch s lo hi (n % s) := by
  unfold tch
  have e : (n % s - lo % s + s) % s = (n - lo) % s := by
    rw [Int.add_emod_right, Int.sub_emod, Int.emod_emod, Int.emod_emod, ← Int.sub_emod]
  rw [e]
  have h3 := Int.emod_add_mul_ediv (n - lo) s
  have h4 : 0 ≤ s * ((n - lo) / s) := Int.mul_nonneg (by omega) (Int.ediv_nonneg (by omega) (by omega))
  omega
theorem DesU.rng {s y l : Int} (hg : Geo s y l = true) {m : Bnd} (hb : Bd y m) {H : Nat → List Int} (h : DesU s m H) {n lo hi : Int} (hn : 0 ≤ n) (h1 : lo ≤ n) (h2 : n ≤ hi) : DesU s (rngU s y m lo hi) (addH s l H (n * l)) := by
  have hp := Geo_spec hg
  have hs0 := Int.emod_nonneg n (show s ≠ 0 by omega)
  have ht := tch_in (s := s) (by omega) h1 h2
  intro k b hk
  unfold rngU at hk
  split at hk
  · rename_i hc
    obtain ⟨b0, h0, h3⟩ := Option.bind_eq_some_iff.1 hk
    obtain ⟨j, hj, hkj⟩ := h k b0 h0
    have hb0 := hb k b0 h0
    have hks0 := Int.emod_nonneg k (show s ≠ 0 by omega)
    have hbb : b = b0 + 1 := by
      unfold agU at h3
      rw [if_neg (by omega)] at h3
      split at h3
      · cases h3
      · simp only [Option.some.injEq] at h3; omega
    by_cases es : (k % s).toNat = (n % s).toNat
    · by_cases ekn : k = n
      · subst ekn
        exact ⟨0, by omega, acc_self (y := y) hg hn⟩
      · rw [es] at hkj ⊢
        rcases acc_new (y := y) (l := l) hg hn ekn hkj with ⟨hq, hf⟩ | ⟨q, hq, hnq, hf⟩
        · exact ⟨j + 1, by omega, hf⟩
        · exact ⟨j, by omega, hf⟩
    · refine ⟨j, by omega, ?_⟩
      rw [acc_other (y := y) hg es]
      exact hkj
  · rename_i hc
    obtain ⟨j, hj, hkj⟩ := h k b hk
    have hb0 := hb k b hk
    have hks0 := Int.emod_nonneg k (show s ≠ 0 by omega)
    refine ⟨j, hj, ?_⟩
    rw [acc_other (y := y) hg (fun e => hc ⟨hb0.1, by rw [show k % s = n % s by omega]; exact ht⟩)]
    exact hkj
/-- the line that is really accessed -/
def lineM (lo hi p : Int) : Option Int := if hi < max lo 0 then none else some (max lo 0 + p % (hi - max lo 0 + 1))
theorem lineM_in {lo hi p n : Int} (hp : 0 ≤ p) (h : lineM lo hi p = some n) : max lo 0 ≤ n ∧ n ≤ hi := by
  unfold lineM at h
  split at h
  · cases h
  · simp only [Option.some.injEq] at h
    have h1 := Int.emod_nonneg p (show hi - max lo 0 + 1 ≠ 0 by omega)
    have h2 := Int.emod_lt_of_pos p (show 0 < hi - max lo 0 + 1 by omega)
    omega
def accH (s l : Int) (H : Nat → List Int) : Option Int → Nat → List Int
  | none => H
  | some n => addH s l H (n * l)
theorem Hok.accH {s y l : Int} (hg : Geo s y l = true) {H : Nat → List Int} (hH : Hok s H) (o : Option Int) : Hok s (accH s l H o) := by
  have := Geo_spec hg
  cases o with
  | none => exact hH
  | some n => exact hH.add (by omega) _
theorem DesU.do {s y l : Int} (hg : Geo s y l = true) {m : Bnd} (hb : Bd y m) {H : Nat → List Int} (h : DesU s m H) {lo hi p : Int} (hp : 0 ≤ p) : DesU s (doU s y m lo hi) (accH s l H (lineM lo hi p)) := by
  have hgs := Geo_spec hg
  unfold doU
  split
  · intro k b hk; cases hk
  · cases hl : lineM lo hi p with
    | none =>
      have hlt : hi < max lo 0 := by
        apply Classical.byContradiction
        intro hc
        unfold lineM at hl
        rw [if_neg hc] at hl
        cases hl
      simp only [accH]
      split
      · unfold accX; rw [if_pos (by omega)]; exact h
      · unfold rngX; rw [if_pos hlt]; exact h
    | some n =>
      obtain ⟨h1, h2⟩ := lineM_in hp hl
      simp only [accH]
      have hn : 0 ≤ n := by omega
      split
      · unfold accX
        rw [if_neg (by omega), show lo = n by omega]
        exact h.acc hg hb hn
      · unfold rngX
        rw [if_neg (by omega)]
        split
        · rw [show hi = n by omega]; exact h.acc hg hb hn
        · exact h.rng hg hb hn h1 h2
theorem DesU.join {s : Int} {m n : Bnd} {H : Nat → List Int} (h : DesU s m H ∨ DesU s n H) : DesU s (joinU m n) H := by
  intro k b hk
  unfold joinU at hk
  split at hk
  · rename_i a c ha hc
    simp only [Option.some.injEq] at hk
    rcases h with h | h
    · obtain ⟨j, hj, e⟩ := h k a ha; exact ⟨j, by omega, e⟩
    · obtain ⟨j, hj, e⟩ := h k c hc; exact ⟨j, by omega, e⟩
  · cases hk
theorem DesU_em (s : Int) (H : Nat → List Int) : DesU s emU H := by intro k b hk; cases hk
/-! ### exactness -/
structure Exa (s y : Int) (m : Bnd) (H : Nat → List Int) : Prop where
  fw : ∀ i, i < s.toNat → ∀ (j : Nat) k, j < y.toNat → (dst (H i))[j]? = some k → m k = some (j : Int)
  bw : ∀ k b, m k = some b → 0 ≤ k ∧ ∃ j : Nat, b = j ∧ j < y.toNat ∧ (dst (H (k % s).toNat))[j]? = some k
theorem Exa.acc {s y l : Int} (hg : Geo s y l = true) {m : Bnd} {H : Nat → List Int} (hH : Hok s H) (h : Exa s y m H) {n : Int} (hn : 0 ≤ n) : Exa s y (accU s y m n) (addH s l H (n * l)) := by
  have hp := Geo_spec hg
  have hs0 := Int.emod_nonneg n (show s ≠ 0 by omega)
  have hin : (n % s).toNat < s.toNat := set_lt (y := y) (l := l) hg
  have hmem : ∀ {i j : Nat} {k : Int}, (dst (H i))[j]? = some k → 0 ≤ k ∧ (k % s).toNat = i := fun h => hH _ _ (mem_dst.1 (List.mem_of_getElem? h))
  have hlim : ∀ (j : Nat), j < y.toNat → (∀ q, q ≤ j → (dst (H (n % s).toNat))[q]? ≠ some n) → ¬ (m n).getD y ≤ j := by
    intro j hj hq hlt
    cases hm : m n with
    | none => rw [hm, Option.getD_none] at hlt; omega
    | some b =>
      rw [hm, Option.getD_some] at hlt
      obtain ⟨_, q, rfl, hqy, hq2⟩ := h.bw n b hm
      exact hq q (by omega) hq2
  refine ⟨fun i hi j k hj hk => ?_, fun k b hb => ?_⟩
  · by_cases e : i = (n % s).toNat
    · subst e
      rcases acc_old (y := y) hg hn hk with ⟨rfl, rfl⟩ | ⟨hkn, j', rfl, hk'⟩
      · simp [accU]
      · clear hk
        have hacc : ∀ b, m k = some b → 0 ≤ k → k % s = n % s → accU s y m n k = agU y ((m n).getD y) b := by
          intro b hb h0 hs
          unfold accU
          rw [if_neg hkn, if_pos ⟨h0, hs⟩, hb]
          rfl
        rcases hk' with ⟨hk, hq⟩ | ⟨hk, q, hq, hnq⟩
        · obtain ⟨hk0, hks⟩ := hmem hk
          have hks0 := Int.emod_nonneg k (show s ≠ 0 by omega)
          have := h.fw _ hi j' k (by omega) hk
          rw [hacc _ this hk0 (by omega)]
          unfold agU
          rw [if_neg (hlim j' (by omega) hq), if_neg (by omega)]
          simp
        · obtain ⟨hk0, hks⟩ := hmem hk
          have hks0 := Int.emod_nonneg k (show s ≠ 0 by omega)
          have hb := h.fw _ hi (j' + 1) k hj hk
          have hbn := h.fw _ hi q n (by omega) hnq
          rw [hacc _ hb hk0 (by omega)]
          unfold agU
          rw [hbn, Option.getD_some, if_pos (by omega)]
    · rw [acc_other (y := y) hg e] at hk
      obtain ⟨hk0, hks⟩ := hmem hk
      have hks0 := Int.emod_nonneg k (show s ≠ 0 by omega)
      have := h.fw i hi j k hj hk
      unfold accU
      rw [if_neg (by rintro rfl; omega), if_neg (by rintro ⟨_, h2⟩; omega)]
      exact this
  · unfold accU at hb
    by_cases ekn : k = n
    · subst ekn
      rw [if_pos rfl] at hb
      simp only [Option.some.injEq] at hb
      subst hb
      exact ⟨hn, 0, rfl, by omega, acc_self (y := y) hg hn⟩
    · rw [if_neg ekn] at hb
      split at hb
      · rename_i hc
        obtain ⟨b0, hmk, hb⟩ := Option.bind_eq_some_iff.1 hb
        obtain ⟨hk0, j0, rfl, hj0, hkj⟩ := h.bw k b0 hmk
        have hks0 := Int.emod_nonneg k (show s ≠ 0 by omega)
        have es : (k % s).toNat = (n % s).toNat := by omega
        rw [es] at hkj
        refine ⟨hk0, ?_⟩
        rw [es]
        unfold agU at hb
        rcases acc_new (y := y) (l := l) hg hn ekn hkj with ⟨hq, hf⟩ | ⟨q, hq, hnq, hf⟩
        · rw [if_neg (hlim j0 hj0 hq)] at hb
          split at hb
          · cases hb
          · simp only [Option.some.injEq] at hb
            exact ⟨j0 + 1, by omega, by omega, hf⟩
        · have hbn := h.fw _ hin q n (by omega) hnq
          rw [hbn, Option.getD_some, if_pos (by omega)] at hb
          simp only [Option.some.injEq] at hb
          exact ⟨j0, hb.symm, hj0, hf⟩
      · rename_i hc
        obtain ⟨hk0, j0, rfl, hj0, hkj⟩ := h.bw k b hb
        have hks0 := Int.emod_nonneg k (show s ≠ 0 by omega)
        refine ⟨hk0, j0, rfl, hj0, ?_⟩
        rw [acc_other (y := y) hg (fun e => hc ⟨hk0, by omega⟩)]
        exact hkj
theorem Exa_empty (s y : Int) : Exa s y emU (fun _ => []) := ⟨fun i _ j k _ h => by simp [dst] at h, fun k b h => by cases h⟩
end Go.Proofs.Ytehmbpkcbmnfnaa
