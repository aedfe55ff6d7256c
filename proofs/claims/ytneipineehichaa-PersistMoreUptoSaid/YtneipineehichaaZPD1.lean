/-
  persist: what persistent lines do in a cache; data that a cache's moves leave as they are.
-/
import Derived.Test.YtneipineehichaaZPC9
import Derived.Test.YtneipineehichaaZK
set_option linter.unusedSimpArgs false
set_option linter.unusedVariables false
namespace Go.Proofs.Ytneipineehichaa
open Go.W Go.RowKit
open C (CacheAt stS addH hitS Mv Chg Access_mv Flush_mv ptr dst)
/-- the histories hold accessed lines, each in its set -/
def HL (L : List (Int × Int)) (s : Int) (H : Nat → List Int) : Prop := ∀ i k, k ∈ H i → acd L k = true ∧ (k % s).toNat = i
theorem HL.nil (L : List (Int × Int)) (s : Int) : HL L s fun _ => [] := fun i k h => by simp at h
theorem addH_line {s l n : Int} (hl : 0 < l) (hn : 0 ≤ n) (H : Nat → List Int) (i : Nat) : addH s l H (n * l) i = if (n % s).toNat = i then n :: H i else H i := by
  have hd : (n * l) / l = n := Int.mul_ediv_cancel n (by omega)
  have h0 : 0 ≤ n * l := Int.mul_nonneg hn (by omega)
  simp only [addH, hd, h0, true_and]
theorem HL.add {L : List (Int × Int)} {s l n : Int} {H : Nat → List Int} (h : HL L s H) (hl : 0 < l) (hn : acd L n = true) : HL L s (addH s l H (n * l)) := by
  intro i k hk
  rw [addH_line hl (acd_range hn).1] at hk
  split at hk
  · rename_i e
    rcases List.mem_cons.1 hk with rfl | hk
    · exact ⟨hn, e⟩
    · exact h i k hk
  · exact h i k hk
/-- a persistent line that has been accessed is in the cache -/
theorem pers_in {L : List (Int × Int)} {s y : Int} {H : Nat → List Int} (h : HL L s H) {n : Int} (hp : n ∈ pers L s y) (hn : n ∈ H (n % s).toNat) : n ∈ (dst (H (n % s).toNat)).take y.toNat := by
  have hlen : (dst (H (n % s).toNat)).length ≤ cnt L s (n % s).toNat := by
    refine nodup_len (C.dst_nodup _) fun k hk => ?_
    obtain ⟨h1, h2⟩ := h _ k (C.mem_dst.1 hk)
    rw [lns_mem]
    have := acd_range h1
    have := MX_eq
    exact ⟨h1, by omega, h2⟩
  have := (pers_mem.1 hp).2
  rw [List.take_of_length_le (by omega)]
  exact C.mem_dst.2 hn
theorem hit_line {s y l n : Int} (hg : Geo s y l = true) (hn : 0 ≤ n) (H : Nat → List Int) : hitS s l (stS s y H) (n * l) = decide (n ∈ (dst (H (n % s).toNat)).take y.toNat) := by
  have hp := Geo_spec hg
  have hd : (n * l) / l = n := Int.mul_ediv_cancel n (by omega)
  have h0 : 0 ≤ n * l := Int.mul_nonneg hn (by omega)
  rw [C.hitS_stS hg, hd]
  simp [h0]
theorem hit_pers {L : List (Int × Int)} {s y l n : Int} (hg : Geo s y l = true) {H : Nat → List Int} (h : HL L s H) (hp : n ∈ pers L s y) : hitS s l (stS s y H) (n * l) = decide (n ∈ H (n % s).toNat) := by
  rw [hit_line hg (acd_range (pers_mem.1 hp).1).1]
  by_cases hn : n ∈ H (n % s).toNat
  · rw [decide_eq_true hn, decide_eq_true (pers_in h hp hn)]
  · rw [decide_eq_false hn, decide_eq_false (fun q => hn (C.mem_dst.1 (List.mem_of_mem_take q)))]
/-- the persistent lines that have been accessed -/
def pin (L : List (Int × Int)) (s y : Int) (H : Nat → List Int) : List Int := (pers L s y).filter fun n => decide (n ∈ H (n % s).toNat)
theorem filter_one {A : List Int} {p p' : Int → Bool} {n : Int} (hn : n ∈ A) (hd : A.Nodup) (h0 : p n = false) (h : ∀ m, p' m = (p m || m == n)) : (A.filter p').length = (A.filter p).length + 1 := by
  induction A with
  | nil => simp at hn
  | cons a A ih =>
    rw [List.nodup_cons] at hd
    rw [List.filter_cons, List.filter_cons, h a]
    by_cases e : a = n
    · subst e
      rw [h0]
      simp only [Bool.false_or, beq_self_eq_true, if_true, Bool.false_eq_true, if_false, List.length_cons]
      have : A.filter p' = A.filter p := by
        refine List.filter_congr fun m hm => ?_
        rw [h m]
        have : (m == a) = false := by
          rw [beq_eq_false_iff_ne]
          rintro rfl
          exact hd.1 hm
        rw [this, Bool.or_false]
      rw [this]
    · have hb : (a == n) = false := by rw [beq_eq_false_iff_ne]; exact e
      rw [hb, Bool.or_false]
      have hm : n ∈ A := by
        rcases List.mem_cons.1 hn with h | h
        · exact (e h.symm).elim
        · exact h
      have := ih hm hd.2
      split
      · simp only [List.length_cons]; omega
      · exact this
theorem mem_add {s l n : Int} (hl : 0 < l) (hn : 0 ≤ n) (H : Nat → List Int) (m : Int) : m ∈ addH s l H (n * l) (m % s).toNat ↔ m ∈ H (m % s).toNat ∨ m = n := by
  rw [addH_line hl hn]
  by_cases e : m = n
  · subst e; simp
  · split
    · simp [e]
    · simp [e]
theorem pin_new {L : List (Int × Int)} {s y l n : Int} (hl : 0 < l) {H : Nat → List Int} (hp : n ∈ pers L s y) (hn : n ∉ H (n % s).toNat) : (pin L s y (addH s l H (n * l))).length = (pin L s y H).length + 1 := by
  have h0 := (acd_range (pers_mem.1 hp).1).1
  refine filter_one hp ((pers_sorted L s y).imp (by intro a b h; omega)) (decide_eq_false hn) fun m => ?_
  rw [Bool.eq_iff_iff]
  simp only [decide_eq_true_eq, Bool.or_eq_true, beq_iff_eq]
  exact mem_add hl h0 H m
theorem pin_mono {L : List (Int × Int)} {s y l n : Int} (hl : 0 < l) (hn : 0 ≤ n) (H : Nat → List Int) : (pin L s y H).length ≤ (pin L s y (addH s l H (n * l))).length := by
  unfold pin
  rw [← List.countP_eq_length_filter, ← List.countP_eq_length_filter]
  refine List.countP_mono_left fun m _ h => ?_
  simp only [decide_eq_true_eq] at h ⊢
  exact (mem_add hl hn H m).2 (.inl h)
theorem pin_le (L : List (Int × Int)) (s y : Int) (H : Nat → List Int) : (pin L s y H).length ≤ (pers L s y).length := List.length_filter_le _ _
/-! ### data that stay -/
theorem FnAt.per {w w' : World} {v : Value} {K : List Int} (h : FnAt w v K) (hE : Per w w') : FnAt w' v K := by
  obtain ⟨b, r, h1, h2, lm, cm, h3, h4⟩ := h
  exact ⟨b, r, h1, hE.cells h2, lm, cm, hE.map h3, h4⟩
/-- a call with blocks hidden, its answer told of what is not hidden -/
theorem VRet.hidE {P : Program} {g : Nat} {args : Array Value} {w : World} {F : Nat → Prop} {R : World → Value → Prop} (hR : ∀ w w' v, R w v → Per w w' → R w' v) (hF : ∀ b, F b → b < w.heap.size)
    (h : VRet P g args (Go.W.hid F w) fun v w1 => R w1 v ∧ Ext (Go.W.hid F w) w1) : VRet P g args w fun v w' => R (Go.W.hid F w') v ∧ Ext w w' := by
  refine (VRet.hid hF h).mono ?_
  rintro v w' ⟨w1, ⟨h1, h2⟩, h3, _, _, h4⟩
  exact ⟨hR _ _ _ h1 h3, h4 h2⟩
theorem per_chg {G : Nat → Prop} {w w' : World} (h : Chg G w w') : Per (hid G w) w' := by
  intro b o hb ho
  obtain ⟨h1, h2⟩ := tombW_real hb ho
  rw [h.get b (get_lt h2) (hidF_false.1 h1)]
  exact h2
/-- more is hidden, where nothing stood before -/
theorem per_hid {U U' : Nat → Prop} {w w' : World} (h1 : ∀ b, b < w.heap.size → U' b → U b) (h2 : ∀ b, b < w.heap.size → ¬ U b → w'.heap[b]? = w.heap[b]?) : Per (hid U w) (hid U' w') := by
  intro b o hb ho
  obtain ⟨q1, q2⟩ := tombW_real hb ho
  have hu := hidF_false.1 q1
  have hlt := get_lt q2
  unfold hid
  rw [tombW_see (hidF_false.2 fun h => hu (h1 b hlt h)), h2 b hlt hu]
  exact q2
end Go.Proofs.Ytneipineehichaa
