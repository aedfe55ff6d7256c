/-
  The reference's Find, plain: latches, blocks, parents as Find's.
-/
import Derived.Test.YtlhlbiaibgmapaaZLP6
import Derived.Test.YtlhlbiaibgmapaaZLP8
import Derived.Test.YtlhlbiaibgmapaaZLP9
set_option linter.unusedSimpArgs false
set_option linter.unusedVariables false
namespace Go.Proofs.Ytlhlbiaibgmapaa
section
variable {N : List (List Int)} (hN : NOk N) (h0 : 0 < N.length)
include hN h0
theorem psn_ord (x : Nat) : psn (ord N) x = if rch N (-1) x = true then (PO N x : Int) else -1 := by
  unfold psn
  by_cases h : rch N (-1) x = true
  · rw [if_pos h, if_pos (mem_ord.2 ((re_iff hN h0 x).2 ((rch_iff hN h0 _ _).1 h)))]
  · rw [if_neg h, if_neg fun hm => h ((rch_iff hN h0 _ _).2 ((re_iff hN h0 x).1 (mem_ord.1 hm)))]
end
/-- the reference's latches -/
def rlS (N : List (List Int)) (h : Nat) (a : Nat) : Bool := rch N (-1) a && decide ((h : Int) ∈ sc N a) && rdom N h a
theorem asc_ext {l m : List Int} (hl : Asc l) (hm : Asc m) (h : ∀ x, x ∈ l ↔ x ∈ m) : l = m :=
  (((List.perm_ext_iff_of_nodup (asc_nodup hl) (asc_nodup hm)).2 h)).eq_of_pairwise (le := fun a b : Int => a < b) (fun a b _ _ h1 h2 => by omega) hl hm
theorem edg_asc : ∀ (N : List (List Int)) (k : Nat), (∀ l ∈ N, l.Nodup) → (edg k N).Pairwise fun e f => e.1 < f.1 ∨ (e.1 = f.1 ∧ e.2 ≠ f.2)
  | [], k, _ => by simp [edg]
  | l :: N, k, h => by
    rw [edg, List.pairwise_append]
    refine ⟨?_, edg_asc N (k + 1) fun m hm => h m (by simp [hm]), ?_⟩
    · rw [List.pairwise_map]
      exact (h l (by simp)).imp fun hne => .inr ⟨rfl, hne⟩
    · intro x hx y hy
      obtain ⟨n, _, rfl⟩ := List.mem_map.1 hx
      have := edg_ge N (k + 1) _ hy
      left
      show (k : Int) < _
      omega
theorem lat_asc {N : List (List Int)} (hnd : ∀ l ∈ N, l.Nodup) (h : Int) : Asc (lat N h) := by
  unfold lat latL Asc
  rw [List.pairwise_map]
  have h1 := (edg_asc N 0 hnd).filter (fun e => isR N e && decide (e.2 = h))
  refine List.Pairwise.imp_of_mem ?_ h1
  intro a b ha hb hab
  have q1 := (List.mem_filter.1 ha).2
  have q2 := (List.mem_filter.1 hb).2
  simp only [Bool.and_eq_true, decide_eq_true_eq] at q1 q2
  rcases hab with hab | ⟨_, hne⟩
  · exact hab
  · exact absurd (q1.2.trans q2.2.symm) hne
section
variable {N : List (List Int)} (hN : NOk N) (h0 : 0 < N.length)
include hN h0
theorem rlS_lat (hnd : ∀ l ∈ N, l.Nodup) (hg : Good N) (h : Nat) : ascL N.length (rlS N h) = lat N h := by
  refine asc_ext (ascL_asc _ _) (lat_asc hnd _) fun x => ?_
  rw [ascL_mem]
  constructor
  · rintro ⟨a, rfl, ha, hp⟩
    unfold rlS at hp
    simp only [Bool.and_eq_true, decide_eq_true_eq] at hp
    obtain ⟨⟨h1, h2⟩, h3⟩ := hp
    have hr : RE N a := (re_iff hN h0 a).2 ((rch_iff hN h0 _ _).1 h1)
    exact (lat_iff hN h0 hg).2 ⟨hr, h2, (rdom_iff hN h0 hr).1 h3⟩
  · intro hx
    obtain ⟨⟨h1, h2⟩, _⟩ := lat_rng hN hx
    obtain ⟨a, rfl⟩ := Int.eq_ofNat_of_zero_le h1
    obtain ⟨k1, k2, k3⟩ := (lat_iff hN h0 hg).1 hx
    refine ⟨a, rfl, by simpa using h2, ?_⟩
    unfold rlS
    simp only [Bool.and_eq_true, decide_eq_true_eq]
    exact ⟨⟨(rch_iff hN h0 _ _).2 ((re_iff hN h0 a).1 k1), k2⟩, (rdom_iff hN h0 k1).2 k3⟩
/-- the reference's blocks -/
theorem rbS_body (hg : Good N) {h : Nat} (hl : lat N h ≠ []) {b : Nat} (hb : b < N.length) :
    (rch N (-1) b && (decide (b = h) || (lat N h).any fun l => rrs N l.toNat h N.length b)) = bdS N h (lat N h) b := by
  have hre : ∀ x, rch N (-1) x = true ↔ RE N x := fun x => by rw [rch_iff hN h0, re_iff hN h0]
  have hh := hd_re hN h0 hg hl
  rw [Bool.eq_iff_iff, body_iff hN h0]
  simp only [Bool.and_eq_true, Bool.or_eq_true, decide_eq_true_eq, List.any_eq_true]
  constructor
  · rintro ⟨h1, h2⟩
    rcases h2 with h2 | ⟨l, h2, h3⟩
    · exact .inl h2
    · by_cases e : b = h
      · exact .inl e
      · right
        obtain ⟨⟨q1, q2⟩, _⟩ := lat_rng hN h2
        obtain ⟨l, rfl⟩ := Int.eq_ofNat_of_zero_le q1
        exact rrs_bw hN h0 h2 _ _ ((hre b).1 h1) e (by simpa using h3)
  · rintro (rfl | h1)
    · exact ⟨(hre _).2 hh, .inl rfl⟩
    · obtain ⟨l, q1, q2⟩ := bw_rrs hN h0 h1
      exact ⟨(hre b).2 h1.re, .inr ⟨l, q1, by simpa using q2⟩⟩
end
theorem rlS_none {N : List (List Int)} {h : Nat} (hh : rch N (-1) h = false) (hN : NOk N) (h0 : 0 < N.length) (hg : Good N) : lat N h = [] := by
  apply Classical.byContradiction
  intro hne
  have := hd_re hN h0 hg hne
  rw [re_iff hN h0, ← rch_iff hN h0, hh] at this
  cases this
/-- the list while the parent of row i is sought -/
def lstG (N : List (List Int)) (i : Nat) (q : Int) : List Lp := (List.range (hsL N).length).map fun j => rowF N ((hsL N).getD j 0) (if j < i then parN N j else if j = i then q else -1)
theorem lstG_len (N : List (List Int)) (i : Nat) (q : Int) : (lstG N i q).length = (hsL N).length := by unfold lstG; simp
theorem lstG_get {N : List (List Int)} {i j : Nat} {q : Int} (hj : j < (hsL N).length) : (lstG N i q)[j]? = some (rowF N ((hsL N).getD j 0) (if j < i then parN N j else if j = i then q else -1)) := by
  unfold lstG
  simp [hj]
theorem lstG_at {N : List (List Int)} {i j : Nat} {q : Int} (hj : j < (lstG N i q).length) : (lstG N i q)[j] = rowF N ((hsL N).getD j 0) (if j < i then parN N j else if j = i then q else -1) := by
  have h1 := lstG_get (N := N) (i := i) (q := q) (j := j) (by rw [lstG_len] at hj; exact hj)
  rw [List.getElem?_eq_getElem hj] at h1
  exact Option.some.inj h1
theorem lstG_start (N : List (List Int)) (i : Nat) : lstG N i (-1) = lstF N i := by
  unfold lstG lstF
  refine List.map_congr_left fun j _ => ?_
  congr 1
  by_cases h1 : j < i
  · rw [if_pos h1, if_pos h1]
  · rw [if_neg h1, if_neg h1]
    split <;> rfl
theorem lstG_stop (N : List (List Int)) (i : Nat) : lstG N i (parN N i) = lstF N (i + 1) := by
  unfold lstG lstF
  refine List.map_congr_left fun j _ => ?_
  congr 1
  by_cases h1 : j < i
  · rw [if_pos h1, if_pos (by omega)]
  · rw [if_neg h1]
    by_cases h2 : j = i
    · subst h2
      rw [if_pos rfl, if_pos (by omega)]
    · rw [if_neg h2, if_neg (by omega)]
/-- what is sought: the parent after k rows -/
def parK (N : List (List Int)) (i k : Nat) : Int := parF ((hsL N).map fun h => rowF N h (-1)) (rowF N ((hsL N).getD i 0) (-1)) k
theorem parK_end (N : List (List Int)) (i : Nat) : parK N i (hsL N).length = parN N i := rfl
theorem parK_rng (N : List (List Int)) (i k : Nat) : -1 ≤ parK N i k ∧ parK N i k < k := parF_rng _ _ _
def blF (N : List (List Int)) (j : Nat) : List Int := ascL N.length (bdS N ((hsL N).getD j 0).toNat (lat N ((hsL N).getD j 0)))
theorem hsL_inj {N : List (List Int)} {i k : Nat} (hi : i < (hsL N).length) (hk : k < (hsL N).length) (e : (hsL N).getD k 0 = (hsL N).getD i 0) : k = i := by
  have ha : Asc (hsL N) := ascL_asc _ _
  rw [List.getD_eq_getElem?_getD, List.getD_eq_getElem?_getD, List.getElem?_eq_getElem hi, List.getElem?_eq_getElem hk] at e
  simp only [Option.getD_some] at e
  rcases Nat.lt_trichotomy i k with h | h | h
  · have := ha.lt h hk; omega
  · exact h.symm
  · have := ha.lt h hi; omega
/-- the reference's test and the program's -/
theorem parK_succ {N : List (List Int)} {i k : Nat} (hi : i < (hsL N).length) (hk : k < (hsL N).length) :
    parK N i (k + 1) = if k ≠ i ∧ ((∀ b ∈ blF N i, b ∈ blF N k) ∧ (hsL N).getD k 0 ≠ (hsL N).getD i 0) ∧ (parK N i k < 0 ∨ (blF N k).length < (blF N (parK N i k).toNat).length) then (k : Int) else parK N i k := by
  have hrng := parK_rng N i k
  have hs : parK N i (k + 1) = if parC (rowF N ((hsL N).getD i 0) (-1)) ((((hsL N).map fun h => rowF N h (-1))).getD k dLp) ((hsL N).map fun h => rowF N h (-1)) (parK N i k) then (k : Int) else parK N i k := rfl
  have hg : ∀ j, j < (hsL N).length → (((hsL N).map fun h => rowF N h (-1))).getD j dLp = rowF N ((hsL N).getD j 0) (-1) := fun j hj => by
    rw [List.getD_eq_getElem?_getD, List.getElem?_map, List.getD_eq_getElem?_getD, List.getElem?_eq_getElem hj]
    rfl
  rw [hs, hg k hk]
  have e : parC (rowF N ((hsL N).getD i 0) (-1)) (rowF N ((hsL N).getD k 0) (-1)) ((hsL N).map fun h => rowF N h (-1)) (parK N i k) ↔ (k ≠ i ∧ ((∀ b ∈ blF N i, b ∈ blF N k) ∧ (hsL N).getD k 0 ≠ (hsL N).getD i 0) ∧ (parK N i k < 0 ∨ (blF N k).length < (blF N (parK N i k).toNat).length)) := by
    generalize parK N i k = p at *
    have hb : 0 ≤ p → bln ((hsL N).map fun h => rowF N h (-1)) p = (blF N p.toNat).length := fun hp => by
      unfold bln
      rw [hg _ (by omega)]
      rfl
    have hle : (∀ b ∈ blF N i, b ∈ blF N k) → (blF N i).length ≤ (blF N k).length := fun hs => by
      have hn : (blF N i).Nodup := asc_nodup (ascL_asc _ _)
      exact nodup_len hn hs
    unfold parC
    show (¬((hsL N).getD k 0 = (hsL N).getD i 0 ∨ (blF N k).length < (blF N i).length) ∧ ¬(0 ≤ p ∧ bln ((hsL N).map fun h => rowF N h (-1)) p ≤ (blF N k).length) ∧ ∀ b ∈ blF N i, b ∈ blF N k) ↔ _
    constructor
    · rintro ⟨h1, h2, h3⟩
      refine ⟨fun e => h1 (.inl (by rw [e])), ⟨h3, fun e => h1 (.inl e)⟩, ?_⟩
      by_cases hp : p < 0
      · exact .inl hp
      · right
        have := hb (by omega)
        omega
    · rintro ⟨h1, ⟨h2, h3⟩, h4⟩
      refine ⟨?_, ?_, h2⟩
      · rintro (h | h)
        · exact h3 h
        · have := hle h2; omega
      · rintro ⟨h5, h6⟩
        have := hb h5
        omega
  by_cases hc : parC (rowF N ((hsL N).getD i 0) (-1)) (rowF N ((hsL N).getD k 0) (-1)) ((hsL N).map fun h => rowF N h (-1)) (parK N i k)
  · rw [if_pos hc, if_pos (e.1 hc)]
  · rw [if_neg hc, if_neg fun h => hc (e.2 h)]
/-- the edges of the first a blocks and the first k of the next -/
def edK (N : List (List Int)) (a k : Nat) : List (Int × Int) := edg 0 (N.take a) ++ ((sc N a).take k).map fun n => ((a : Int), n)
theorem edg_append : ∀ (N M : List (List Int)) (k : Nat), edg k (N ++ M) = edg k N ++ edg (k + N.length) M
  | [], M, k => by simp [edg]
  | l :: N, M, k => by
    rw [List.cons_append, edg, edg, edg_append N M, List.append_assoc, List.length_cons]
    congr 2
    rw [show k + 1 + N.length = k + (N.length + 1) by omega]
theorem edK_next {N : List (List Int)} {a : Nat} (ha : a < N.length) : edK N a (sc N a).length = edK N (a + 1) 0 := by
  unfold edK
  rw [List.take_length, List.take_zero, List.map_nil, List.append_nil, List.take_succ_eq_append_getElem ha, edg_append]
  have e : N[a] = sc N a := by unfold sc; rw [List.getD_eq_getElem?_getD, List.getElem?_eq_getElem ha]; rfl
  rw [e]
  congr 1
  rw [edg, edg, List.append_nil, List.length_take]
  congr 1
  funext n
  congr 1
  omega
theorem edK_snoc {N : List (List Int)} {a k : Nat} (hk : k < (sc N a).length) : edK N a (k + 1) = edK N a k ++ [((a : Int), (sc N a)[k])] := by
  unfold edK
  rw [List.take_succ_eq_append_getElem hk, List.map_append, List.append_assoc]
  rfl
theorem edK_end (N : List (List Int)) : edK N N.length 0 = edg 0 N := by
  unfold edK
  rw [List.take_length, List.take_zero, List.map_nil, List.append_nil]
theorem edK_pre {N : List (List Int)} {a k : Nat} (ha : a < N.length) : ∃ R, edg 0 N = edK N a k ++ R := by
  have h1 : ∃ R, edg 0 N = edg 0 (N.take a) ++ edg a [N[a]] ++ R := by
    refine ⟨edg (a + 1) (N.drop (a + 1)), ?_⟩
    conv => lhs; rw [← List.take_append_drop a N, List.drop_eq_getElem_cons ha]
    rw [edg_append, List.length_take, show 0 + min a N.length = a by omega, edg, edg, edg, List.append_nil, List.append_assoc]
  obtain ⟨R, h1⟩ := h1
  have e : N[a] = sc N a := by unfold sc; rw [List.getD_eq_getElem?_getD, List.getElem?_eq_getElem ha]; rfl
  refine ⟨((sc N a).drop k).map (fun n => ((a : Int), n)) ++ R, ?_⟩
  rw [h1, e]
  unfold edK
  rw [edg, edg, List.append_nil]
  conv => lhs; rw [← List.take_append_drop k (sc N a), List.map_append]
  simp only [List.append_assoc, List.take_append_drop]
end Go.Proofs.Ytlhlbiaibgmapaa
