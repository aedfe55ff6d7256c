/-
  LoopsReducible, plain: merging rounds.
-/
import Derived.Test.YtlhlbiaibgmapaaZLP7
import Derived.Test.YtlhlbiaibgmapaaZLPA
import Derived.Test.YtlhlbiaibgmapaaZLE0
set_option linter.unusedSimpArgs false
set_option linter.unusedVariables false
namespace Go.Proofs.Ytlhlbiaibgmapaa
abbrev ES := Int × Int → Bool
/-- the only predecessor sought among the first k: the last one found, and how many -/
def frm (S : ES) (b : Nat) : Nat → Int × Int
  | 0 => (-1, 0)
  | k + 1 => if S ((k : Int), (b : Int)) = true then ((k : Int), (frm S b k).2 + 1) else frm S b k
theorem frm_rng (S : ES) (b : Nat) : ∀ k, 0 ≤ (frm S b k).2 ∧ (frm S b k).2 ≤ k ∧ -1 ≤ (frm S b k).1 ∧ (frm S b k).1 < k
  | 0 => by simp [frm]
  | k + 1 => by
    have := frm_rng S b k
    rw [frm]
    split
    · simp only []; omega
    · omega
theorem frm_zero (S : ES) (b : Nat) : ∀ k, (frm S b k).2 = 0 → ∀ a, a < k → S ((a : Int), (b : Int)) = false
  | 0, _, a, h => by omega
  | k + 1, h, a, ha => by
    have hr := frm_rng S b k
    rw [frm] at h
    cases hs : S ((k : Int), (b : Int)) with
    | true => rw [hs, if_pos rfl] at h; simp only [] at h; omega
    | false =>
      rw [hs, if_neg (by decide)] at h
      by_cases e : a = k
      · subst e; exact hs
      · exact frm_zero S b k h a (by omega)
theorem frm_one (S : ES) (b : Nat) : ∀ k, (frm S b k).2 = 1 → ∃ f : Nat, (frm S b k).1 = f ∧ f < k ∧ S ((f : Int), (b : Int)) = true ∧ ∀ a, a < k → S ((a : Int), (b : Int)) = true → a = f
  | 0, h => by simp [frm] at h
  | k + 1, h => by
    rw [frm] at h ⊢
    cases hs : S ((k : Int), (b : Int)) with
    | true =>
      rw [hs, if_pos rfl] at h
      simp only [] at h
      rw [if_pos rfl]
      refine ⟨k, rfl, by omega, hs, fun a ha h2 => ?_⟩
      by_cases e : a = k
      · exact e
      · have := frm_zero S b k (by omega) a (by omega)
        rw [h2] at this; cases this
    | false =>
      rw [hs, if_neg (by decide)] at h
      rw [if_neg (by decide)]
      obtain ⟨f, h1, h2, h3, h4⟩ := frm_one S b k h
      refine ⟨f, h1, by omega, h3, fun a ha h5 => ?_⟩
      by_cases e : a = k
      · subst e; rw [hs] at h5; cases h5
      · exact h4 a (by omega) h5
theorem frm_of {S : ES} {b f : Nat} (hf : S ((f : Int), (b : Int)) = true) (hu : ∀ a : Nat, S ((a : Int), (b : Int)) = true → a = f) : ∀ k, frm S b k = if f < k then ((f : Int), 1) else (-1, 0)
  | 0 => by simp [frm]
  | k + 1 => by
    rw [frm, frm_of hf hu k]
    by_cases e : k = f
    · subst e
      rw [hf, if_pos rfl, if_neg (by omega), if_pos (by omega)]
      rfl
    · have hs : S ((k : Int), (b : Int)) = false := by
        cases h : S ((k : Int), (b : Int)) with
        | false => rfl
        | true => exact (e (hu k h)).elim
      rw [hs, if_neg (by decide)]
      by_cases h : f < k
      · rw [if_pos h, if_pos (by omega)]
      · rw [if_neg h, if_neg (by omega)]
/-- merging b into f: the first c are done -/
def mgC (S : ES) (f b : Nat) : Nat → ES
  | 0 => updP S ((f : Int), (b : Int)) false
  | c + 1 => if mgC S f b c ((b : Int), (c : Int)) = true then (if c ≠ f then updP (updP (mgC S f b c) ((b : Int), (c : Int)) false) ((f : Int), (c : Int)) true else updP (mgC S f b c) ((b : Int), (c : Int)) false) else mgC S f b c
theorem updP_at (S : ES) (a c x y : Nat) (v : Bool) : updP S ((a : Int), (c : Int)) v ((x : Int), (y : Int)) = if x = a ∧ y = c then v else S ((x : Int), (y : Int)) := by
  unfold updP
  by_cases h : x = a ∧ y = c
  · obtain ⟨rfl, rfl⟩ := h
    simp
  · rw [if_neg h, if_neg fun e => h (by simp only [Prod.mk.injEq] at e; omega)]
theorem mgC_at {S : ES} {f b : Nat} (hfb : f ≠ b) (hbb : S ((b : Int), (b : Int)) = false) : ∀ (c x y : Nat), mgC S f b c ((x : Int), (y : Int)) = if x = f ∧ y = b then false else if x = b ∧ y < c then false else if x = f ∧ y < c ∧ S ((b : Int), (y : Int)) = true ∧ y ≠ f then true else S ((x : Int), (y : Int))
  | 0, x, y => by
    rw [mgC, updP_at]
    by_cases h : x = f ∧ y = b
    · rw [if_pos h, if_pos h]
    · rw [if_neg h, if_neg h, if_neg (by omega), if_neg (by omega)]
  | c + 1, x, y => by
    have ih := mgC_at hfb hbb c
    have hbc : mgC S f b c ((b : Int), (c : Int)) = S ((b : Int), (c : Int)) := by
      rw [ih, if_neg (by omega), if_neg (by omega), if_neg (by omega)]
    rw [mgC, hbc]
    have e1 := updP_at (mgC S f b c) b c x y false
    have e2 := updP_at (updP (mgC S f b c) ((b : Int), (c : Int)) false) f c x y true
    rw [ih] at e1
    rw [e1] at e2
    have e3 := ih x y
    clear ih
    by_cases hy : y = c
    · subst hy
      grind
    · grind
/-- the state: edges, what is alive, how many -/
structure RS where
  S : ES
  R : Nat → Bool
  al : Int
def clrS (R : Nat → Bool) (b : Nat) : Nat → Bool := fun x => if x = b then false else R x
def rstp (n : Nat) (s : RS) (b : Nat) : RS :=
  if (frm s.S b n).2 = 1 ∧ s.R b = true then ⟨mgC s.S (frm s.S b n).1.toNat b n, clrS s.R b, s.al - 1⟩ else s
/-- a round: the places below b are done -/
def rrnd (n : Nat) (s : RS) : Nat → RS
  | 0 => s
  | b + 1 => if b = 0 then s else rstp n (rrnd n s b) b
def rlls (n : Nat) (s : RS) : Nat → RS
  | 0 => s
  | k + 1 => rrnd n (rlls n s k) n
abbrev EE (s : RS) (a c : Nat) : Prop := s.S ((a : Int), (c : Int)) = true
abbrev AA (s : RS) (x : Nat) : Prop := s.R x = true
def cntR (n : Nat) (R : Nat → Bool) : Nat := ((List.range n).filter R).length
structure RInv (n : Nat) (Q : Prop) (s : RS) : Prop where
  cg : CG n (EE s) (AA s)
  rk : Rk (EE s) ↔ Q
  al : s.al = cntR n s.R
theorem cnt_clr {n : Nat} {R : Nat → Bool} {b : Nat} (hb : b < n) (hR : R b = true) : cntR n R = cntR n (clrS R b) + 1 := by
  unfold cntR
  have hk := cnt_one R (clrS R b) (List.range n) b (by simpa using hb) (by simpa using hR) (by simp [clrS]) (fun j hj hne => by simp [clrS, hne])
  exact hk
theorem rk_congr {E E' : Nat → Nat → Prop} (h : ∀ a c, E a c ↔ E' a c) : Rk E ↔ Rk E' := by
  have : E = E' := by funext a c; exact propext (h a c)
  rw [this]
theorem rstp_inv {n : Nat} {Q : Prop} {s : RS} (h : RInv n Q s) {b : Nat} (hb0 : b ≠ 0) (hb : b < n) : RInv n Q (rstp n s b) ∧ (rstp n s b = s ∨ (rstp n s b).al = s.al - 1) := by
  unfold rstp
  by_cases hc' : ¬ ((frm s.S b n).2 = 1 ∧ s.R b = true)
  · rw [if_neg hc']
    exact ⟨h, .inl rfl⟩
  · have hc := Classical.not_not.1 hc'
    clear hc'
    rw [if_pos hc]
    obtain ⟨f, h1, h2, h3, h4⟩ := frm_one s.S b n hc.1
    rw [h1, Int.toNat_natCast]
    have hu : ∀ a, EE s a b → a = f := fun a ha => h4 a (h.cg.lt a (h.cg.e a b ha).1) ha
    have hfb : f ≠ b := (h.cg.e f b h3).2.2
    have hbb : s.S ((b : Int), (b : Int)) = false := by
      cases hh : s.S ((b : Int), (b : Int)) with
      | false => rfl
      | true => exact ((h.cg.e b b hh).2.2 rfl).elim
    have he : ∀ a c, EE ⟨mgC s.S f b n, clrS s.R b, s.al - 1⟩ a c ↔ mrg (EE s) f b a c := fun a c => by
      show mgC s.S f b n ((a : Int), (c : Int)) = true ↔ _
      rw [mgC_at hfb hbb]
      unfold mrg
      constructor
      · intro k
        by_cases k1 : a = f ∧ c = b
        · rw [if_pos k1] at k; cases k
        rw [if_neg k1] at k
        by_cases k2 : a = b ∧ c < n
        · rw [if_pos k2] at k; cases k
        rw [if_neg k2] at k
        by_cases k3 : a = f ∧ c < n ∧ s.S ((b : Int), (c : Int)) = true ∧ c ≠ f
        · refine ⟨by omega, fun e => ?_, .inr ⟨k3.1, k3.2.2⟩⟩
          exact k1 ⟨k3.1, e⟩
        · rw [if_neg k3] at k
          have hl := h.cg.e a c k
          refine ⟨fun e => k2 ⟨e, h.cg.lt c hl.2.1⟩, fun e => ?_, .inl k⟩
          subst e
          exact k1 ⟨hu a k, rfl⟩
      · rintro ⟨k1, k2, k3⟩
        rw [if_neg (by omega), if_neg (by omega)]
        rcases k3 with k3 | ⟨k3, k4, k5⟩
        · split
          · rfl
          · exact k3
        · rw [if_pos ⟨k3, h.cg.lt c (h.cg.e b c k4).2.1, k4, k5⟩]
    have hA : ∀ x, AA ⟨mgC s.S f b n, clrS s.R b, s.al - 1⟩ x ↔ (AA s x ∧ x ≠ b) := fun x => by
      show clrS s.R b x = true ↔ _
      unfold clrS
      by_cases e : x = b
      · rw [if_pos e]; simp [e]
      · rw [if_neg e]; simp [e, AA]
    have hE1 : EE ⟨mgC s.S f b n, clrS s.R b, s.al - 1⟩ = mrg (EE s) f b := by funext a c; exact propext (he a c)
    have hA1 : AA ⟨mgC s.S f b n, clrS s.R b, s.al - 1⟩ = fun x => AA s x ∧ x ≠ b := by funext x; exact propext (hA x)
    refine ⟨⟨?_, ?_, ?_⟩, .inr rfl⟩
    · rw [hE1, hA1]
      exact mrg_cg h.cg hb0 h3 hu
    · rw [hE1, mrg_rk h.cg hb0 h3 hu]
      exact h.rk
    · show s.al - 1 = ((cntR n (clrS s.R b) : Nat) : Int)
      rw [h.al, cnt_clr hb hc.2]
      omega
theorem rrnd_inv {n : Nat} {Q : Prop} {s : RS} (h : RInv n Q s) : ∀ b, b ≤ n → RInv n Q (rrnd n s b) ∧ (rrnd n s b = s ∨ (rrnd n s b).al < s.al)
  | 0, _ => ⟨h, .inl rfl⟩
  | b + 1, hb => by
    rw [rrnd]
    by_cases e : b = 0
    · rw [if_pos e]; exact ⟨h, .inl rfl⟩
    · rw [if_neg e]
      obtain ⟨h1, h2⟩ := rrnd_inv h b (by omega)
      obtain ⟨h3, h4⟩ := rstp_inv h1 e (show b < n by omega)
      refine ⟨h3, ?_⟩
      rcases h4 with h4 | h4
      · rw [h4]; exact h2
      · right
        rcases h2 with h2 | h2
        · rw [h4, h2]; omega
        · omega
theorem rrnd_mono {n : Nat} {Q : Prop} {s : RS} (h : RInv n Q s) {b : Nat} : ∀ c, b ≤ c → c ≤ n → (rrnd n s c).al ≤ (rrnd n s b).al
  | 0, hb, _ => by
    obtain rfl : b = 0 := by omega
    exact Int.le_refl _
  | c + 1, hb, hc => by
    by_cases e : b = c + 1
    · subst e; exact Int.le_refl _
    · have ih := rrnd_mono h (b := b) c (by omega) (by omega)
      refine Int.le_trans ?_ ih
      rw [rrnd]
      by_cases e0 : c = 0
      · subst e0; rw [if_pos rfl]; exact Int.le_refl _
      · rw [if_neg e0]
        obtain ⟨h1, _⟩ := rrnd_inv h c (by omega)
        rcases (rstp_inv h1 e0 (show c < n by omega)).2 with h4 | h4
        · rw [h4]; exact Int.le_refl _
        · omega
theorem cnt_two {n : Nat} {R : Nat → Bool} (h0 : R 0 = true) (hn : 0 < n) (h : 2 ≤ cntR n R) : ∃ x, x ≠ 0 ∧ x < n ∧ R x = true := by
  apply Classical.byContradiction
  intro hno
  have h1 := cnt_clr hn h0
  have h2 : cntR n (clrS R 0) = 0 := by
    unfold cntR
    rw [List.length_eq_zero_iff, List.filter_eq_nil_iff]
    intro x hx hc
    unfold clrS at hc
    by_cases e : x = 0
    · rw [if_pos e] at hc; cases hc
    · rw [if_neg e] at hc
      exact hno ⟨x, e, List.mem_range.1 hx, hc⟩
  omega
/-- a round merges something while there are ranks and another place beside 0 -/
theorem rrnd_less {n : Nat} {Q : Prop} {s : RS} (h : RInv n Q s) (hq : Q) (h2 : 2 ≤ s.al) : (rrnd n s n).al < s.al := by
  have hn0 : 0 < n := h.cg.lt 0 h.cg.z
  obtain ⟨x, hx0, _, hxA⟩ := cnt_two h.cg.z hn0 (by have := h.al; omega)
  obtain ⟨b, f, hb0, hbA, hf, hu⟩ := single h.cg (h.rk.2 hq) ⟨x, hx0, hxA⟩
  have hb : b < n := h.cg.lt b hbA
  have hm := rrnd_mono h (b := b + 1) n (by omega) (Nat.le_refl _)
  obtain ⟨_, h3⟩ := rrnd_inv h b (by omega)
  rcases h3 with h3 | h3
  · have h4 : (rrnd n s (b + 1)).al = s.al - 1 := by
      rw [rrnd, if_neg hb0, h3]
      unfold rstp
      have hfl : f < n := h.cg.lt f (h.cg.e f b hf).1
      rw [frm_of hf (fun a ha => hu a ha), if_pos hfl, if_pos ⟨rfl, hbA⟩]
    omega
  · have := rrnd_mono h (b := b) n (by omega) (Nat.le_refl _)
    omega
theorem rlls_inv {n : Nat} {Q : Prop} {s : RS} (h : RInv n Q s) : ∀ k, RInv n Q (rlls n s k)
  | 0 => h
  | k + 1 => (rrnd_inv (rlls_inv h k) n (Nat.le_refl _)).1
theorem rlls_less {n : Nat} {Q : Prop} {s : RS} (h : RInv n Q s) (hq : Q) : ∀ k, (rlls n s k).al ≤ 1 ∨ (rlls n s k).al + k ≤ s.al
  | 0 => .inr (by simp [rlls])
  | k + 1 => by
    have hi := rlls_inv h k
    rw [rlls]
    have hm : (rrnd n (rlls n s k) n).al ≤ (rlls n s k).al := by
      rcases (rrnd_inv hi n (Nat.le_refl _)).2 with h1 | h1
      · rw [h1]; exact Int.le_refl _
      · omega
    rcases rlls_less h hq k with h1 | h1
    · left; omega
    · by_cases h2 : 2 ≤ (rlls n s k).al
      · have := rrnd_less hi hq h2
        right
        omega
      · left; omega
theorem cntR_le (n : Nat) (R : Nat → Bool) : cntR n R ≤ n := by
  unfold cntR
  have := List.length_filter_le R (List.range n)
  rwa [List.length_range] at this
theorem rlls_end {n : Nat} {Q : Prop} {s : RS} (h : RInv n Q s) : (rlls n s n).al ≤ 1 ↔ Q := by
  have hi := rlls_inv h n
  constructor
  · intro hle
    refine hi.rk.1 ⟨fun _ => 0, fun a c hac _ => ?_⟩
    exfalso
    obtain ⟨h1, h2, h3⟩ := hi.cg.e a c hac
    have hz : ∀ x, AA (rlls n s n) x → x = 0 := fun x hx => by
      apply Classical.byContradiction
      intro e
      have k1 := cnt_clr (hi.cg.lt x hx) hx
      have k2 : clrS (rlls n s n).R x 0 = true := by
        unfold clrS
        rw [if_neg fun e2 => e e2.symm]
        exact hi.cg.z
      have k3 := cnt_clr (n := n) (hi.cg.lt 0 hi.cg.z) k2
      have k4 := hi.al
      omega
    exact h3 ((hz a h1).trans (hz c h2).symm)
  · intro hq
    rcases rlls_less h hq n with h1 | h1
    · exact h1
    · have h2 := cntR_le n s.R
      have h3 := h.al
      omega
/-- the edges that are put into the set first -/
def S0 (N : List (List Int)) (E : List (Int × Int)) : ES := fun p => E.any fun e => decide (e = p) && (rch N (-1) e.1.toNat && decide (e.1 ≠ e.2))
theorem S0_snoc (N : List (List Int)) (E : List (Int × Int)) (a b : Int) : S0 N (E ++ [(a, b)]) = if (rch N (-1) a.toNat && decide (a ≠ b)) = true then updP (S0 N E) (a, b) true else S0 N E := by
  have e : ∀ p, S0 N (E ++ [(a, b)]) p = (S0 N E p || (decide ((a, b) = p) && (rch N (-1) a.toNat && decide (a ≠ b)))) := fun p => by
    unfold S0
    rw [List.any_append]
    simp
  by_cases h : (rch N (-1) a.toNat && decide (a ≠ b)) = true
  · rw [if_pos h]
    funext p
    rw [e, h, Bool.and_true]
    unfold updP
    by_cases hp : p = (a, b)
    · rw [if_pos hp, decide_eq_true hp.symm, Bool.or_true]
    · rw [if_neg hp, decide_eq_false fun q => hp q.symm, Bool.or_false]
  · rw [if_neg h]
    funext p
    rw [e, Bool.eq_false_iff.2 h, Bool.and_false, Bool.or_false]
def rs0 (N : List (List Int)) : RS := ⟨S0 N (edg 0 N), rch N (-1), cntR N.length (rch N (-1))⟩
theorem rs0_inv {N : List (List Int)} (hN : NOk N) (h0 : 0 < N.length) : RInv N.length (Good N) (rs0 N) := by
  have hre : ∀ x, rch N (-1) x = true ↔ RE N x := fun x => by rw [rch_iff hN h0, re_iff hN h0]
  have hE : ∀ a c, EE (rs0 N) a c ↔ RE N a ∧ ED N a c ∧ a ≠ c := fun a c => by
    show (edg 0 N).any _ = true ↔ _
    rw [List.any_eq_true]
    constructor
    · rintro ⟨e, he, h⟩
      simp only [Bool.and_eq_true, decide_eq_true_eq] at h
      obtain ⟨rfl, h2, h3⟩ := h
      simp only [Int.toNat_natCast] at h2
      obtain ⟨x, y, q, _, _, hxy⟩ := edg_rng hN he
      simp only [Prod.mk.injEq] at q
      obtain ⟨q1, q2⟩ := q
      obtain rfl : a = x := by omega
      obtain rfl : c = y := by omega
      exact ⟨(hre a).1 h2, hxy, fun q => h3 (by rw [q])⟩
    · rintro ⟨h1, h2, h3⟩
      refine ⟨((a : Int), (c : Int)), (edg_mem N 0 _).2 ⟨a, RE.lt hN h0 h1, by simp, h2⟩, ?_⟩
      simp only [Bool.and_eq_true, decide_eq_true_eq, Int.toNat_natCast]
      exact ⟨trivial, (hre a).2 h1, by omega⟩
  have hA : ∀ x, AA (rs0 N) x ↔ RE N x := hre
  have hr : ∀ (d : Int) (x : Nat), Rc (ED N) d x → (∀ y, Rc (ED N) d y → RE N y) → Rc (EE (rs0 N)) d x := fun d x hx hall => by
    induction hx with
    | base k => exact .base k
    | @step p b k1 k2 k3 ih =>
      by_cases e : p = b
      · subst e; exact ih
      · exact .step ih ((hE p b).2 ⟨hall p k1, k2, e⟩) k3
  have hr' : ∀ (d : Int) (x : Nat), Rc (EE (rs0 N)) d x → Rc (ED N) d x := fun d x hx => by
    induction hx with
    | base k => exact .base k
    | @step p b k1 k2 k3 ih => exact .step ih ((hE p b).1 k2).2.1 k3
  have hall : ∀ (d : Int) y, Rc (ED N) d y → RE N y := fun d y hy => by
    rw [re_iff hN h0]
    induction hy with
    | base k => exact .base (by omega)
    | step _ k2 _ ih => exact ih.step k2 (by omega)
  obtain ⟨F, hF⟩ := tree_ex hN h0
  refine ⟨⟨(hA 0).2 ((re_iff hN h0 0).2 (.base (by omega))), fun x hx => RE.lt hN h0 ((hA x).1 hx), fun a c h => ?_, fun x hx => hr _ _ ((re_iff hN h0 x).1 ((hA x).1 hx)) (hall _)⟩, ?_, rfl⟩
  · obtain ⟨h1, h2, h3⟩ := (hE a c).1 h
    exact ⟨(hA a).2 h1, (hA c).2 ((re_iff hN h0 c).2 (((re_iff hN h0 a).1 h1).step h2 (by omega))), h3⟩
  · rw [good_rnk hN h0 hF]
    unfold Rk Rnk
    constructor
    · rintro ⟨r, h⟩
      refine ⟨r, fun p b hp hpb hnA => ?_⟩
      have hne : p ≠ b := fun e => by
        subst e
        exact hnA (.self p)
      refine h p b ((hE p b).2 ⟨hp, hpb, hne⟩) ?_
      refine hr _ _ ?_ (hall _)
      exact Classical.byContradiction fun hd => hnA ((hF.dom p b hp).2 hd)
    · rintro ⟨r, h⟩
      refine ⟨r, fun a c hac hrc => ?_⟩
      obtain ⟨h1, h2, h3⟩ := (hE a c).1 hac
      exact h a c h1 h2 fun hA' => (hF.dom a c h1).1 hA' (hr' _ _ hrc)
end Go.Proofs.Ytlhlbiaibgmapaa
