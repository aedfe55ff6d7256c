/-
  LoopsCut, plain: rounds that remove what has no predecessor left.
-/
import Derived.Test.YtlhlbiaibgmapaaZLPA
import Derived.Test.YtlhlbiaibgmapaaZLE0
set_option linter.unusedSimpArgs false
set_option linter.unusedVariables false
namespace Go.Proofs.Ytlhlbiaibgmapaa
/-- the back edges of the first i loops, and of the first k latches of the next one -/
def bkE (L : List Lp) : List (Int × Int) := L.flatMap fun x => x.2.2.1.map fun a => (a, x.1)
def mem2 (E : List (Int × Int)) : Int × Int → Bool := fun p => E.any fun e => decide (e = p)
theorem mem2_iff {E : List (Int × Int)} {p : Int × Int} : mem2 E p = true ↔ p ∈ E := by
  unfold mem2
  rw [List.any_eq_true]
  constructor
  · rintro ⟨e, h1, h2⟩
    rw [← of_decide_eq_true h2]; exact h1
  · intro h
    exact ⟨p, h, decide_eq_true rfl⟩
theorem mem2_snoc (E : List (Int × Int)) (p : Int × Int) : mem2 (E ++ [p]) = updP (mem2 E) p true := by
  funext q
  unfold updP
  by_cases h : q = p
  · subst h
    rw [if_pos rfl]
    exact mem2_iff.2 (by simp)
  · rw [if_neg h, Bool.eq_iff_iff, mem2_iff, mem2_iff, List.mem_append]
    simp [h]
theorem bkE_snoc (L : List Lp) (x : Lp) : bkE (L ++ [x]) = bkE L ++ x.2.2.1.map fun a => (a, x.1) := by
  unfold bkE
  rw [List.flatMap_append]
  simp
theorem bkE_fnd {N : List (List Int)} (hN : NOk N) {a h : Int} : (a, h) ∈ bkE (fnd N) ↔ a ∈ lat N h := by
  unfold bkE
  rw [List.mem_flatMap]
  constructor
  · rintro ⟨x, hx, h1⟩
    obtain ⟨i, hi, rfl⟩ := List.getElem_of_mem hx
    obtain ⟨k, p, e, _⟩ := fnd_at hi
    rw [e] at h1
    obtain ⟨a', h2, h3⟩ := List.mem_map.1 h1
    simp only [Prod.mk.injEq] at h3
    obtain ⟨rfl, rfl⟩ := h3
    exact h2
  · intro ha
    have hne : lat N h ≠ [] := List.ne_nil_of_mem ha
    have hm := (hsL_mem hN).2 hne
    obtain ⟨i, hi, e⟩ := List.getElem_of_mem hm
    have hi' : i < (fnd N).length := by unfold fnd; rw [lstF_len]; exact hi
    obtain ⟨k, p, e1, _, _, e2, _⟩ := fnd_at hi'
    rw [List.getElem?_eq_getElem hi, e] at e2
    have e3 := Option.some.inj e2
    subst e3
    exact ⟨_, List.getElem_mem hi', by rw [e1]; exact List.mem_map.2 ⟨a, ha, rfl⟩⟩
/-- one of the first k still keeps b -/
def kpt (N : List (List Int)) (S : Int × Int → Bool) (G : Nat → Bool) (b : Nat) (a : Nat) : Bool := !G a && (rch N (-1) a && (decide ((b : Int) ∈ sc N a) && !S ((a : Int), (b : Int))))
def fre (N : List (List Int)) (S : Int × Int → Bool) (G : Nat → Bool) (b k : Nat) : Bool := !((List.range k).any (kpt N S G b))
theorem fre_succ (N : List (List Int)) (S : Int × Int → Bool) (G : Nat → Bool) (b k : Nat) : fre N S G b (k + 1) = (fre N S G b k && !kpt N S G b k) := by
  unfold fre
  rw [List.range_succ, List.any_append]
  simp
def gst (N : List (List Int)) (S : Int × Int → Bool) (G : Nat → Bool) (b : Nat) : Nat → Bool := if fre N S G b N.length = true then setS G b else G
def grn (N : List (List Int)) (S : Int × Int → Bool) (G : Nat → Bool) : Nat → (Nat → Bool)
  | 0 => G
  | b + 1 => gst N S (grn N S G b) b
def gal (N : List (List Int)) (S : Int × Int → Bool) : Nat → (Nat → Bool)
  | 0 => fun _ => false
  | k + 1 => grn N S (gal N S k) N.length
theorem gst_mono {N : List (List Int)} {S : Int × Int → Bool} {G : Nat → Bool} {b x : Nat} (h : G x = true) : gst N S G b x = true := by
  unfold gst
  split
  · unfold setS
    split
    · rfl
    · exact h
  · exact h
theorem grn_mono {N : List (List Int)} {S : Int × Int → Bool} {G : Nat → Bool} {x : Nat} (b : Nat) : ∀ c, b ≤ c → grn N S G b x = true → grn N S G c x = true
  | 0, hb, h => by
    obtain rfl : b = 0 := by omega
    exact h
  | c + 1, hb, h => by
    by_cases e : b = c + 1
    · subst e; exact h
    · exact gst_mono (grn_mono b c (by omega) h)
section
variable {N : List (List Int)} (hN : NOk N) (h0 : 0 < N.length)
include hN h0
theorem gal_po {S : Int × Int → Bool} (hg : Good N) (hS : ∀ a b : Nat, (a : Int) ∈ lat N b → S ((a : Int), (b : Int)) = true) : ∀ (k b : Nat), RE N b → PO N b < k → gal N S k b = true
  | 0, b, _, h => by omega
  | k + 1, b, hb, h => by
    have hbl := RE.lt hN h0 hb
    have h1 : fre N S (grn N S (gal N S k) b) b N.length = true := by
      unfold fre
      rw [Bool.not_eq_true', List.any_eq_false]
      intro a ha hk
      unfold kpt at hk
      simp only [Bool.and_eq_true, Bool.not_eq_true', decide_eq_true_eq] at hk
      obtain ⟨k1, k2, k3, k4⟩ := hk
      have hra : RE N a := (re_iff hN h0 a).2 ((rch_iff hN h0 _ _).1 k2)
      by_cases hle : PO N b ≤ PO N a
      · rw [hS a b (back_lat hN h0 hg hra k3 hle)] at k4
        cases k4
      · have ih := gal_po hg hS k a hra (by omega)
        rw [grn_mono 0 b (by omega) ih] at k1
        cases k1
    rw [gal]
    refine grn_mono (b + 1) _ (by omega) ?_
    rw [grn]
    unfold gst
    rw [if_pos h1]
    unfold setS
    rw [if_pos rfl]
theorem gal_end {S : Int × Int → Bool} (hg : Good N) (hS : ∀ a b : Nat, (a : Int) ∈ lat N b → S ((a : Int), (b : Int)) = true) {b : Nat} (hb : rch N (-1) b = true) : gal N S N.length b = true := by
  have hr : RE N b := (re_iff hN h0 b).2 ((rch_iff hN h0 _ _).1 hb)
  have h1 := PO_lt hr
  have h2 := ord_le hN h0
  exact gal_po hN h0 hg hS _ b hr (by omega)
end
end Go.Proofs.Ytlhlbiaibgmapaa
