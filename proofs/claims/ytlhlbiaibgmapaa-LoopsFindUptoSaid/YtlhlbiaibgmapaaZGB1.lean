/-
  The reference's leave.
-/
import Derived.Test.YtlhlbiaibgmapaaZGA4
set_option linter.unusedSimpArgs false
set_option linter.unusedVariables false
namespace Go.Proofs.Ytlhlbiaibgmapaa
open Go.W Go.RowKit
def visR (N : List (List Int)) (k : Nat) (S : Nat → Bool) (out : List Int) (b : Nat) : (Nat → Bool) × List Int := if S b = true then (S, out) else vis N k S out b
set_option maxRecDepth 10000 in
theorem leave_spec {N : List (List Int)} (hN : NOk N) (hn : N.length ≤ 2000000) (hd2 : ∀ l ∈ N, l.length ≤ 2) {w0 : World} {q base : Nat} (hq0 : w0.heap.size ≤ q) (hqb : q < base) {na : Option Addr} {nc : Nat} (hNv : IntssAt w0 (.slice na N.length nc) N) :
    ∀ (k : Nat) (S : Nat → Bool) (out : List Int) (b : Nat), b < N.length → uns N.length S ≤ k → out.length + uns N.length S ≤ N.length → ∀ (ov : Value) (w : World), Ext w0 w → base ≤ w.heap.size → BB w q N.length S → IntO base w ov out →
      VRet Try.prog 53 #[.slice na N.length nc, .int .i64 b, .slice (some ⟨q, 0, none⟩) N.length N.length, ov] w fun v w' => Ext w0 w' ∧ base ≤ w'.heap.size ∧ BB w' q N.length (visR N k S out b).1 ∧ IntO base w' v (visR N k S out b).2 := by
  intro k
  induction k with
  | zero =>
    intro S out b hb hu hol ov w hE hbs hBB hO
    have hS : S b = true := by
      cases h : S b with
      | true => rfl
      | false => have := uns_pos hb h; omega
    obtain ⟨cs, hq, hqs, hqv⟩ := hBB
    have hqvb := hqv b hb
    rw [hS] at hqvb
    refine VRet_start T.mo ok53 rfl fun Ψ hΨ => ?_; simp only [vc53, rs53]
    simp only [VS, VD, SV, SL, T, Nat.reduceEqDiff, Nat.reduceAdd, Nat.reduceSub, Nat.reduceMul, Nat.reduceLeDiff, Nat.reduceLT, reduceIte, hq, hqvb, Int.toNat_natCast]
    refine ⟨by omega, hΨ _ _ ⟨hE, hbs, ?_, ?_⟩⟩
    · rw [visR, if_pos hS]; exact ⟨cs, hq, hqs, hqv⟩
    · rw [visR, if_pos hS]; exact hO
  | succ k ih =>
    intro S out b hb hu hol ov w hE hbs hBB hO
    obtain ⟨cs, hq, hqs, hqv⟩ := hBB
    have hqvb := hqv b hb
    have hql := get_lt hq
    cases hS : S b with
    | true =>
      rw [hS] at hqvb
      refine VRet_start T.mo ok53 rfl fun Ψ hΨ => ?_; simp only [vc53, rs53]
      simp only [VS, VD, SV, SL, T, Nat.reduceEqDiff, Nat.reduceAdd, Nat.reduceSub, Nat.reduceMul, Nat.reduceLeDiff, Nat.reduceLT, reduceIte, hq, hqvb, Int.toNat_natCast]
      refine ⟨by omega, hΨ _ _ ⟨hE, hbs, ?_, ?_⟩⟩
      · rw [visR, if_pos hS]; exact ⟨cs, hq, hqs, hqv⟩
      · rw [visR, if_pos hS]; exact hO
    | false =>
      rw [hS] at hqvb
      have hu1 := uns_set hb hS
      have hvr : visR N (k + 1) S out b = vis N (k + 1) S out b := by rw [visR, if_neg (by simp [hS])]
      rw [hvr]
      obtain ⟨nb, no, ncs, ne, nfz, u, rfl, hnb, hncu, hu0⟩ := hNv.get' hb
      have hsc : N[b] = sc N b := by unfold sc; rw [List.getD_eq_getElem?_getD, List.getElem?_eq_getElem hb]; rfl
      rw [hsc] at hu0
      have hscl : (sc N b).length ≤ 2 := by rw [← hsc]; exact hd2 _ (List.getElem_mem hb)
      obtain ⟨ua, uc, rfl⟩ := hu0.form
      have hBB1 := BB.set (w := w) hql hqs hqv b
      have hE1 := hE.putb hq0 (.cells (cs.setIfInBounds b (.bool true)) 4 (0, 0))
      have hO1 : IntO base (w.putb q (.cells (cs.setIfInBounds b (.bool true)) 4 (0, 0))) ov out := own_at hO fun x hx => by
        have := (hO.lt x hx).1
        rw [putb_get_ne (by omega)]
      have hb1 : base ≤ (w.putb q (.cells (cs.setIfInBounds b (.bool true)) 4 (0, 0))).heap.size := by rw [putb_size]; exact hbs
      refine VRet_start T.mo ok53 rfl fun Ψ hΨ => ?_; simp only [vc53, rs53]
      simp only [VS, VD, SV, SL, T, Nat.reduceEqDiff, Nat.reduceAdd, Nat.reduceSub, Nat.reduceMul, Nat.reduceLeDiff, Nat.reduceLT, reduceIte, hq, hqvb, Int.toNat_natCast]
      refine ⟨by omega, by omega, by omega, ?_⟩
      generalize w.putb q (.cells (cs.setIfInBounds b (.bool true)) 4 (0, 0)) = w1 at *
      have hspec := fun l hl => (vis_spec hN k).2 l (setS S b) out hl (by omega)
      refine LoopP_intro (α := Nat) (fun j g w' => g 0 = .slice (some ⟨nb, no, none⟩) N.length nc ∧ g 1 = .int .i64 b ∧ g 2 = .slice (some ⟨q, 0, none⟩) N.length N.length ∧ g 9 = .int .i64 j ∧ j ≤ (sc N b).length ∧ Ext w0 w' ∧ base ≤ w'.heap.size ∧ BB w' q N.length (visL N k (setS S b, out) ((sc N b).take j)).1 ∧ IntO base w' (g 3) (visL N k (setS S b, out) ((sc N b).take j)).2) (fun j => (sc N b).length - j) 0 ?_ ?_
      · simp only [VS, VD, SV, SL, T, Nat.reduceEqDiff, Nat.reduceAdd, Nat.reduceSub, Nat.reduceMul, Nat.reduceLeDiff, Nat.reduceLT, reduceIte]
        exact ⟨rfl, Nat.zero_le _, hE1, hb1, hBB1, hO1⟩
      · rintro j g w' ⟨g0, g1, g2, g9, hj, hE', hb', hBB', hO'⟩
        have hnb' := hE'.obj hnb
        obtain ⟨seg, p1, p2, _, _⟩ := hspec ((sc N b).take j) fun m hm => hN.sc (List.mem_of_mem_take hm)
        have hsl2 := p2.len
        simp only [VS, VD, SV, SL, T, Nat.reduceEqDiff, Nat.reduceAdd, Nat.reduceSub, Nat.reduceMul, Nat.reduceLeDiff, Nat.reduceLT, reduceIte, g0, g1, g9, hnb', hncu, Int.toNat_natCast]
        refine ⟨by omega, ?_⟩
        by_cases hlt : (j : Int) < (sc N b).length
        · rw [decide_eq_true hlt]
          have hj' : j < (sc N b).length := by omega
          obtain ⟨bu, ou, cu, eu, fu, rfl, _, hbu', hcu⟩ := (hu0.ext hE').get (i := j) (x := (sc N b)[j]) (by simp [hj'])
          have htl : (sc N b).take (j + 1) = (sc N b).take j ++ [(sc N b)[j]] := List.take_succ_eq_append_getElem hj'
          obtain ⟨hx0, hx1⟩ := hN.sc (List.getElem_mem hj')
          have hsn := visL_snoc N k (setS S b, out) ((sc N b).take j) (sc N b)[j]
          rw [← htl] at hsn
          generalize (sc N b)[j] = x at *
          obtain ⟨x', rfl⟩ := Int.eq_ofNat_of_zero_le hx0
          simp only [Int.toNat_natCast] at hx1 hsn
          simp only [VS, VD, SV, SL, T, Nat.reduceEqDiff, Nat.reduceAdd, Nat.reduceSub, Nat.reduceMul, Nat.reduceLeDiff, Nat.reduceLT, reduceIte, g0, g1, g2, g9, hnb', hncu, hbu', hcu, Int.toNat_natCast]
          refine ⟨by omega, by omega, ?_⟩
          refine (ih _ _ x' hx1 (by omega) (by rw [p1, List.length_append]; omega) _ w' hE' hb' hBB' hO').mono ?_
          rintro v w2 ⟨hE2, hb2, hBB2, hO2⟩
          have e2 : visR N k (visL N k (setS S b, out) ((sc N b).take j)).1 (visL N k (setS S b, out) ((sc N b).take j)).2 x' = visL N k (setS S b, out) ((sc N b).take (j + 1)) := by rw [hsn, visR]
          rw [e2] at hBB2 hO2
          simp only [VS, VD, SV, SL, T, Nat.reduceEqDiff, Nat.reduceAdd, Nat.reduceSub, Nat.reduceMul, Nat.reduceLeDiff, Nat.reduceLT, reduceIte, g0, g1, g2, g9]
          exact ⟨by omega, j + 1, ⟨by simp, by omega, hE2, hb2, hBB2, hO2⟩, by omega⟩
        · rw [decide_eq_false hlt]
          rw [List.take_of_length_le (by omega)] at hBB' hO' p1 p2
          simp only [VS, VD, SV, SL, T, Nat.reduceEqDiff, Nat.reduceAdd, Nat.reduceSub, Nat.reduceMul, Nat.reduceLeDiff, Nat.reduceLT, reduceIte, g1]
          refine app_int hO' (by rw [p1, List.length_append]; have := p2.len; omega) hb' b ?_
          intro v' w3 ho3 hg3 hnew
          simp only [VS, VD, SV, SL, T, Nat.reduceEqDiff, Nat.reduceAdd, Nat.reduceSub, Nat.reduceMul, Nat.reduceLeDiff, Nat.reduceLT, reduceIte]
          apply hΨ
          rw [vis_succ]
          have hsz := hg3.size
          refine ⟨hE'.grownO hO' (by omega) hg3, by omega, hBB'.heap (hg3.block q hBB'.lt fun e => by have := (hO'.lt q e.symm).1; omega), ho3⟩
end Go.Proofs.Ytlhlbiaibgmapaa
