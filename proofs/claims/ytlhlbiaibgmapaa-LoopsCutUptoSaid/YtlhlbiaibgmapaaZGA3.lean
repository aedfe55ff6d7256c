/-
  dominator.Order: the search.
-/
import Derived.Test.YtlhlbiaibgmapaaZGA2
import Derived.Test.YtlhlbiaibgmapaaZGP
set_option linter.unusedSimpArgs false
set_option linter.unusedVariables false
namespace Go.Proofs.Ytlhlbiaibgmapaa
open Go.W Go.RowKit
/-- a block of truth values -/
def BB (w : World) (b n : Nat) (S : Nat → Bool) : Prop := ∃ cs : Array Value, w.heap[b]? = some (.cells cs 4 (0, 0)) ∧ cs.size = n ∧ ∀ i, i < n → cs[i]? = some (.bool (S i))
theorem BB.heap {w w' : World} {b n : Nat} {S : Nat → Bool} (h : BB w b n S) (e : w'.heap[b]? = w.heap[b]?) : BB w' b n S := by
  obtain ⟨cs, h1, h2⟩ := h
  exact ⟨cs, e.trans h1, h2⟩
theorem BB.ext {w w' : World} {b n : Nat} {S : Nat → Bool} (h : BB w b n S) (hE : Ext w w') : BB w' b n S := by
  obtain ⟨cs, h1, h2⟩ := h
  exact ⟨cs, hE.obj h1, h2⟩
theorem BB.lt {w : World} {b n : Nat} {S : Nat → Bool} (h : BB w b n S) : b < w.heap.size := by
  obtain ⟨cs, h1, h2⟩ := h
  exact get_lt h1
theorem BB.set {w : World} {b n : Nat} {S : Nat → Bool} {cs : Array Value} (h1 : b < w.heap.size) (h2 : cs.size = n) (h3 : ∀ i, i < n → cs[i]? = some (.bool (S i))) (i : Nat) :
    BB (w.putb b (.cells (cs.setIfInBounds i (.bool true)) 4 (0, 0))) b n (setS S i) := by
  refine ⟨_, by rw [get_putb _ _ _ _ h1, if_pos rfl], ?_, ?_⟩
  · simp [h2]
  · intro j hj
    rw [Array.getElem?_setIfInBounds]
    unfold setS
    by_cases e : j = i
    · subst e; simp [h2, hj]
    · rw [if_neg (fun q => e q.symm), h3 j hj, if_neg e]
abbrev vclo (z m : Nat) : Value := .func (.func 41) #[] #[.pointer (some ⟨m + 2, 0, none⟩), .pointer (some ⟨z, 0, none⟩), .pointer (some ⟨m + 3, 0, none⟩), .pointer (some ⟨m, 0, none⟩)]
/-- the search's memory -/
structure Vs (w0 : World) (z m : Nat) (bs pv : Value) (n : Nat) (w : World) (S : Nat → Bool) (out : List Int) : Prop where
  ext : Ext w0 w
  g : w.heap[z]? = some (.cells #[bs, pv] 25 (0, 0))
  l : ∃ lv, w.heap[m]? = some (.cells #[lv] 36 (0, 0)) ∧ IntO (m + 4) w lv out
  s : w.heap[m + 2]? = some (.cells #[.slice (some ⟨m + 1, 0, none⟩) n n] 49 (0, 0))
  f : w.heap[m + 3]? = some (.cells #[vclo z m] 76 (0, 0))
  q : BB w (m + 1) n S
set_option maxRecDepth 10000 in
theorem visit_spec {N : List (List Int)} (hN : NOk N) {B : List Blk} (hBN : nx B = N) {w0 : World} {z m : Nat} (hz : w0.heap.size ≤ z) (hzm : z < m) {ba : Option Addr} {bc : Nat} {pv : Value} (hB : BlksAt w0 (.slice ba B.length bc) B) (hn : B.length ≤ 2000000) (hd2 : ∀ l ∈ N, l.length ≤ 2) :
    ∀ (k : Nat) (S : Nat → Bool) (out : List Int) (b : Nat), b < N.length → S b = false → uns N.length S ≤ k → out.length + uns N.length S ≤ N.length → ∀ w, Vs w0 z m (.slice ba B.length bc) pv N.length w S out →
      VRet Try.prog 41 #[.int .i64 b, .pointer (some ⟨m + 2, 0, none⟩), .pointer (some ⟨z, 0, none⟩), .pointer (some ⟨m + 3, 0, none⟩), .pointer (some ⟨m, 0, none⟩)] w fun _ w' => Vs w0 z m (.slice ba B.length bc) pv N.length w' (vis N k S out b).1 (vis N k S out b).2 := by
  have hNl : N.length = B.length := by rw [← hBN]; unfold nx; rw [List.length_map]
  intro k
  induction k with
  | zero => intro S out b hb hS hu; have := uns_pos hb hS; omega
  | succ k ih =>
    intro S out b hb hS hu hol w hV
    have hu1 := uns_set hb hS
    obtain ⟨hext, hg, ⟨lv, hl, hlo⟩, hs, hf, cs, hq, hqs, hqv⟩ := hV
    have hql := get_lt hq
    have hgl := get_lt hg
    have hsl := get_lt hs
    have hfl := get_lt hf
    have hll := get_lt hl
    obtain ⟨bb, bo, bcs, be, bfz, u, rfl, hbb, hbsz, hbcs, hbu, hu0⟩ := hB.get (show b < B.length by omega)
    have hsc : B[b].2.2 = sc N b := by
      have hbl : b < B.length := by omega
      have e : sc (nx B) b = B[b].2.2 := by
        unfold sc nx
        rw [List.getD_eq_getElem?_getD]
        simp [hbl]
      rw [hBN] at e
      exact e.symm
    rw [hsc] at hu0
    obtain ⟨ua, uc, rfl⟩ := hu0.form
    have hbl0 := get_lt hbb
    have hscl : (sc N b).length ≤ 2 := by
      unfold sc
      rw [List.getD_eq_getElem?_getD, List.getElem?_eq_getElem hb]
      exact hd2 _ (List.getElem_mem hb)
    have e2 : ∀ x, x < w0.heap.size → (w.putb (m + 1) (.cells (cs.setIfInBounds b (.bool true)) 4 (0, 0))).heap[x]? = w0.heap[x]? := fun x hx => by rw [putb_get_ne (by omega), hext.get x hx]
    have n1 : ¬ z = m + 1 := by omega
    have n2 : ¬ bb = m + 1 := by omega
    have hbw := hext.obj hbb
    have hV1 : Vs w0 z m (.slice (some ⟨bb, bo, none⟩) B.length bc) pv N.length (w.putb (m + 1) (.cells (cs.setIfInBounds b (.bool true)) 4 (0, 0))) (setS S b) out := by
      refine ⟨hext.putb (by omega) _, by rw [putb_get_ne (by omega)]; exact hg, ⟨lv, by rw [putb_get_ne (by omega)]; exact hl, own_at hlo fun x hx => ?_⟩, by rw [putb_get_ne (by omega)]; exact hs, by rw [putb_get_ne (by omega)]; exact hf, BB.set hql hqs hqv b⟩
      have := (hlo.lt x hx).1
      rw [putb_get_ne (by omega)]
    refine VRet_start T.mo ok41 rfl fun Ψ hΨ => ?_; simp only [vc41, rs41]
    simp only [VS, VD, SV, SL, T, Nat.reduceEqDiff, Nat.reduceAdd, Nat.reduceSub, Nat.reduceMul, Nat.reduceLeDiff, Nat.reduceLT, reduceIte, hs, hq, hg, Int.toNat_natCast, n1, n2, hbw, hbu]
    refine ⟨by omega, by omega, by omega, ?_⟩
    generalize w.putb (m + 1) (.cells (cs.setIfInBounds b (.bool true)) 4 (0, 0)) = w1 at *
    have hspec := fun l hl => (vis_spec hN k).2 l (setS S b) out hl (by omega)
    refine loop_cB (fun g w' => g 0 = .int .i64 b ∧ g 4 = .pointer (some ⟨m, 0, none⟩) ∧ Vs w0 z m (.slice (some ⟨bb, bo, none⟩) B.length bc) pv N.length w' (visL N k (setS S b, out) (sc N b)).1 (visL N k (setS S b, out) (sc N b)).2) ?_ ?_
    · refine LoopP_intro (α := Nat) (fun j g w' => g 0 = .int .i64 b ∧ g 1 = .pointer (some ⟨m + 2, 0, none⟩) ∧ g 2 = .pointer (some ⟨z, 0, none⟩) ∧ g 3 = .pointer (some ⟨m + 3, 0, none⟩) ∧ g 4 = .pointer (some ⟨m, 0, none⟩) ∧ g 16 = .slice ua (sc N b).length uc ∧ g 17 = .int .i64 (sc N b).length ∧ g 18 = .int .i64 j ∧ j ≤ (sc N b).length ∧ Vs w0 z m (.slice (some ⟨bb, bo, none⟩) B.length bc) pv N.length w' (visL N k (setS S b, out) ((sc N b).take j)).1 (visL N k (setS S b, out) ((sc N b).take j)).2) (fun j => (sc N b).length - j) 0 ?_ ?_
      · simp only [VS, VD, SV, SL, T, Nat.reduceEqDiff, Nat.reduceAdd, Nat.reduceSub, Nat.reduceMul, Nat.reduceLeDiff, Nat.reduceLT, reduceIte]
        exact ⟨rfl, Nat.zero_le _, hV1⟩
      · rintro j g w' ⟨g0, g1, g2, g3, g4, g16, g17, g18, hj, hV'⟩
        simp only [VS, VD, SV, SL, T, Nat.reduceEqDiff, Nat.reduceAdd, Nat.reduceSub, Nat.reduceMul, Nat.reduceLeDiff, Nat.reduceLT, reduceIte, g17, g18]
        by_cases hlt : (j : Int) < (sc N b).length
        · rw [decide_eq_true hlt]
          have hj' : j < (sc N b).length := by omega
          obtain ⟨bu, ou, cu, eu, fu, rfl, _, hbu', hcu⟩ := (hu0.ext hV'.ext).get (i := j) (x := (sc N b)[j]) (by simp [hj'])
          have htl : (sc N b).take (j + 1) = (sc N b).take j ++ [(sc N b)[j]] := List.take_succ_eq_append_getElem hj'
          obtain ⟨hx0, hx1⟩ := hN.sc (List.getElem_mem hj')
          obtain ⟨seg, p1, p2, _, _⟩ := hspec ((sc N b).take j) fun m hm => hN.sc (List.mem_of_mem_take hm)
          have hsl2 := p2.len
          have hsn := visL_snoc N k (setS S b, out) ((sc N b).take j) (sc N b)[j]
          rw [← htl] at hsn
          generalize hxx : (sc N b)[j] = x at *
          obtain ⟨x', rfl⟩ := Int.eq_ofNat_of_zero_le hx0
          simp only [Int.toNat_natCast] at hx1 hsn
          have hs' := hV'.s
          obtain ⟨cs', hq', hqs', hqv'⟩ := hV'.q
          have hcx := hqv' x' hx1
          generalize hr : visL N k (setS S b, out) ((sc N b).take j) = r at *
          simp only [VS, VD, SV, SL, T, Nat.reduceEqDiff, Nat.reduceAdd, Nat.reduceSub, Nat.reduceMul, Nat.reduceLeDiff, Nat.reduceLT, reduceIte, g1, g16, g18, hbu', hcu, Int.toNat_natCast, hs', hq', hcx]
          refine ⟨by omega, by omega, ?_⟩
          cases hrx : r.1 x' with
          | true =>
            rw [hrx, if_pos rfl] at hsn
            simp only [VS, VD, SV, SL, T, Nat.reduceEqDiff, Nat.reduceAdd, Nat.reduceSub, Nat.reduceMul, Nat.reduceLeDiff, Nat.reduceLT, reduceIte, Bool.not_true, g0, g1, g2, g3, g4, g16, g17, g18]
            exact ⟨by omega, j + 1, ⟨by simp, by omega, by rw [hsn]; exact hV'⟩, by omega⟩
          | false =>
            rw [hrx, if_neg (by simp)] at hsn
            have hf' := hV'.f
            simp only [VS, VD, SV, SL, T, Nat.reduceEqDiff, Nat.reduceAdd, Nat.reduceSub, Nat.reduceMul, Nat.reduceLeDiff, Nat.reduceLT, reduceIte, Bool.not_false, g3, hf']
            refine oV_clo (xs := [.tmp 28]) (g := 41) (caps := #[.pointer (some ⟨m + 2, 0, none⟩), .pointer (some ⟨z, 0, none⟩), .pointer (some ⟨m + 3, 0, none⟩), .pointer (some ⟨m, 0, none⟩)]) (by simp only [VS, VD, SV, SL, T, Nat.reduceEqDiff, Nat.reduceAdd, Nat.reduceSub, Nat.reduceMul, Nat.reduceLeDiff, Nat.reduceLT, reduceIte]) T.en41 ?_
            simp only [VS, VD, SV, SL, T, Nat.reduceEqDiff, Nat.reduceAdd, Nat.reduceSub, Nat.reduceMul, Nat.reduceLeDiff, Nat.reduceLT, reduceIte]
            refine (ih r.1 r.2 x' hx1 hrx (by omega) (by rw [p1, List.length_append]; omega) w' hV').mono ?_
            rintro _ w2 hV2
            simp only [VS, VD, SV, SL, T, Nat.reduceEqDiff, Nat.reduceAdd, Nat.reduceSub, Nat.reduceMul, Nat.reduceLeDiff, Nat.reduceLT, reduceIte, g0, g1, g2, g3, g4, g16, g17, g18]
            exact ⟨by omega, j + 1, ⟨by simp, by omega, by rw [hsn]; exact hV2⟩, by omega⟩
        · rw [decide_eq_false hlt]
          rw [List.take_of_length_le (by omega)] at hV'
          simp only [VS, VD, SV, SL, T, Nat.reduceEqDiff, Nat.reduceAdd, Nat.reduceSub, Nat.reduceMul, Nat.reduceLeDiff, Nat.reduceLT, reduceIte, g0, g4]
          exact hV'
    · rintro g w2 ⟨g0, g4, hV2⟩
      obtain ⟨seg, p1, p2, _, _⟩ := hspec (sc N b) fun m hm => hN.sc hm
      have hsl2 := p2.len
      obtain ⟨hext2, hg2, ⟨lv2, hl2, hlo2⟩, hs2, hf2, hq2⟩ := hV2
      have hfl2 := get_lt hf2
      obtain ⟨la, lc, rfl⟩ := own_form hlo2
      simp only [VS, VD, SV, SL, T, Nat.reduceEqDiff, Nat.reduceAdd, Nat.reduceSub, Nat.reduceMul, Nat.reduceLeDiff, Nat.reduceLT, reduceIte, g4, hl2, g0]
      refine app_int hlo2 (by rw [p1, List.length_append]; omega) (by omega) b ?_
      intro v' w3 ho3 hg3 hnew
      obtain ⟨va, vcp, rfl⟩ := own_form ho3
      have hne : ∀ x, x < m + 4 → w3.heap[x]? = w2.heap[x]? := fun x hx => hg3.block x (by omega) fun e => by have := (hlo2.lt x e.symm).1; omega
      have hl3 : w3.heap[m]? = some (.cells #[.slice la (visL N k (setS S b, out) (sc N b)).2.length lc] 36 (0, 0)) := by rw [hne m (by omega)]; exact hl2
      simp only [VS, VD, SV, SL, T, Nat.reduceEqDiff, Nat.reduceAdd, Nat.reduceSub, Nat.reduceMul, Nat.reduceLeDiff, Nat.reduceLT, reduceIte, g4, hl3]
      apply hΨ
      rw [vis_succ]
      have hml := get_lt hl3
      refine ⟨(hext2.grownO hlo2 (by omega) hg3).putb (by omega) _, by rw [putb_get_ne (by omega), hne _ (by omega)]; exact hg2, ⟨_, by rw [get_putb _ _ _ _ hml, if_pos rfl], own_at ho3 fun x hx => ?_⟩, by rw [putb_get_ne (by omega), hne _ (by omega)]; exact hs2, by rw [putb_get_ne (by omega), hne _ (by omega)]; exact hf2, hq2.heap (by rw [putb_get_ne (by omega), hne _ (by omega)])⟩
      have := (ho3.lt x hx).1
      rw [putb_get_ne (by omega)]
end Go.Proofs.Ytlhlbiaibgmapaa
