/-
  dominator.Tree: the closure common.
-/
import Derived.Test.YtlhlbiaibgmapaaZGP5
set_option linter.unusedSimpArgs false
set_option linter.unusedVariables false
namespace Go.Proofs.Ytlhlbiaibgmapaa
open Go.W Go.RowKit
/-- a block of integers -/
def IB (w : World) (b n : Nat) (g : Nat → Int) : Prop := ∃ cs : Array Value, w.heap[b]? = some (.cells cs 3 (0, 0)) ∧ cs.size = n ∧ ∀ i, i < n → cs[i]? = some (.int .i64 (g i))
theorem IB.heap {w w' : World} {b n : Nat} {g : Nat → Int} (h : IB w b n g) (e : w'.heap[b]? = w.heap[b]?) : IB w' b n g := by
  obtain ⟨cs, h1, h2⟩ := h
  exact ⟨cs, e.trans h1, h2⟩
theorem IB.ext {w w' : World} {b n : Nat} {g : Nat → Int} (h : IB w b n g) (hE : Ext w w') : IB w' b n g := by
  obtain ⟨cs, h1, h2⟩ := h
  exact ⟨cs, hE.obj h1, h2⟩
theorem IB.lt {w : World} {b n : Nat} {g : Nat → Int} (h : IB w b n g) : b < w.heap.size := by
  obtain ⟨cs, h1, h2⟩ := h
  exact get_lt h1
theorem IB.congr {w : World} {b n : Nat} {g g' : Nat → Int} (h : IB w b n g) (e : ∀ i, i < n → g i = g' i) : IB w b n g' := by
  obtain ⟨cs, h1, h2, h3⟩ := h
  exact ⟨cs, h1, h2, fun i hi => by rw [h3 i hi, e i hi]⟩
theorem IB.set {w : World} {b n : Nat} {g : Nat → Int} {cs : Array Value} (h1 : b < w.heap.size) (h2 : cs.size = n) (h3 : ∀ i, i < n → cs[i]? = some (.int .i64 (g i))) (i : Nat) (x : Int) :
    IB (w.putb b (.cells (cs.setIfInBounds i (.int .i64 x)) 3 (0, 0))) b n (fun j => if j = i then x else g j) := by
  refine ⟨_, by rw [get_putb _ _ _ _ h1, if_pos rfl], ?_, ?_⟩
  · simp [h2]
  · intro j hj
    rw [Array.getElem?_setIfInBounds]
    by_cases e : j = i
    · subst e; simp [h2, hj]
    · rw [if_neg (fun q => e q.symm), h3 j hj]; simp [e]
theorem IB.ints {w : World} {b n c : Nat} {g : Nat → Int} (h : IB w b n g) : IntsAt w (.slice (some ⟨b, 0, none⟩) n c) ((List.range n).map g) := by
  obtain ⟨cs, h1, h2, h3⟩ := h
  refine .inr ⟨b, 0, c, by simp, fun i x hx => ?_⟩
  have hi := (List.getElem?_eq_some_iff.1 hx).1
  simp only [List.length_map, List.length_range] at hi
  rw [cell_mk, h1]
  simp only [List.getElem?_map, List.getElem?_range hi, Option.map_some, Option.some.injEq] at hx
  simp [h3 i hi, hx]
/-- the memory of Tree: the cells of the variables position and idom, and their rows -/
structure Tm (cp ci qp qi n : Nat) (P F : Nat → Int) (w : World) : Prop where
  cp : w.heap[cp]? = some (.cells #[.slice (some ⟨qp, 0, none⟩) n n] 36 (0, 0))
  ci : w.heap[ci]? = some (.cells #[.slice (some ⟨qi, 0, none⟩) n n] 36 (0, 0))
  p : IB w qp n P
  f : IB w qi n F
theorem Tm.ext {cp ci qp qi n : Nat} {P F : Nat → Int} {w w' : World} (h : Tm cp ci qp qi n P F w) (hE : Ext w w') : Tm cp ci qp qi n P F w' := ⟨hE.obj h.cp, hE.obj h.ci, h.p.ext hE, h.f.ext hE⟩
set_option maxRecDepth 10000 in
theorem common_spec {E : Nat → Nat → Prop} {R : Nat → Prop} {pos t : Nat → Nat} (hg : GG E R pos t) {n cp ci qp qi : Nat} {P F : Nat → Int} (hP : ∀ x, R x → P x = pos x) (hn : ∀ x, R x → x < n) (hF : WF R pos F) (a b : Nat) (hRa : R a) (hRb : R b) (hda : df F a) (hdb : df F b) (w : World) (h : Tm cp ci qp qi n P F w) :
    VRet Try.prog 40 #[.int .i64 a, .int .i64 b, .pointer (some ⟨cp, 0, none⟩), .pointer (some ⟨ci, 0, none⟩)] w fun v w' => (∃ c : Nat, v = .int .i64 c ∧ R c ∧ df F c ∧ ∀ x, An F c x ↔ (An F a x ∧ An F b x)) ∧ Ext w w' := by
  refine VRet_start T.mo ok40 rfl fun Ψ hΨ => ?_; simp only [vc40, rs40]
  simp only [VS, VD, SV, SL, T, Nat.reduceEqDiff, Nat.reduceAdd, Nat.reduceSub, Nat.reduceMul, Nat.reduceLeDiff, Nat.reduceLT, reduceIte]
  refine LoopP_intro (α := Nat × Nat) (fun s g w' => g 0 = .int .i64 s.1 ∧ g 1 = .int .i64 s.2 ∧ g 2 = .pointer (some ⟨cp, 0, none⟩) ∧ g 3 = .pointer (some ⟨ci, 0, none⟩) ∧ Ext w w' ∧ R s.1 ∧ R s.2 ∧ df F s.1 ∧ df F s.2 ∧ ∀ x, (An F s.1 x ∧ An F s.2 x) ↔ (An F a x ∧ An F b x)) (fun s => pos s.1 + pos s.2) (a, b) ?_ ?_
  · simp only [VS, VD, SV, SL, T, Nat.reduceEqDiff, Nat.reduceAdd, Nat.reduceSub, Nat.reduceMul, Nat.reduceLeDiff, Nat.reduceLT, reduceIte]
    exact ⟨Ext.refl w, hRa, hRb, hda, hdb, fun _ => trivial⟩
  · rintro ⟨a', b'⟩ g w' ⟨g0, g1, g2, g3, hE, hRa', hRb', hda', hdb', hiff⟩
    simp only [] at g0 g1 hRa' hRb' hda' hdb' hiff
    simp only [VS, VD, SV, SL, T, Nat.reduceEqDiff, Nat.reduceAdd, Nat.reduceSub, Nat.reduceMul, Nat.reduceLeDiff, Nat.reduceLT, reduceIte, g0, g1]
    by_cases hab : (a' : Int) = b'
    · have hab' : a' = b' := by omega
      subst hab'
      have d0 : decide (¬ (a' : Int) = a') = false := by simp
      rw [d0]
      simp only [VS, VD, SV, SL, T, Nat.reduceEqDiff, Nat.reduceAdd, Nat.reduceSub, Nat.reduceMul, Nat.reduceLeDiff, Nat.reduceLT, reduceIte, g0]
      refine hΨ _ _ ⟨⟨a', rfl, hRa', hda', fun x => ?_⟩, hE⟩
      rw [← hiff]
      exact ⟨fun h => ⟨h, h⟩, fun h => h.1⟩
    · rw [decide_eq_true hab]
      have h' := h.ext hE
      have hcp := h'.cp
      have hci := h'.ci
      obtain ⟨pc, hpb, hps, hpv⟩ := h'.p
      obtain ⟨fc, hfb, hfs, hfv⟩ := h'.f
      have hpa := hpv a' (hn a' hRa')
      have hpb' := hpv b' (hn b' hRb')
      have hfa := hfv a' (hn a' hRa')
      have hfb' := hfv b' (hn b' hRb')
      rw [hP a' hRa'] at hpa
      rw [hP b' hRb'] at hpb'
      have hna := hn a' hRa'
      have hnb := hn b' hRb'
      simp only [VS, VD, SV, SL, T, Nat.reduceEqDiff, Nat.reduceAdd, Nat.reduceSub, Nat.reduceMul, Nat.reduceLeDiff, Nat.reduceLT, reduceIte]
      refine DW_intro (fun _ _ _ _ => True) ?_
      simp only [VS, VD, SV, SL, T, Nat.reduceEqDiff, Nat.reduceAdd, Nat.reduceSub, Nat.reduceMul, Nat.reduceLeDiff, Nat.reduceLT, reduceIte, g0, g1, g2, hcp, hpb, hpa, hpb', Int.toNat_natCast]
      refine ⟨by omega, by omega, ?_⟩
      intro w2 hE2 _
      have hci2 := hE2.obj hci
      have hfb2 := hE2.obj hfb
      by_cases hlt : (pos b' : Int) < pos a'
      · simp only [VS, VD, SV, SL, T, Nat.reduceEqDiff, Nat.reduceAdd, Nat.reduceSub, Nat.reduceMul, Nat.reduceLeDiff, Nat.reduceLT, reduceIte, g0, g1, g2, g3]
        rw [decide_eq_true hlt]
        have ha0 : a' ≠ 0 := by rintro rfl; rw [hg.p0] at hlt; omega
        obtain ⟨p, ep, hRp, hlp, hdp⟩ := hF.lt a' (hda'.resolve_left ha0)
        rw [ep] at hfa
        simp only [VS, VD, SV, SL, T, Nat.reduceEqDiff, Nat.reduceAdd, Nat.reduceSub, Nat.reduceMul, Nat.reduceLeDiff, Nat.reduceLT, reduceIte, g0, g1, g2, g3, hci2, hfb2, hfa, Int.toNat_natCast]
        refine ⟨by omega, (p, b'), ⟨rfl, rfl, hE.trans hE2, hRp, hRb', hdp, hdb', fun x => ?_⟩, by simp only []; omega⟩
        rw [← hiff]
        exact (nca_step hF (a := a') (b := b') (by omega) ha0 ep x).symm
      · simp only [VS, VD, SV, SL, T, Nat.reduceEqDiff, Nat.reduceAdd, Nat.reduceSub, Nat.reduceMul, Nat.reduceLeDiff, Nat.reduceLT, reduceIte, g0, g1, g2, g3]
        rw [decide_eq_false hlt]
        have hne : pos a' ≠ pos b' := fun e => hab (by rw [hg.inj a' b' hRa' hRb' e])
        have hb0 : b' ≠ 0 := by rintro rfl; rw [hg.p0] at hlt hne; omega
        obtain ⟨p, ep, hRp, hlp, hdp⟩ := hF.lt b' (hdb'.resolve_left hb0)
        rw [ep] at hfb'
        simp only [VS, VD, SV, SL, T, Nat.reduceEqDiff, Nat.reduceAdd, Nat.reduceSub, Nat.reduceMul, Nat.reduceLeDiff, Nat.reduceLT, reduceIte, g0, g1, g2, g3, hci2, hfb2, hfb', Int.toNat_natCast]
        refine ⟨by omega, (a', p), ⟨rfl, rfl, hE.trans hE2, hRa', hRp, hda', hdp, fun x => ?_⟩, by simp only []; omega⟩
        rw [← hiff]
        have := nca_step hF (a := b') (b := a') (by omega) hb0 ep x
        exact ⟨fun q => (this.2 ⟨q.2, q.1⟩).symm, fun q => (this.1 ⟨q.2, q.1⟩).symm⟩
end Go.Proofs.Ytlhlbiaibgmapaa
