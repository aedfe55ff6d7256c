/-
  dominator.Tree: the walk.
-/
import Derived.Test.YtlhlbiaibgmapaaZGA6
set_option linter.unusedSimpArgs false
set_option linter.unusedVariables false
namespace Go.Proofs.Ytlhlbiaibgmapaa
open Go.W Go.RowKit
/-- the places of the blocks, as the array position has them behind i blocks -/
def posA (N : List (List Int)) (i : Nat) : Nat → Int := fun x => if (x : Int) ∈ (ord N).take i then (PO N x : Int) else -1
abbrev tclo (m : Nat) : Value := .func (.func 40) #[] #[.pointer (some ⟨m + 3, 0, none⟩), .pointer (some ⟨m + 1, 0, none⟩)]
set_option maxRecDepth 10000 in
theorem Tree_spec (gv : Value) (B : List Blk) (PV : List (List Int)) (hB : B.length ≤ 2000000) (w : World) (h : GrAt w gv B PV) : VRet Try.prog 18 #[gv] w fun v w' => Ext w w' ∧ (VG B PV = false → v = .slice none 0 0) ∧ (VG B PV = true → ∃ F g cap, v = .slice (some ⟨g, 0, none⟩) B.length cap ∧ w.heap.size ≤ g ∧ IntsAt w' v ((List.range B.length).map F) ∧ TreeOk (nx B) F) := by
  obtain ⟨bs, pv, rfl, hb0, hp0⟩ := h
  obtain ⟨ba, bc, rfl⟩ := hb0.form
  obtain ⟨pa, pc, rfl⟩ := hp0.form'
  have z0 : #[Value.int IntKind.i64 0][0]! = Value.int .i64 0 := rfl
  refine VRet_start T.mo ok18 rfl fun Ψ hΨ => ?_; simp only [vc18, rs18]
  simp only [VS, VD, SV, SL, T, Nat.reduceEqDiff, Nat.reduceAdd, Nat.reduceSub, Nat.reduceMul, Nat.reduceLeDiff, Nat.reduceLT, reduceIte]
  refine (Order_spec _ B PV hB _ ⟨_, _, rfl, hb0.ext ((Ext.refl w).alloc tomb), hp0.ext ((Ext.refl w).alloc tomb)⟩).mono ?_
  rintro v1 w1 ⟨hE1, hbad, hgood⟩
  replace hE1 := ((Ext.refl w).alloc tomb).trans hE1
  cases hV : VG B PV with
  | false =>
    rw [hbad hV]
    simp only [VS, VD, SV, SL, T, Nat.reduceEqDiff, Nat.reduceAdd, Nat.reduceSub, Nat.reduceMul, Nat.reduceLeDiff, Nat.reduceLT, reduceIte, Option.isNone_none]
    exact hΨ _ _ ⟨hE1, fun _ => rfl, fun h => by rw [hV] at h; cases h⟩
  | true =>
    obtain ⟨og, oc, rfl, hoc, hog, hoI⟩ := hgood hV
    obtain ⟨hB0, hN, hN2, _, hPV⟩ := VG_spec hV
    have hNl : (nx B).length = B.length := by unfold nx; rw [List.length_map]
    have hN0 : 0 < (nx B).length := by omega
    obtain ⟨t, hg⟩ := gg_of hN hN0
    have hlvl := lv_len hN hN0
    have hol : (ord (nx B)).length = (lv (nx B)).length := by unfold ord; rw [List.length_reverse]
    have hsz := hE1.size
    generalize hNN : nx B = N at *
    simp only [VS, VD, SV, SL, T, Nat.reduceEqDiff, Nat.reduceAdd, Nat.reduceSub, Nat.reduceMul, Nat.reduceLeDiff, Nat.reduceLT, reduceIte, Option.isNone_some, z0, Int.toNat_natCast]
    refine ⟨by omega, by omega, ?_⟩
    refine loop_cB (fun f' w' => f' 1 = .agg #[.slice ba B.length bc, .slice pa PV.length pc] ∧ f' 3 = .slice (some ⟨og, 0, none⟩) (ord N).length oc ∧ f' 4 = .pointer (some ⟨w1.heap.size + 1, 0, none⟩) ∧ f' 5 = .pointer (some ⟨w1.heap.size + 3, 0, none⟩) ∧ Ext w1 w' ∧ Tm (w1.heap.size + 3) (w1.heap.size + 1) (w1.heap.size + 2) w1.heap.size B.length (fun _ => -1) (fun _ => -1) w') ?_ ?_
    · refine LoopP_intro (α := Nat) (fun i f' w' => f' 1 = .agg #[.slice ba B.length bc, .slice pa PV.length pc] ∧ f' 3 = .slice (some ⟨og, 0, none⟩) (ord N).length oc ∧ f' 4 = .pointer (some ⟨w1.heap.size + 1, 0, none⟩) ∧ f' 5 = .pointer (some ⟨w1.heap.size + 3, 0, none⟩) ∧ f' 29 = .int .i64 B.length ∧ f' 30 = .int .i64 i ∧ i ≤ B.length ∧ Ext w1 w' ∧ Tm (w1.heap.size + 3) (w1.heap.size + 1) (w1.heap.size + 2) w1.heap.size B.length (fun x => if x < i then -1 else 0) (fun x => if x < i then -1 else 0) w') (fun i => B.length - i) 0 ?_ ?_
      · simp only [VS, VD, SV, SL, T, Nat.reduceEqDiff, Nat.reduceAdd, Nat.reduceSub, Nat.reduceMul, Nat.reduceLeDiff, Nat.reduceLT, reduceIte]
        refine ⟨rfl, Nat.zero_le _, ((((((Ext.refl w1).alloc _).alloc _).putb (by omega) _).alloc _).alloc _).putb (by omega) _, by simp only [VS, VD, SV, SL, T, Nat.reduceEqDiff, Nat.reduceAdd, Nat.reduceSub, Nat.reduceMul, Nat.reduceLeDiff, Nat.reduceLT, reduceIte], by simp only [VS, VD, SV, SL, T, Nat.reduceEqDiff, Nat.reduceAdd, Nat.reduceSub, Nat.reduceMul, Nat.reduceLeDiff, Nat.reduceLT, reduceIte], ⟨Array.replicate B.length (.int .i64 0), by simp only [VS, VD, SV, SL, T, Nat.reduceEqDiff, Nat.reduceAdd, Nat.reduceSub, Nat.reduceMul, Nat.reduceLeDiff, Nat.reduceLT, reduceIte], by simp, fun x hx => by simp [hx]⟩, ⟨Array.replicate B.length (.int .i64 0), by simp only [VS, VD, SV, SL, T, Nat.reduceEqDiff, Nat.reduceAdd, Nat.reduceSub, Nat.reduceMul, Nat.reduceLeDiff, Nat.reduceLT, reduceIte], by simp, fun x hx => by simp [hx]⟩⟩
      · rintro i f' w' ⟨f1, f3, f4, f5, f29, f30, hi, hE, hT⟩
        simp only [VS, VD, SV, SL, T, Nat.reduceEqDiff, Nat.reduceAdd, Nat.reduceSub, Nat.reduceMul, Nat.reduceLeDiff, Nat.reduceLT, reduceIte, f29, f30]
        by_cases hlt : (i : Int) < B.length
        · rw [decide_eq_true hlt]
          obtain ⟨hcp, hci, ⟨pcs, hpb, hps, hpv⟩, ⟨fcs, hfb, hfs, hfv⟩⟩ := hT
          have l1 := get_lt hcp
          have l2 := get_lt hpb
          have l3 := get_lt hfb
          have n1 : ¬ w1.heap.size + 3 = w1.heap.size := by omega
          have n2 : ¬ w1.heap.size + 2 = w1.heap.size := by omega
          simp only [VS, VD, SV, SL, T, Nat.reduceEqDiff, Nat.reduceAdd, Nat.reduceSub, Nat.reduceMul, Nat.reduceLeDiff, Nat.reduceLT, reduceIte, f4, f5, f30, hcp, hci, hpb, hfb, Int.toNat_natCast, n1, n2]
          have hfI := IB.set (w := w') l3 hfs hfv i (-1)
          have l2' : w1.heap.size + 2 < (w'.putb w1.heap.size (.cells (fcs.setIfInBounds i (.int .i64 (-1))) 3 (0, 0))).heap.size := by rw [putb_size]; exact l2
          have hpI := IB.set (w := w'.putb w1.heap.size (.cells (fcs.setIfInBounds i (.int .i64 (-1))) 3 (0, 0))) l2' hps hpv i (-1)
          refine ⟨by omega, by omega, by omega, by omega, by omega, i + 1, ⟨f1, f3, f29, by simp, by omega, (hE.putb (by omega) _).putb (by omega) _, ⟨by rw [putb_get_ne (by omega), putb_get_ne (by omega)]; exact hcp, by rw [putb_get_ne (by omega), putb_get_ne (by omega)]; exact hci, hpI.congr fun x _ => ?_, (hfI.heap (by rw [putb_get_ne (by omega)])).congr fun x _ => ?_⟩⟩, by omega⟩
          · by_cases e : x = i
            · subst e; rw [if_pos rfl, if_pos (by omega)]
            · rw [if_neg e]
              by_cases e2 : x < i
              · rw [if_pos e2, if_pos (by omega)]
              · rw [if_neg e2, if_neg (by omega)]
          · by_cases e : x = i
            · subst e; rw [if_pos rfl, if_pos (by omega)]
            · rw [if_neg e]
              by_cases e2 : x < i
              · rw [if_pos e2, if_pos (by omega)]
              · rw [if_neg e2, if_neg (by omega)]
        · rw [decide_eq_false hlt]
          obtain rfl : i = B.length := by omega
          simp only [VS, VD, SV, SL, T, Nat.reduceEqDiff, Nat.reduceAdd, Nat.reduceSub, Nat.reduceMul, Nat.reduceLeDiff, Nat.reduceLT, reduceIte, f1, f3, f4, f5]
          refine ⟨hE, hT.cp, hT.ci, hT.p.congr fun x hx => if_pos hx, hT.f.congr fun x hx => if_pos hx⟩
    · rintro f2 w2 ⟨f21, f23, f24, f25, hE2, hT2⟩
      simp only [VS, VD, SV, SL, T, Nat.reduceEqDiff, Nat.reduceAdd, Nat.reduceSub, Nat.reduceMul, Nat.reduceLeDiff, Nat.reduceLT, reduceIte, f23]
      refine loop_cB (fun f' w' => f' 1 = .agg #[.slice ba B.length bc, .slice pa PV.length pc] ∧ f' 3 = .slice (some ⟨og, 0, none⟩) (ord N).length oc ∧ f' 4 = .pointer (some ⟨w1.heap.size + 1, 0, none⟩) ∧ f' 5 = .pointer (some ⟨w1.heap.size + 3, 0, none⟩) ∧ Ext w1 w' ∧ Tm (w1.heap.size + 3) (w1.heap.size + 1) (w1.heap.size + 2) w1.heap.size B.length (posA N (ord N).length) (fun _ => -1) w') ?_ ?_
      · refine LoopP_intro (α := Nat) (fun i f' w' => f' 1 = .agg #[.slice ba B.length bc, .slice pa PV.length pc] ∧ f' 3 = .slice (some ⟨og, 0, none⟩) (ord N).length oc ∧ f' 4 = .pointer (some ⟨w1.heap.size + 1, 0, none⟩) ∧ f' 5 = .pointer (some ⟨w1.heap.size + 3, 0, none⟩) ∧ f' 40 = .slice (some ⟨og, 0, none⟩) (ord N).length oc ∧ f' 41 = .int .i64 (ord N).length ∧ f' 42 = .int .i64 i ∧ i ≤ (ord N).length ∧ Ext w1 w' ∧ Tm (w1.heap.size + 3) (w1.heap.size + 1) (w1.heap.size + 2) w1.heap.size B.length (posA N i) (fun _ => -1) w') (fun i => (ord N).length - i) 0 ?_ ?_
        · simp only [VS, VD, SV, SL, T, Nat.reduceEqDiff, Nat.reduceAdd, Nat.reduceSub, Nat.reduceMul, Nat.reduceLeDiff, Nat.reduceLT, reduceIte, f21, f24, f25, f23]
          exact ⟨rfl, Nat.zero_le _, hE2, hT2.cp, hT2.ci, hT2.p.congr fun x _ => by simp [posA], hT2.f⟩
        · rintro i f' w' ⟨f1, f3, f4, f5, f40, f41, f42, hi, hE, hT⟩
          simp only [VS, VD, SV, SL, T, Nat.reduceEqDiff, Nat.reduceAdd, Nat.reduceSub, Nat.reduceMul, Nat.reduceLeDiff, Nat.reduceLT, reduceIte, f41, f42]
          by_cases hlt : (i : Int) < (ord N).length
          · rw [decide_eq_true hlt]
            have hi' : i < (ord N).length := by omega
            obtain ⟨b, hbi, hbR, hbp, hbn⟩ := ord_get hN hN0 hi'
            obtain ⟨ob, oo, ocs, oe, ofz, e1, _, hob, hocv⟩ := (hoI.ext hE).get (i := i) (x := (b : Int)) hbi
            simp only [Option.some.injEq, Addr.mk.injEq, and_true] at e1
            obtain ⟨rfl, rfl⟩ := e1
            rw [Nat.zero_add] at hocv
            obtain ⟨hcp, hci, ⟨pcs, hpb, hps, hpv⟩, hfI⟩ := hT
            have l2 := get_lt hpb
            have hpI := IB.set (w := w') l2 hps hpv b (i : Int)
            simp only [VS, VD, SV, SL, T, Nat.reduceEqDiff, Nat.reduceAdd, Nat.reduceSub, Nat.reduceMul, Nat.reduceLeDiff, Nat.reduceLT, reduceIte, f5, f40, f42, hob, hocv, hcp, hpb, Int.toNat_natCast]
            refine ⟨by omega, by omega, by omega, by omega, i + 1, ⟨f1, f3, f4, f41, by simp, by omega, hE.putb (by omega) _, ⟨by rw [putb_get_ne (by omega)]; exact hcp, by rw [putb_get_ne (by omega)]; exact hci, hpI.congr fun x _ => ?_, hfI.heap (by rw [putb_get_ne (by omega)])⟩⟩, by omega⟩
            have htk : (ord N).take (i + 1) = (ord N).take i ++ [(b : Int)] := by rw [List.take_add_one, hbi]; rfl
            unfold posA
            rw [htk]
            by_cases e : x = b
            · subst e; rw [if_pos rfl, if_pos (by simp), hbp]
            · rw [if_neg e]
              have : ¬ (x : Int) = b := by omega
              simp only [List.mem_append, List.mem_singleton, this, or_false]
          · rw [decide_eq_false hlt]
            obtain rfl : i = (ord N).length := by omega
            simp only [VS, VD, SV, SL, T, Nat.reduceEqDiff, Nat.reduceAdd, Nat.reduceSub, Nat.reduceMul, Nat.reduceLeDiff, Nat.reduceLT, reduceIte, f1, f3, f4, f5]
            exact ⟨hE, hT⟩
      · clear hT2 f21 f23 f24 f25 hE2 f2 w2
        rintro f2 w2 ⟨f21, f23, f24, f25, hE2, hT2⟩
        simp only [VS, VD, SV, SL, T, Nat.reduceEqDiff, Nat.reduceAdd, Nat.reduceSub, Nat.reduceMul, Nat.reduceLeDiff, Nat.reduceLT, reduceIte]
        refine oV_mkf (caps := [.tmp 5, .tmp 4]) ?_
        simp only [VS, VD, SV, SL, T, Nat.reduceEqDiff, Nat.reduceAdd, Nat.reduceSub, Nat.reduceMul, Nat.reduceLeDiff, Nat.reduceLT, reduceIte, f24, f25]
        have hPP : ∀ x, RE N x → posA N (ord N).length x = PO N x := fun x hx => by unfold posA; rw [List.take_length, if_pos (mem_ord.2 hx)]
        have hHd0 : Hd N t (fun _ => -1) := .inl rfl
        have hlo : 0 < (ord N).length := by omega
        refine LoopP_intro (α := (Nat → Int) × Bool) (fun s f' w' => f' 1 = .agg #[.slice ba B.length bc, .slice pa PV.length pc] ∧ f' 3 = .slice (some ⟨og, 0, none⟩) (ord N).length oc ∧ f' 4 = .pointer (some ⟨w1.heap.size + 1, 0, none⟩) ∧ f' 9 = tclo w1.heap.size ∧ f' 10 = .bool s.2 ∧ Ext w1 w' ∧ Tm (w1.heap.size + 3) (w1.heap.size + 1) (w1.heap.size + 2) w1.heap.size B.length (posA N (ord N).length) s.1 w' ∧ (s.2 = true → Hd N t s.1) ∧ (s.2 = false → TreeOk N s.1)) (fun s => 2 * mu (ord N).length (PO N) s.1 ((ord N).map Int.toNat) + (if s.2 = true then 1 else 0)) ((fun _ => -1), true) ?_ ?_
        · simp only [VS, VD, SV, SL, T, Nat.reduceEqDiff, Nat.reduceAdd, Nat.reduceSub, Nat.reduceMul, Nat.reduceLeDiff, Nat.reduceLT, reduceIte, f21, f23, f24]
          exact ⟨hE2, hT2, fun _ => hHd0, nofun⟩
        · rintro ⟨o, ch⟩ f' w' ⟨f1, f3, f4, f9, f10, hE, hT, hh1, hh2⟩
          simp only [] at f10 hT hh1 hh2
          simp only [VS, VD, SV, SL, T, Nat.reduceEqDiff, Nat.reduceAdd, Nat.reduceSub, Nat.reduceMul, Nat.reduceLeDiff, Nat.reduceLT, reduceIte, f10]
          cases ch with
          | false =>
            have hci := hT.ci
            simp only [VS, VD, SV, SL, T, Nat.reduceEqDiff, Nat.reduceAdd, Nat.reduceSub, Nat.reduceMul, Nat.reduceLeDiff, Nat.reduceLT, reduceIte, f4, hci]
            refine hΨ _ _ ⟨hE1.trans hE, fun h => (by rw [hV] at h; cases h), fun _ => ⟨o, w1.heap.size, B.length, rfl, by omega, hT.f.ints, hh2 rfl⟩⟩
          | true =>
            have hst := In.start hg (hh1 rfl)
            have hsl := sSlice_lo1 (P := Try.prog) (w := w') (t := 36) T.es36 (b := og) (o := 0) (n := (ord N).length) (c := oc) (by omega)
            simp only [VS, VD, SV, SL, T, Nat.reduceEqDiff, Nat.reduceAdd, Nat.reduceSub, Nat.reduceMul, Nat.reduceLeDiff, Nat.reduceLT, reduceIte, f3, hsl]
            generalize ho1 : (if oc = 1 then 0 else 0 + 1) = o1 at *
            refine LoopP_intro (α := Nat × (Nat → Int) × Bool) (fun s f' w' => f' 1 = .agg #[.slice ba B.length bc, .slice pa PV.length pc] ∧ f' 3 = .slice (some ⟨og, 0, none⟩) (ord N).length oc ∧ f' 4 = .pointer (some ⟨w1.heap.size + 1, 0, none⟩) ∧ f' 9 = tclo w1.heap.size ∧ f' 10 = .bool s.2.2 ∧ f' 55 = .slice (some ⟨og, o1, none⟩) ((ord N).length - 1) (oc - 1) ∧ f' 56 = .int .i64 ((ord N).length - 1 : Nat) ∧ f' 57 = .int .i64 s.1 ∧ s.1 ≤ (ord N).length - 1 ∧ Ext w1 w' ∧ Tm (w1.heap.size + 3) (w1.heap.size + 1) (w1.heap.size + 2) w1.heap.size B.length (posA N (ord N).length) s.2.1 w' ∧ In N t o s.2.1 (s.1 + 1) s.2.2) (fun s => (ord N).length - 1 - s.1) (0, o, false) ?_ ?_
            · simp only [VS, VD, SV, SL, T, Nat.reduceEqDiff, Nat.reduceAdd, Nat.reduceSub, Nat.reduceMul, Nat.reduceLeDiff, Nat.reduceLT, reduceIte, f1, f3, f4, f9]
              exact ⟨rfl, Nat.zero_le _, hE, hT, hst⟩
            · clear hst f1 f3 f4 f9 f10 hE hT hh1 hh2 hsl f'
              rintro ⟨j, F, ch⟩ f' w3 ⟨f1, f3, f4, f9, f10, f55, f56, f57, hj, hE, hT, hIn⟩
              simp only [] at f10 f57 hj hT hIn
              simp only [VS, VD, SV, SL, T, Nat.reduceEqDiff, Nat.reduceAdd, Nat.reduceSub, Nat.reduceMul, Nat.reduceLeDiff, Nat.reduceLT, reduceIte, f56, f57]
              by_cases hlt : (j : Int) < ((ord N).length - 1 : Nat)
              · rw [decide_eq_true hlt]
                have hj' : j + 1 < (ord N).length := by omega
                obtain rfl : o1 = 1 := by rw [← ho1, if_neg (by omega)]
                obtain ⟨b, hbi, hbR, hbp, hbn⟩ := ord_get hN hN0 hj'
                obtain ⟨ob, oo, ocs, oe, ofz, e1, _, hob, hocv⟩ := (hoI.ext hE).get (i := j + 1) (x := (b : Int)) hbi
                simp only [Option.some.injEq, Addr.mk.injEq, and_true] at e1
                obtain ⟨rfl, rfl⟩ := e1
                rw [Nat.zero_add, Nat.add_comm j 1] at hocv
                have hb0 : b ≠ 0 := by rintro rfl; have := hg.p0; omega
                have hbPV : b < PV.length := by rw [hPV, prevOf_len]; exact hbn
                obtain ⟨pb, po, pcs, pe, pfz, u, rfl, hpb, hpc, hu⟩ := hp0.get' hbPV
                have hEw := hE1.trans hE
                replace hpb := hEw.obj hpb
                have hrow : PV[b] = (prevOf N).getD b [] := by
                  subst hPV
                  rw [List.getD_eq_getElem?_getD, List.getElem?_eq_getElem hbPV]; rfl
                have hrl : PV[b].length ≤ 2 * N.length := by
                  have := prevOf_le hN2 PV[b] (by rw [← hPV]; exact List.getElem_mem hbPV)
                  exact this
                have hrm : ∀ x, x ∈ PV[b] ↔ ∃ p : Nat, x = p ∧ p < N.length ∧ ED N p b := fun x => by rw [hrow]; exact prevOf_mem hN hbn x
                generalize PV[b] = row at *
                obtain ⟨ra, rc, rfl⟩ := hu.form
                simp only [VS, VD, SV, SL, T, Nat.reduceEqDiff, Nat.reduceAdd, Nat.reduceSub, Nat.reduceMul, Nat.reduceLeDiff, Nat.reduceLT, reduceIte, f1, f55, f57, hob, hocv, hpb, hpc, Int.toNat_natCast]
                refine ⟨by omega, by omega, ?_⟩
                refine loop_cB (fun g w4 => g 1 = .agg #[.slice ba B.length bc, .slice (some ⟨pb, po, none⟩) PV.length pc] ∧ g 3 = .slice (some ⟨og, 0, none⟩) (ord N).length oc ∧ g 4 = .pointer (some ⟨w1.heap.size + 1, 0, none⟩) ∧ g 9 = tclo w1.heap.size ∧ g 10 = .bool ch ∧ g 12 = .int .i64 b ∧ g 55 = .slice (some ⟨og, 1, none⟩) ((ord N).length - 1) (oc - 1) ∧ g 56 = .int .i64 ((ord N).length - 1 : Nat) ∧ g 57 = .int .i64 j ∧ Ext w3 w4 ∧ ∃ c : Nat, g 13 = .int .i64 c ∧ Nca (ED N) F b c) ?_ ?_
                · refine LoopP_intro (α := Nat) (fun k g w4 => g 1 = .agg #[.slice ba B.length bc, .slice (some ⟨pb, po, none⟩) PV.length pc] ∧ g 3 = .slice (some ⟨og, 0, none⟩) (ord N).length oc ∧ g 4 = .pointer (some ⟨w1.heap.size + 1, 0, none⟩) ∧ g 9 = tclo w1.heap.size ∧ g 10 = .bool ch ∧ g 12 = .int .i64 b ∧ g 55 = .slice (some ⟨og, 1, none⟩) ((ord N).length - 1) (oc - 1) ∧ g 56 = .int .i64 ((ord N).length - 1 : Nat) ∧ g 57 = .int .i64 j ∧ g 65 = .slice ra row.length rc ∧ g 66 = .int .i64 row.length ∧ g 67 = .int .i64 k ∧ k ≤ row.length ∧ Ext w3 w4 ∧
                    ((g 13 = .int .i64 (-1) ∧ ∀ p ∈ row.take k, ¬ df F p.toNat) ∨ ∃ c : Nat, g 13 = .int .i64 c ∧ RE N c ∧ df F c ∧ ∀ x, An F c x ↔ ∀ p ∈ row.take k, df F p.toNat → An F p.toNat x)) (fun k => row.length - k) 0 ?_ ?_
                  · simp only [VS, VD, SV, SL, T, Nat.reduceEqDiff, Nat.reduceAdd, Nat.reduceSub, Nat.reduceMul, Nat.reduceLeDiff, Nat.reduceLT, reduceIte, f1, f3, f4, f9, f10, f55, f56, f57]
                    exact ⟨rfl, Nat.zero_le _, Ext.refl _, .inl fun p hp => by cases hp⟩
                  · rintro k g w4 ⟨g1, g3, g4, g9, g10, g12, g55, g56, g57, g65, g66, g67, hk, hE4, hnx⟩
                    simp only [VS, VD, SV, SL, T, Nat.reduceEqDiff, Nat.reduceAdd, Nat.reduceSub, Nat.reduceMul, Nat.reduceLeDiff, Nat.reduceLT, reduceIte, g66, g67]
                    by_cases hkl : (k : Int) < row.length
                    · rw [decide_eq_true hkl]
                      have hk' : k < row.length := by omega
                      obtain ⟨q, hq, hqn, hqE⟩ := (hrm row[k]).1 (List.getElem_mem hk')
                      obtain ⟨rb, ro, rcs, re, rfz, rfl, _, hrb, hrc⟩ := (hu.ext (hEw.trans hE4)).get (i := k) (x := (q : Int)) (by rw [← hq]; simp)
                      have htk : row.take (k + 1) = row.take k ++ [(q : Int)] := by rw [List.take_succ_eq_append_getElem hk', hq]
                      have hT4 := hT.ext hE4
                      have hci := hT4.ci
                      obtain ⟨fcs, hfb, hfs, hfv⟩ := hT4.f
                      have hFq := hfv q (by omega)
                      simp only [VS, VD, SV, SL, T, Nat.reduceEqDiff, Nat.reduceAdd, Nat.reduceSub, Nat.reduceMul, Nat.reduceLeDiff, Nat.reduceLT, reduceIte, g65, g67, hrb, hrc, Int.toNat_natCast]
                      refine ⟨by omega, ?_⟩
                      refine YG_c (fun g' w5 => g' 1 = g 1 ∧ g' 3 = g 3 ∧ g' 4 = g 4 ∧ g' 9 = g 9 ∧ g' 10 = g 10 ∧ g' 12 = g 12 ∧ g' 13 = g 13 ∧ g' 55 = g 55 ∧ g' 56 = g 56 ∧ g' 57 = g 57 ∧ g' 65 = g 65 ∧ g' 66 = g 66 ∧ g' 67 = g 67 ∧ g' 15 = .int .i64 q ∧ g' 75 = .bool (decide (¬ q = 0 ∧ F q < 0)) ∧ w5 = w4) ?_ ?_
                      · by_cases hq0 : q = 0
                        · have d1 : decide (¬ (q : Int) = 0) = false := decide_eq_false (fun h => h (by omega))
                          rw [d1]
                          simp only [VS, VD, SV, SL, T, Nat.reduceEqDiff, Nat.reduceAdd, Nat.reduceSub, Nat.reduceMul, Nat.reduceLeDiff, Nat.reduceLT, reduceIte, g65, g67]
                          simp [hq0]
                        · have d1 : decide (¬ (q : Int) = 0) = true := decide_eq_true (by omega)
                          rw [d1]
                          simp only [VS, VD, SV, SL, T, Nat.reduceEqDiff, Nat.reduceAdd, Nat.reduceSub, Nat.reduceMul, Nat.reduceLeDiff, Nat.reduceLT, reduceIte, g4, g65, g67, hci, hfb, hFq, Int.toNat_natCast]
                          refine ⟨by omega, ?_⟩
                          simp [hq0]
                      · rintro g' w5 ⟨k1, k3, k4, k9, k10, k12, k13, k55, k56, k57, k65, k66, k67, k15, k84, rfl⟩
                        rw [g1] at k1
                        rw [g3] at k3
                        rw [g4] at k4
                        rw [g9] at k9
                        rw [g10] at k10
                        rw [g12] at k12
                        rw [g55] at k55
                        rw [g56] at k56
                        rw [g57] at k57
                        rw [g65] at k65
                        rw [g66] at k66
                        rw [g67] at k67
                        by_cases hsk : ¬ q = 0 ∧ F q < 0
                        · rw [decide_eq_true hsk] at k84
                          simp only [VS, VD, SV, SL, T, Nat.reduceEqDiff, Nat.reduceAdd, Nat.reduceSub, Nat.reduceMul, Nat.reduceLeDiff, Nat.reduceLT, reduceIte, k84]
                          have hnd : ¬ df F q := by
                            rintro (h | h)
                            · exact hsk.1 h
                            · omega
                          simp only [VS, VD, SV, SL, T, Nat.reduceEqDiff, Nat.reduceAdd, Nat.reduceSub, Nat.reduceMul, Nat.reduceLeDiff, Nat.reduceLT, reduceIte, k1, k3, k4, k9, k10, k12, k55, k56, k57, k65, k66, k67, k13]
                          refine ⟨by omega, k + 1, ⟨by simp, by omega, hE4, ?_⟩, by omega⟩
                          rw [htk]
                          rcases hnx with ⟨e1, e2⟩ | ⟨c, e1, e2, e3, e4⟩
                          · refine .inl ⟨e1, fun p hp => ?_⟩
                            rcases List.mem_append.1 hp with hp | hp
                            · exact e2 p hp
                            · simp only [List.mem_singleton] at hp
                              subst hp
                              simpa using hnd
                          · refine .inr ⟨c, e1, e2, e3, fun x => (e4 x).trans ⟨fun h p hp hd => ?_, fun h p hp hd => h p (by simp [hp]) hd⟩⟩
                            rcases List.mem_append.1 hp with hp | hp
                            · exact h p hp hd
                            · simp only [List.mem_singleton] at hp
                              subst hp
                              exact (hnd (by simpa using hd)).elim
                        · rw [decide_eq_false hsk] at k84
                          simp only [VS, VD, SV, SL, T, Nat.reduceEqDiff, Nat.reduceAdd, Nat.reduceSub, Nat.reduceMul, Nat.reduceLeDiff, Nat.reduceLT, reduceIte, k84]
                          have hd : df F q := by
                            by_cases h : q = 0
                            · exact .inl h
                            · exact .inr (by apply Int.not_lt.1; intro h2; exact hsk ⟨h, h2⟩)
                          have hRq : RE N q := by
                            rcases hd with h | h
                            · rw [h]; exact hg.r0
                            · exact hIn.wf.re h
                          rcases hnx with ⟨e1, e2⟩ | ⟨c, e1, e2, e3, e4⟩
                          · rw [e1] at k13
                            have dd : decide ((-1 : Int) < 0) = true := rfl
                            simp only [VS, VD, SV, SL, T, Nat.reduceEqDiff, Nat.reduceAdd, Nat.reduceSub, Nat.reduceMul, Nat.reduceLeDiff, Nat.reduceLT, reduceIte, k13, dd, k15, k1, k3, k4, k9, k10, k12, k55, k56, k57, k65, k66, k67]
                            refine ⟨by omega, k + 1, ⟨by simp, by omega, hE4, .inr ⟨q, rfl, hRq, hd, fun x => ?_⟩⟩, by omega⟩
                            rw [htk]
                            constructor
                            · intro hx p hp hdp
                              rcases List.mem_append.1 hp with hp | hp
                              · exact (e2 p hp hdp).elim
                              · simp only [List.mem_singleton] at hp
                                subst hp
                                simpa using hx
                            · intro h
                              have := h (q : Int) (by simp) (by simpa using hd)
                              simpa using this
                          · rw [e1] at k13
                            have dd : decide ((c : Int) < 0) = false := decide_eq_false (by omega)
                            simp only [VS, VD, SV, SL, T, Nat.reduceEqDiff, Nat.reduceAdd, Nat.reduceSub, Nat.reduceMul, Nat.reduceLeDiff, Nat.reduceLT, reduceIte, k13, dd, k15]
                            refine oV_clo (xs := [.tmp 72, .tmp 73]) (g := 40) (caps := #[.pointer (some ⟨w1.heap.size + 3, 0, none⟩), .pointer (some ⟨w1.heap.size + 1, 0, none⟩)]) (by simp only [VS, VD, SV, SL, T, Nat.reduceEqDiff, Nat.reduceAdd, Nat.reduceSub, Nat.reduceMul, Nat.reduceLeDiff, Nat.reduceLT, reduceIte, k9]) T.en40 ?_
                            simp only [VS, VD, SV, SL, T, Nat.reduceEqDiff, Nat.reduceAdd, Nat.reduceSub, Nat.reduceMul, Nat.reduceLeDiff, Nat.reduceLT, reduceIte]
                            refine (common_spec hg hPP (fun x hx => by have := (lv_rng hN hN0 hx).2; simp at this; omega) hIn.wf c q e2 hRq e3 hd w5 hT4).mono ?_
                            rintro _ w6 ⟨⟨c', rfl, hc1, hc2, hc3⟩, hE6⟩
                            simp only [VS, VD, SV, SL, T, Nat.reduceEqDiff, Nat.reduceAdd, Nat.reduceSub, Nat.reduceMul, Nat.reduceLeDiff, Nat.reduceLT, reduceIte, k1, k3, k4, k9, k10, k12, k55, k56, k57, k65, k66, k67]
                            refine ⟨by omega, k + 1, ⟨by simp, by omega, hE4.trans hE6, .inr ⟨c', rfl, hc1, hc2, fun x => ?_⟩⟩, by omega⟩
                            rw [htk, hc3, e4]
                            constructor
                            · rintro ⟨h1, h2⟩ p hp hdp
                              rcases List.mem_append.1 hp with hp | hp
                              · exact h1 p hp hdp
                              · simp only [List.mem_singleton] at hp
                                subst hp
                                simpa using h2
                            · intro h
                              refine ⟨fun p hp hdp => h p (by simp [hp]) hdp, ?_⟩
                              have := h (q : Int) (by simp) (by simpa using hd)
                              simpa using this
                    · rw [decide_eq_false hkl]
                      have htk : row.take k = row := List.take_of_length_le (by omega)
                      rw [htk] at hnx
                      have htb := hg.par b hbR hb0
                      have hdt := df_t hg hIn.ps hbR hb0 (by omega)
                      have htn := (lv_rng hN hN0 htb.1).2
                      simp only [VS, VD, SV, SL, T, Nat.reduceEqDiff, Nat.reduceAdd, Nat.reduceSub, Nat.reduceMul, Nat.reduceLeDiff, Nat.reduceLT, reduceIte, g1, g3, g4, g9, g10, g12, g55, g56, g57]
                      refine ⟨hE4, ?_⟩
                      rcases hnx with ⟨e1, e2⟩ | ⟨c, e1, e2, e3, e4⟩
                      · exact (e2 (t b : Int) ((hrm _).2 ⟨t b, rfl, by simpa using htn, htb.2.1⟩) (by simpa using hdt)).elim
                      · refine ⟨c, e1, fun x => (e4 x).trans ⟨fun h p hp hd => ?_, fun h p hp hd => ?_⟩⟩
                        · have hpn : p < N.length := by
                            have hRp : RE N p := by
                              rcases hd with h | h
                              · rw [h]; exact hg.r0
                              · exact hIn.wf.re h
                            have := (lv_rng hN hN0 hRp).2
                            simpa using this
                          have := h (p : Int) ((hrm _).2 ⟨p, rfl, hpn, hp⟩) (by simpa using hd)
                          simpa using this
                        · obtain ⟨p', rfl, _, hE'⟩ := (hrm p).1 hp
                          simpa using h p' hE' (by simpa using hd)
                · rintro g w4 ⟨g1, g3, g4, g9, g10, g12, g55, g56, g57, hE4, c, g13, hc⟩
                  have hIn2 := hIn.step hN hN0 hg (by omega) hbR (by omega) hc
                  have hT4 := hT.ext hE4
                  obtain ⟨hcp, hci, hpI, ⟨fcs, hfb, hfs, hfv⟩⟩ := hT4
                  have l3 := get_lt hfb
                  have hFb := hfv b (by omega)
                  simp only [VS, VD, SV, SL, T, Nat.reduceEqDiff, Nat.reduceAdd, Nat.reduceSub, Nat.reduceMul, Nat.reduceLeDiff, Nat.reduceLT, reduceIte, g4, g12, g13, hci, hfb, hFb, Int.toNat_natCast]
                  refine ⟨by omega, ?_⟩
                  by_cases hne : (c : Int) = F b
                  · have d1 : decide (¬ (c : Int) = F b) = false := decide_eq_false (fun q => q hne)
                    have d2 : decide (F b ≠ c) = false := decide_eq_false (fun q => q hne.symm)
                    rw [d2, setF_same hne.symm, Bool.or_false] at hIn2
                    rw [d1]
                    simp only [VS, VD, SV, SL, T, Nat.reduceEqDiff, Nat.reduceAdd, Nat.reduceSub, Nat.reduceMul, Nat.reduceLeDiff, Nat.reduceLT, reduceIte, g1, g3, g4, g9, g10, g55, g56, g57]
                    exact ⟨by omega, (j + 1, F, ch), ⟨rfl, by simp, by simp only []; omega, hE.trans hE4, ⟨hcp, hci, hpI, ⟨fcs, hfb, hfs, hfv⟩⟩, hIn2⟩, by simp only []; omega⟩
                  · have d1 : decide (¬ (c : Int) = F b) = true := decide_eq_true hne
                    have d2 : decide (F b ≠ c) = true := decide_eq_true (fun q => hne q.symm)
                    rw [d2, Bool.or_true] at hIn2
                    rw [d1]
                    have hfI := IB.set (w := w4) l3 hfs hfv b (c : Int)
                    simp only [VS, VD, SV, SL, T, Nat.reduceEqDiff, Nat.reduceAdd, Nat.reduceSub, Nat.reduceMul, Nat.reduceLeDiff, Nat.reduceLT, reduceIte, g1, g3, g4, g9, g12, g13, g55, g56, g57, hci, hfb, Int.toNat_natCast]
                    refine ⟨by omega, by omega, by omega, (j + 1, setF F b c, true), ⟨rfl, by simp, by simp only []; omega, (hE.trans hE4).putb (by omega) _, ⟨by rw [putb_get_ne (by omega)]; exact hcp, by rw [putb_get_ne (by omega)]; exact hci, hpI.heap (by rw [putb_get_ne (by omega)]), hfI⟩, hIn2⟩, by simp only []; omega⟩
              · rw [decide_eq_false hlt]
                obtain ⟨k1, k2⟩ := hIn.stop hg (by omega)
                simp only [VS, VD, SV, SL, T, Nat.reduceEqDiff, Nat.reduceAdd, Nat.reduceSub, Nat.reduceMul, Nat.reduceLeDiff, Nat.reduceLT, reduceIte, f1, f3, f4, f9, f10]
                refine ⟨(F, ch), ⟨rfl, hE, hT, k1, k2⟩, ?_⟩
                simp only []
                cases ch with
                | true => have := hIn.lt rfl; simp only [if_true]; omega
                | false => have := hIn.le; simp only [Bool.false_eq_true, if_false, if_true]; omega
end Go.Proofs.Ytlhlbiaibgmapaa
