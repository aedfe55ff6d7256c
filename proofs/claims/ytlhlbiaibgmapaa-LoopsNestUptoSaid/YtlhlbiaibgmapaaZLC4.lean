/-
  LoopsNest: the walk.
-/
import Derived.Test.YtlhlbiaibgmapaaZLC2
import Derived.Test.YtlhlbiaibgmapaaZLP6
set_option linter.unusedSimpArgs false
set_option linter.unusedVariables false
namespace Go.Proofs.Ytlhlbiaibgmapaa
open Go.W Go.RowKit
set_option maxHeartbeats 1000000 in
set_option maxRecDepth 10000 in
theorem LoopsNest_spec (gv : Value) (B : List Blk) (PV : List (List Int)) (w : World) (h : GrAt w gv B PV) (hB : B.length ≤ 2000000) : VRet Try.prog 10 #[gv] w fun v w' => v = .bool true ∧ Ext w w' := by
  obtain ⟨bs, pv, rfl, hb0, hp0⟩ := h
  obtain ⟨ba, bc, rfl⟩ := hb0.form
  obtain ⟨pa, pc, rfl⟩ := hp0.form'
  refine VRet_start T.mo ok10 rfl fun Ψ hΨ => ?_; simp only [vc10, rs10]
  simp only [VS, VD, SV, SL, T, Nat.reduceEqDiff, Nat.reduceAdd, Nat.reduceSub, Nat.reduceMul, Nat.reduceLeDiff, Nat.reduceLT, reduceIte]
  refine (awake_spec _).mono ?_
  rintro _ w1 ⟨rfl, hE1⟩
  replace hE1 := ((Ext.refl w).alloc tomb).trans hE1
  simp only [VS, VD, SV, SL, T, Nat.reduceEqDiff, Nat.reduceAdd, Nat.reduceSub, Nat.reduceMul, Nat.reduceLeDiff, Nat.reduceLT, reduceIte, Bool.not_true]
  refine (found_spec _ B PV hB w1 ⟨_, _, rfl, hb0.ext hE1, hp0.ext hE1⟩).mono ?_
  rintro _ w2 ⟨hE2, hc⟩
  replace hE2 := hE1.trans hE2
  rcases hc with ⟨a, n, c, a', n', c', rfl⟩ | ⟨h14, hV, hbad, nv, lv, rfl, hNv, hL⟩
  · simp only [VS, VD, SV, SL, T, Nat.reduceEqDiff, Nat.reduceAdd, Nat.reduceSub, Nat.reduceMul, Nat.reduceLeDiff, Nat.reduceLT, reduceIte, Bool.not_false]
    exact hΨ _ _ ⟨rfl, hE2⟩
  obtain ⟨na, nc, rfl⟩ := hNv.form'
  obtain ⟨la, lc, rfl⟩ := hL.form
  have hNV := VG_nv hV
  have hNl : (nx B).length = B.length := by unfold nx; rw [List.length_map]
  have hgd := good_of hbad
  generalize hNN : nx B = N at *
  have hN := hNV.ok
  have hN0 := hNV.pos
  have hNst := fnd_nst hN hN0 hgd
  have hLl := fnd_len N
  have hbl : ∀ k (hk : k < (fnd N).length), (fnd N)[k].2.1.length ≤ N.length := fun k hk => by
    obtain ⟨h, p, e, _⟩ := fnd_at hk
    rw [e]
    exact ascL_len _ _
  generalize fnd N = L at *
  rw [hNl]
  simp only [VS, VD, SV, SL, T, Nat.reduceEqDiff, Nat.reduceAdd, Nat.reduceSub, Nat.reduceMul, Nat.reduceLeDiff, Nat.reduceLT, reduceIte, Bool.not_true]
  have hrow : ∀ x ∈ L, x.2.1.length ≤ 100000000 := fun x hx => by
    obtain ⟨k, hk, rfl⟩ := List.getElem_of_mem hx
    have := hbl k hk
    omega
  refine LoopP_intro (α := Nat) (fun a g w' => g 4 = .slice la L.length lc ∧ g 23 = .int .i64 B.length ∧ g 24 = .int .i64 a ∧ a ≤ B.length ∧ Ext w2 w') (fun a => B.length - a) 0 ?_ ?_
  · simp only [VS, VD, SV, SL, T, Nat.reduceEqDiff, Nat.reduceAdd, Nat.reduceSub, Nat.reduceMul, Nat.reduceLeDiff, Nat.reduceLT, reduceIte]
    exact ⟨rfl, Nat.zero_le _, Ext.refl _⟩
  rintro a g w' ⟨g4, g23, g24, ha, hE⟩
  simp only [VS, VD, SV, SL, T, Nat.reduceEqDiff, Nat.reduceAdd, Nat.reduceSub, Nat.reduceMul, Nat.reduceLeDiff, Nat.reduceLT, reduceIte, g23, g24]
  by_cases hlt : (a : Int) < B.length
  · rw [decide_eq_true hlt]
    have ha' : a < N.length := by omega
    simp only [VS, VD, SV, SL, T, Nat.reduceEqDiff, Nat.reduceAdd, Nat.reduceSub, Nat.reduceMul, Nat.reduceLeDiff, Nat.reduceLT, reduceIte, g4, g24]
    refine (Innermost_spec _ L (by omega) hrow (a : Int) w' (hL.ext hE)).mono ?_
    rintro _ w3 ⟨rfl, hE3⟩
    replace hE3 := hE.trans hE3
    have hcs := chain_start (L := L) (a : Int)
    generalize inm L (a : Int) L.length = k0 at *
    simp only [VS, VD, SV, SL, T, Nat.reduceEqDiff, Nat.reduceAdd, Nat.reduceSub, Nat.reduceMul, Nat.reduceLeDiff, Nat.reduceLT, reduceIte]
    refine loop_cB (fun g' w4 => g' 4 = .slice la L.length lc ∧ g' 23 = .int .i64 B.length ∧ g' 24 = .int .i64 a ∧ g' 6 = .int .i64 a ∧ g' 8 = .int .i64 (dep L a) ∧ Ext w3 w4) ?_ ?_
    · refine LoopP_intro (α := Int × Nat) (fun s g' w4 => g' 4 = .slice la L.length lc ∧ g' 23 = .int .i64 B.length ∧ g' 24 = .int .i64 a ∧ g' 6 = .int .i64 a ∧ g' 7 = .int .i64 s.1 ∧ g' 8 = .int .i64 s.2 ∧ Ext w3 w4 ∧ ((s.1 = -1 ∧ s.2 = dep L a) ∨ ∃ (k : Nat) (hk : k < L.length), s.1 = k ∧ (a : Int) ∈ L[k].2.1 ∧ s.2 + cC L a L[k].2.1.length = dep L a)) (fun s => dep L a - s.2) (k0, 0) ?_ ?_
      · simp only [VS, VD, SV, SL, T, Nat.reduceEqDiff, Nat.reduceAdd, Nat.reduceSub, Nat.reduceMul, Nat.reduceLeDiff, Nat.reduceLT, reduceIte, g4, g23, g24]
        refine ⟨rfl, Ext.refl _, ?_⟩
        rcases hcs with ⟨e1, e2⟩ | ⟨k, hk, e1, e2, e3⟩
        · exact .inl ⟨e1, e2.symm⟩
        · exact .inr ⟨k, hk, e1, e2, e3⟩
      clear g4 g23 g24 hcs
      rintro ⟨kk, d⟩ g w4 ⟨g4, g23, g24, g6, g7, g8, hE4, hc⟩
      simp only [] at g7 g8 hc
      have hdl : dep L (a : Int) ≤ L.length := List.length_filter_le _ _
      rcases hc with ⟨rfl, rfl⟩ | ⟨k, hk, rfl, hak, hcn⟩
      · have d1 : decide (0 ≤ (-1 : Int)) = false := rfl
        simp only [VS, VD, SV, SL, T, Nat.reduceEqDiff, Nat.reduceAdd, Nat.reduceSub, Nat.reduceMul, Nat.reduceLeDiff, Nat.reduceLT, reduceIte, g7, d1, g4, g23, g24, g6, g8]
        exact hE4
      have d1 : decide (0 ≤ (k : Int)) = true := decide_eq_true (by omega)
      have d2 : decide ((d : Int) ≤ L.length) = true := decide_eq_true (by omega)
      have d3 : decide ((L.length : Int) ≤ k) = false := decide_eq_false (by omega)
      have hEw := hE3.trans hE4
      obtain ⟨lb, lo, lcs, le, lfz, u, u', rfl, hlb, hls, hlv, hlx, hu, hu'⟩ := (hL.ext hEw).get hk
      have hblk := hbl k hk
      have hst := chain_step hNst hk hak
      simp only [VS, VD, SV, SL, T, Nat.reduceEqDiff, Nat.reduceAdd, Nat.reduceSub, Nat.reduceMul, Nat.reduceLeDiff, Nat.reduceLT, reduceIte, g4, g6, g7, g8, d1, d2, d3, hlb, hls, hlx, Int.toNat_natCast]
      obtain ⟨ua, uc, rfl⟩ := hu.form
      refine ⟨by omega, ?_⟩
      refine (in_spec _ _ (by omega) (a : Int) w4 hu).mono ?_
      rintro _ w5 ⟨rfl, hE5⟩
      replace hlb := hE5.obj hlb
      replace hu := hu.ext hE5
      replace hE5 := hE4.trans hE5
      rw [decide_eq_true hak]
      simp only [VS, VD, SV, SL, T, Nat.reduceEqDiff, Nat.reduceAdd, Nat.reduceSub, Nat.reduceMul, Nat.reduceLeDiff, Nat.reduceLT, reduceIte, Bool.not_true, g4, g7, hlb, hls, hlx, Int.toNat_natCast]
      refine ⟨by omega, ?_⟩
      refine DW_c (fun g' w6 => g' 4 = .slice (some ⟨lb, lo, none⟩) L.length lc ∧ g' 23 = .int .i64 B.length ∧ g' 24 = .int .i64 a ∧ g' 6 = .int .i64 a ∧ g' 7 = .int .i64 k ∧ g' 8 = .int .i64 d ∧ g' 9 = .int .i64 L[k].2.2.2 ∧ g' 79 = .bool false ∧ Ext w5 w6) ?_ ?_
      · refine DW_intro (fun _ _ _ _ => True) ?_
        rcases hst with ⟨e1, e2⟩ | ⟨p, hp, e1, e2, e3, e4, e5⟩
        · rw [e1]
          have d4 : decide ((L.length : Int) ≤ -1) = false := decide_eq_false (by omega)
          have d5 : decide (0 ≤ (-1 : Int)) = false := rfl
          simp only [VS, VD, SV, SL, T, Nat.reduceEqDiff, Nat.reduceAdd, Nat.reduceSub, Nat.reduceMul, Nat.reduceLeDiff, Nat.reduceLT, reduceIte, g4, d4, d5]
          intro w6 hE6 _
          simp only [VS, VD, SV, SL, T, Nat.reduceEqDiff, Nat.reduceAdd, Nat.reduceSub, Nat.reduceMul, Nat.reduceLeDiff, Nat.reduceLT, reduceIte, g4, g23, g24, g6, g7, g8]
          exact hE6
        · rw [e1]
          have d4 : decide ((L.length : Int) ≤ p) = false := decide_eq_false (by omega)
          have d5 : decide (0 ≤ (p : Int)) = true := decide_eq_true (by omega)
          obtain ⟨lb2, lo2, lcs2, le2, lfz2, u2, u2', q1, hlb2, hls2, _, hlx2, hu2, _⟩ := (hL.ext (hE3.trans hE5)).get hp
          simp only [Option.some.injEq, Addr.mk.injEq, and_true] at q1
          obtain ⟨rfl, rfl⟩ := q1
          rw [hlb] at hlb2
          simp only [Option.some.injEq, Obj.cells.injEq] at hlb2
          obtain ⟨rfl, _⟩ := hlb2
          obtain ⟨ua2, uc2, rfl⟩ := hu2.form
          have d6 : decide (((L[p].2.1.length : Nat) : Int) ≤ (L[k].2.1.length : Nat)) = false := decide_eq_false (by omega)
          simp only [VS, VD, SV, SL, T, Nat.reduceEqDiff, Nat.reduceAdd, Nat.reduceSub, Nat.reduceMul, Nat.reduceLeDiff, Nat.reduceLT, reduceIte, g4, g7, d4, d5, hlb, hls, hls2, hlx, hlx2, Int.toNat_natCast]
          refine ⟨by omega, by omega, ?_⟩
          intro w6 hE6 _
          simp only [VS, VD, SV, SL, T, Nat.reduceEqDiff, Nat.reduceAdd, Nat.reduceSub, Nat.reduceMul, Nat.reduceLeDiff, Nat.reduceLT, reduceIte, d6, g4, g23, g24, g6, g7, g8]
          exact hE6
      clear g4 g23 g24 g6 g7 g8
      rintro g w6 ⟨g4, g23, g24, g6, g7, g8, g9, g79, hE6⟩
      replace hlb := hE6.obj hlb
      replace hu := hu.ext hE6
      replace hE6 := hE5.trans hE6
      simp only [VS, VD, SV, SL, T, Nat.reduceEqDiff, Nat.reduceAdd, Nat.reduceSub, Nat.reduceMul, Nat.reduceLeDiff, Nat.reduceLT, reduceIte, g79, g4, g7, hlb, hls, hlx, Int.toNat_natCast]
      refine ⟨by omega, ?_⟩
      generalize hpp : L[k].2.2.2 = pp at *
      refine loop_cB (fun g' w7 => g' 4 = .slice (some ⟨lb, lo, none⟩) L.length lc ∧ g' 23 = .int .i64 B.length ∧ g' 24 = .int .i64 a ∧ g' 6 = .int .i64 a ∧ g' 8 = .int .i64 d ∧ g' 9 = .int .i64 pp ∧ Ext w6 w7) ?_ ?_
      · refine LoopP_intro (α := Nat) (fun i g' w7 => g' 4 = .slice (some ⟨lb, lo, none⟩) L.length lc ∧ g' 23 = .int .i64 B.length ∧ g' 24 = .int .i64 a ∧ g' 6 = .int .i64 a ∧ g' 8 = .int .i64 d ∧ g' 9 = .int .i64 pp ∧ g' 84 = .slice ua L[k].2.1.length uc ∧ g' 85 = .int .i64 L[k].2.1.length ∧ g' 86 = .int .i64 i ∧ i ≤ L[k].2.1.length ∧ Ext w6 w7) (fun i => L[k].2.1.length - i) 0 ?_ ?_
        · simp only [VS, VD, SV, SL, T, Nat.reduceEqDiff, Nat.reduceAdd, Nat.reduceSub, Nat.reduceMul, Nat.reduceLeDiff, Nat.reduceLT, reduceIte, g4, g23, g24, g6, g8, g9]
          exact ⟨rfl, Nat.zero_le _, Ext.refl _⟩
        clear g4 g23 g24 g6 g7 g8 g9 g79
        rintro i g w7 ⟨g4, g23, g24, g6, g8, g9, g84, g85, g86, hi, hE7⟩
        simp only [VS, VD, SV, SL, T, Nat.reduceEqDiff, Nat.reduceAdd, Nat.reduceSub, Nat.reduceMul, Nat.reduceLeDiff, Nat.reduceLT, reduceIte, g85, g86]
        by_cases hil : (i : Int) < L[k].2.1.length
        · rw [decide_eq_true hil]
          have hi' : i < L[k].2.1.length := by omega
          obtain ⟨bu, ou, cu, eu, fu, rfl, _, hbu, hcu⟩ := (hu.ext hE7).get (i := i) (x := L[k].2.1[i]) (by simp [hi'])
          have hmem := List.getElem_mem hi'
          generalize hx : L[k].2.1[i] = x at *
          rcases hst with ⟨e1, e2⟩ | ⟨p, hp, e1, e2, e3, e4, e5⟩
          · have d5 : decide (0 ≤ pp) = false := by rw [e1]; rfl
            simp only [VS, VD, SV, SL, T, Nat.reduceEqDiff, Nat.reduceAdd, Nat.reduceSub, Nat.reduceMul, Nat.reduceLeDiff, Nat.reduceLT, reduceIte, g84, g86, g9, hbu, hcu, d5, g4, g23, g24, g6, g8, g85, Int.toNat_natCast]
            exact ⟨by omega, by omega, i + 1, ⟨by simp, by omega, hE7⟩, by omega⟩
          · subst e1
            have d5 : decide (0 ≤ (p : Int)) = true := decide_eq_true (by omega)
            obtain ⟨lb2, lo2, lcs2, le2, lfz2, u2, u2', q1, hlb2, hls2, _, hlx2, hu2, _⟩ := (hL.ext ((hE3.trans hE6).trans hE7)).get hp
            simp only [Option.some.injEq, Addr.mk.injEq, and_true] at q1
            obtain ⟨rfl, rfl⟩ := q1
            have hbp := hbl p hp
            obtain ⟨ua2, uc2, rfl⟩ := hu2.form
            simp only [VS, VD, SV, SL, T, Nat.reduceEqDiff, Nat.reduceAdd, Nat.reduceSub, Nat.reduceMul, Nat.reduceLeDiff, Nat.reduceLT, reduceIte, g4, g84, g86, g9, hbu, hcu, d5, hlb2, hls2, hlx2, Int.toNat_natCast]
            refine ⟨by omega, by omega, ?_⟩
            refine (in_spec _ _ (by omega) x w7 hu2).mono ?_
            rintro _ w8 ⟨rfl, hE8⟩
            rw [decide_eq_true (e4 x hmem)]
            simp only [VS, VD, SV, SL, T, Nat.reduceEqDiff, Nat.reduceAdd, Nat.reduceSub, Nat.reduceMul, Nat.reduceLeDiff, Nat.reduceLT, reduceIte, Bool.not_true, g4, g23, g24, g6, g8, g9, g84, g85, g86]
            exact ⟨by omega, i + 1, ⟨by simp, by omega, hE7.trans hE8⟩, by omega⟩
        · rw [decide_eq_false hil]
          simp only [VS, VD, SV, SL, T, Nat.reduceEqDiff, Nat.reduceAdd, Nat.reduceSub, Nat.reduceMul, Nat.reduceLeDiff, Nat.reduceLT, reduceIte, g4, g23, g24, g6, g8, g9]
          exact hE7
      clear g4 g23 g24 g6 g7 g8 g9 g79
      rintro g w7 ⟨g4, g23, g24, g6, g8, g9, hE7⟩
      simp only [VS, VD, SV, SL, T, Nat.reduceEqDiff, Nat.reduceAdd, Nat.reduceSub, Nat.reduceMul, Nat.reduceLeDiff, Nat.reduceLT, reduceIte, g8, g9, g4, g23, g24, g6]
      have hcle := cC_le L (a : Int) L[k].2.1.length
      rcases hst with ⟨e1, e2⟩ | ⟨p, hp, e1, e2, e3, e4, e5⟩
      · refine ⟨by omega, (pp, d + 1), ⟨rfl, by simp, hE6.trans hE7, .inl ⟨e1, by simp only []; omega⟩⟩, by simp only []; omega⟩
      · refine ⟨by omega, (pp, d + 1), ⟨rfl, by simp, hE6.trans hE7, .inr ⟨p, hp, e1, e2, by simp only []; omega⟩⟩, by simp only []; omega⟩
    clear g4 g23 g24 hcs
    rintro g w4 ⟨g4, g23, g24, g6, g8, hE4⟩
    simp only [VS, VD, SV, SL, T, Nat.reduceEqDiff, Nat.reduceAdd, Nat.reduceSub, Nat.reduceMul, Nat.reduceLeDiff, Nat.reduceLT, reduceIte, g4, g6, g8]
    refine (Depth_spec _ L (by omega) hrow (a : Int) w4 (hL.ext (hE3.trans hE4))).mono ?_
    rintro _ w5 ⟨rfl, hE5⟩
    have d1 : decide (¬ ((dep L (a : Int) : Nat) : Int) = (dep L (a : Int) : Nat)) = false := decide_eq_false (fun h => h rfl)
    simp only [VS, VD, SV, SL, T, Nat.reduceEqDiff, Nat.reduceAdd, Nat.reduceSub, Nat.reduceMul, Nat.reduceLeDiff, Nat.reduceLT, reduceIte, d1, g4, g23, g24, g6]
    exact ⟨by omega, a + 1, ⟨by simp, by omega, (hE3.trans hE4).trans hE5⟩, by omega⟩
  · rw [decide_eq_false hlt]
    simp only [VS, VD, SV, SL, T, Nat.reduceEqDiff, Nat.reduceAdd, Nat.reduceSub, Nat.reduceMul, Nat.reduceLeDiff, Nat.reduceLT, reduceIte]
    exact hΨ _ _ ⟨rfl, hE2.trans hE⟩
end Go.Proofs.Ytlhlbiaibgmapaa
