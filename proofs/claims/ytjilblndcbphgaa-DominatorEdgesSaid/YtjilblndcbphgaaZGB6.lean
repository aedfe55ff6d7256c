/-
  dominator.Frontier.
-/
import Derived.Test.YtjilblndcbphgaaZGQ3
import Derived.Test.YtjilblndcbphgaaZGB5
set_option linter.unusedSimpArgs false
set_option linter.unusedVariables false
namespace Go.Proofs.Ytjilblndcbphgaa
open Go.W Go.RowKit
theorem map_set {n m : Nat} (L : Nat → List Int) (x : List Int) (hm : m < n) : ((List.range n).map L).set m x = (List.range n).map (fun a => if a = m then x else L a) := by
  apply List.ext_getElem?
  intro i
  rw [List.getElem?_set]
  by_cases e : m = i
  · subst e
    simp [hm]
  · rw [if_neg e]
    by_cases hi : i < n
    · simp only [List.getElem?_map, List.getElem?_range hi, Option.map_some, if_neg (fun q : i = m => e q.symm)]
    · simp [hi]
theorem map_get {n m : Nat} (L : Nat → List Int) (hm : m < n) (h : m < ((List.range n).map L).length) : ((List.range n).map L)[m] = L m := by simp
theorem RowsO.congr {base : Nat} {w : World} {q n : Nat} {L L' : Nat → List Int} (h : RowsO base w q ((List.range n).map L)) (e : ∀ a, a < n → L a = L' a) : RowsO base w q ((List.range n).map L') := by
  have : (List.range n).map L = (List.range n).map L' := List.map_congr_left fun a ha => e a (List.mem_range.1 ha)
  rwa [this] at h
set_option maxRecDepth 10000 in
theorem Frontier_spec (gv : Value) (B : List Blk) (PV : List (List Int)) (hB : B.length ≤ 2000000) (w : World) (h : GrAt w gv B PV) : VRet Try.prog 16 #[gv] w fun v w' => Ext w w' ∧ (VG B PV = false → v = .slice none 0 0) ∧ (VG B PV = true → ∃ q, v = .slice (some ⟨q, 0, none⟩) B.length B.length ∧ IntssAt w' v ((List.range B.length).map (rfr (nx B) B.length))) := by
  obtain ⟨bs, pv, rfl, hb0, hp0⟩ := h
  obtain ⟨ba, bc, rfl⟩ := hb0.form
  obtain ⟨pa, pc, rfl⟩ := hp0.form'
  have z0 : #[Value.bool false][0]! = Value.bool false := rfl
  have z1 : #[Value.slice none 0 0][0]! = Value.slice none 0 0 := rfl
  refine VRet_start T.mo ok16 rfl fun Ψ hΨ => ?_; simp only [vc16, rs16]
  simp only [VS, VD, SV, SL, T, Nat.reduceEqDiff, Nat.reduceAdd, Nat.reduceSub, Nat.reduceMul, Nat.reduceLeDiff, Nat.reduceLT, reduceIte]
  have hEt := (Ext.refl w).alloc tomb
  generalize w.alloc tomb = wt at *
  refine (Order_spec _ B PV hB wt ⟨_, _, rfl, hb0.ext hEt, hp0.ext hEt⟩).mono ?_
  rintro v1 w1 ⟨hE1, hbad, hgood⟩
  replace hE1 := hEt.trans hE1
  cases hV : VG B PV with
  | false =>
    rw [hbad hV]
    simp only [VS, VD, SV, SL, T, Nat.reduceEqDiff, Nat.reduceAdd, Nat.reduceSub, Nat.reduceMul, Nat.reduceLeDiff, Nat.reduceLT, reduceIte, Option.isNone_none]
    exact hΨ _ _ ⟨hE1, fun _ => rfl, fun h => by rw [hV] at h; cases h⟩
  | true =>
    obtain ⟨og, oc, rfl, hoc, hog, hoI⟩ := hgood hV
    obtain ⟨hB0, hN, hN2, _, hPV⟩ := VG_spec hV
    have hNl : (nx B).length = B.length := by unfold nx; rw [List.length_map]
    have hN0 : 0 < (nx B).length := by omega
    obtain ⟨t, hg⟩ := gg_of hN hN0
    simp only [VS, VD, SV, SL, T, Nat.reduceEqDiff, Nat.reduceAdd, Nat.reduceSub, Nat.reduceMul, Nat.reduceLeDiff, Nat.reduceLT, reduceIte, Option.isNone_some]
    refine (Tree_spec _ B PV hB w1 ⟨_, _, rfl, hb0.ext hE1, hp0.ext hE1⟩).mono ?_
    rintro v2 w2 ⟨hE2, _, hgood2⟩
    obtain ⟨F, ig, ic, rfl, hig, hiI, hT⟩ := hgood2 hV
    replace hoI := hoI.ext hE2
    replace hE2 := hE1.trans hE2
    have hrow : ∀ b, b < B.length → PV[b]? = some ((prevOf (nx B)).getD b []) := fun b hb => by
      rw [hPV, List.getD_eq_getElem?_getD, List.getElem?_eq_getElem (by rw [prevOf_len]; omega)]; rfl
    have hrl := prevOf_le hN2
    rw [← hPV] at hrl
    have hrm : ∀ b, b < B.length → ∀ x, x ∈ (prevOf (nx B)).getD b [] ↔ ∃ p : Nat, x = p ∧ p < B.length ∧ ED (nx B) p b := fun b hb x => by rw [prevOf_mem hN (by omega) x, hNl]
    have hPl : PV.length = B.length := by rw [hPV, prevOf_len, hNl]
    have hol := ord_le hN hN0
    generalize hNN : nx B = N at *
    simp only [VS, VD, SV, SL, T, Nat.reduceEqDiff, Nat.reduceAdd, Nat.reduceSub, Nat.reduceMul, Nat.reduceLeDiff, Nat.reduceLT, reduceIte, z0, Int.toNat_natCast]
    refine ⟨by omega, ?_⟩
    refine loop_cB (fun g w' => g 1 = .agg #[.slice ba B.length bc, .slice pa PV.length pc] ∧ g 4 = .slice (some ⟨ig, 0, none⟩) B.length ic ∧ g 5 = .slice (some ⟨w2.heap.size, 0, none⟩) B.length B.length ∧ Ext w2 w' ∧ BB w' w2.heap.size B.length (fun x : Nat => decide ((x : Int) ∈ ord N))) ?_ ?_
    · refine LoopP_intro (α := Nat) (fun i g w' => g 1 = .agg #[.slice ba B.length bc, .slice pa PV.length pc] ∧ g 4 = .slice (some ⟨ig, 0, none⟩) B.length ic ∧ g 5 = .slice (some ⟨w2.heap.size, 0, none⟩) B.length B.length ∧ g 24 = .slice (some ⟨og, 0, none⟩) (ord N).length oc ∧ g 25 = .int .i64 (ord N).length ∧ g 26 = .int .i64 i ∧ i ≤ (ord N).length ∧ Ext w2 w' ∧ BB w' w2.heap.size B.length (fun x : Nat => decide ((x : Int) ∈ (ord N).take i))) (fun i => (ord N).length - i) 0 ?_ ?_
      · simp only [VS, VD, SV, SL, T, Nat.reduceEqDiff, Nat.reduceAdd, Nat.reduceSub, Nat.reduceMul, Nat.reduceLeDiff, Nat.reduceLT, reduceIte]
        exact ⟨rfl, Nat.zero_le _, (Ext.refl w2).alloc _, _, alloc_get_new _ _, by simp, fun i hi => by simp [hi]⟩
      · rintro i g w' ⟨g1, g4, g5, g24, g25, g26, hi, hE, hBB⟩
        simp only [VS, VD, SV, SL, T, Nat.reduceEqDiff, Nat.reduceAdd, Nat.reduceSub, Nat.reduceMul, Nat.reduceLeDiff, Nat.reduceLT, reduceIte, g25, g26]
        by_cases hlt : (i : Int) < (ord N).length
        · rw [decide_eq_true hlt]
          have hi' : i < (ord N).length := by omega
          obtain ⟨b, hbi, hbR, hbp, hbn⟩ := ord_get hN hN0 hi'
          obtain ⟨ob, oo, ocs, oe, ofz, e1, _, hob, hocv⟩ := (hoI.ext hE).get (i := i) (x := (b : Int)) hbi
          simp only [Option.some.injEq, Addr.mk.injEq, and_true] at e1
          obtain ⟨rfl, rfl⟩ := e1
          rw [Nat.zero_add] at hocv
          obtain ⟨cs, hq, hqs, hqv⟩ := hBB
          have hql := get_lt hq
          simp only [VS, VD, SV, SL, T, Nat.reduceEqDiff, Nat.reduceAdd, Nat.reduceSub, Nat.reduceMul, Nat.reduceLeDiff, Nat.reduceLT, reduceIte, g5, g24, g26, hob, hocv, hq, Int.toNat_natCast]
          have htk : (ord N).take (i + 1) = (ord N).take i ++ [(b : Int)] := by
            rw [List.take_succ_eq_append_getElem hi']
            rw [List.getElem?_eq_getElem hi'] at hbi
            rw [Option.some.inj hbi]
          have hBB2 := BB.set (w := w') hql hqs hqv b
          have hEq : setS (fun x : Nat => decide ((x : Int) ∈ (ord N).take i)) b = fun x : Nat => decide ((x : Int) ∈ (ord N).take (i + 1)) := by
            funext x
            unfold setS
            rw [htk]
            by_cases e : x = b
            · simp [e]
            · rw [if_neg e]
              have : ¬ (x : Int) = b := by omega
              simp [this]
          rw [hEq] at hBB2
          simp only [VS, VD, SV, SL, T, Nat.reduceEqDiff, Nat.reduceAdd, Nat.reduceSub, Nat.reduceMul, Nat.reduceLeDiff, Nat.reduceLT, reduceIte, g1, g4, g5, g24, g25]
          exact ⟨by omega, by omega, by omega, by omega, i + 1, ⟨by simp, by omega, hE.putb (Nat.le_refl _) _, hBB2⟩, by omega⟩
        · rw [decide_eq_false hlt]
          rw [List.take_of_length_le (by omega)] at hBB
          simp only [VS, VD, SV, SL, T, Nat.reduceEqDiff, Nat.reduceAdd, Nat.reduceSub, Nat.reduceMul, Nat.reduceLeDiff, Nat.reduceLT, reduceIte, g1, g4, g5]
          exact ⟨hE, hBB⟩
    · rintro g w3 ⟨g1, g4, g5, hE3, hBB⟩
      have hRe : ∀ x : Nat, decide ((x : Int) ∈ ord N) = decide (RE N x) := fun x => by simp only [mem_ord]
      simp only [hRe] at hBB
      replace hiI := hiI.ext hE3
      replace hE3 := hE2.trans hE3
      have higl : ig < w3.heap.size := by
        obtain ⟨ib, io, ics, ie, ifz, e1, _, hib, _⟩ := hiI.get (i := 0) (x := F 0) (by simp [hB0])
        simp only [Option.some.injEq, Addr.mk.injEq, and_true] at e1
        obtain ⟨rfl, rfl⟩ := e1
        exact get_lt hib
      simp only [VS, VD, SV, SL, T, Nat.reduceEqDiff, Nat.reduceAdd, Nat.reduceSub, Nat.reduceMul, Nat.reduceLeDiff, Nat.reduceLT, reduceIte, g1, z1, Int.toNat_natCast]
      refine ⟨by omega, ?_⟩
      have hRo := RowsO.new (w := w3) B.length
      have hEn := (Ext.refl w3).alloc (.cells (Array.replicate B.length (.slice none 0 0)) 29)
      have hq4 := Nat.le_refl w3.heap.size
      have hR0 : RowsO w3.heap.size (w3.alloc (.cells (Array.replicate B.length (.slice none 0 0)) 29)) w3.heap.size ((List.range B.length).map (frl N F 0)) := by
        have : (List.range B.length).map (frl N F 0) = List.replicate B.length [] := by
          apply List.ext_getElem?
          intro i
          by_cases hi : i < B.length
          · simp [hi, frl]
          · simp [hi]
        rw [this]
        exact hRo
      generalize w3.alloc (.cells (Array.replicate B.length (.slice none 0 0)) 29) = w4 at *
      refine LoopP_intro (α := Nat) (fun i g w' => g 1 = .agg #[.slice ba B.length bc, .slice pa PV.length pc] ∧ g 4 = .slice (some ⟨ig, 0, none⟩) B.length ic ∧ g 5 = .slice (some ⟨w2.heap.size, 0, none⟩) B.length B.length ∧ g 8 = .slice (some ⟨w3.heap.size, 0, none⟩) B.length B.length ∧ g 40 = .int .i64 B.length ∧ g 41 = .int .i64 i ∧ i ≤ B.length ∧ Ext w3 w' ∧ RowsO w3.heap.size w' w3.heap.size ((List.range B.length).map (frl N F i))) (fun i => B.length - i) 0 ?_ ?_
      · simp only [VS, VD, SV, SL, T, Nat.reduceEqDiff, Nat.reduceAdd, Nat.reduceSub, Nat.reduceMul, Nat.reduceLeDiff, Nat.reduceLT, reduceIte, g4, g5]
        exact ⟨g1, rfl, Nat.zero_le _, hEn, hR0⟩
      · clear g1 g4 g5 hR0 g
        rintro i g w5 ⟨g1, g4, g5, g8, g40, g41, hi, hE5, hR5⟩
        simp only [VS, VD, SV, SL, T, Nat.reduceEqDiff, Nat.reduceAdd, Nat.reduceSub, Nat.reduceMul, Nat.reduceLeDiff, Nat.reduceLT, reduceIte, g40, g41]
        by_cases hlt : (i : Int) < B.length
        · rw [decide_eq_true hlt]
          have hi' : i < B.length := by omega
          obtain ⟨bcs, hbb, hbs, hbv⟩ := hBB.ext hE5
          have hbi := hbv i hi'
          simp only [VS, VD, SV, SL, T, Nat.reduceEqDiff, Nat.reduceAdd, Nat.reduceSub, Nat.reduceMul, Nat.reduceLeDiff, Nat.reduceLT, reduceIte, g5, g41, hbb, hbi, Int.toNat_natCast]
          refine ⟨by omega, ?_⟩
          by_cases hRi : RE N i
          · rw [decide_eq_true hRi]
            obtain ⟨pb, po, pcs, pe, pfz, u, rfl, hpb, hpc, hu⟩ := hp0.get' (show i < PV.length by omega)
            replace hpb := (hE3.trans hE5).obj hpb
            have hrow1 : PV[i] = (prevOf N).getD i [] := by
              have := hrow i hi'
              rw [List.getElem?_eq_getElem (by omega)] at this
              exact Option.some.inj this
            have hrl1 := hrl PV[i] (List.getElem_mem _)
            have hrm1 := hrm i hi'
            rw [← hrow1] at hrm1
            generalize PV[i] = row at *
            obtain ⟨ra, rc, rfl⟩ := hu.form
            simp only [VS, VD, SV, SL, T, Nat.reduceEqDiff, Nat.reduceAdd, Nat.reduceSub, Nat.reduceMul, Nat.reduceLeDiff, Nat.reduceLT, reduceIte, Bool.not_true, g1, g41, hpb, hpc, Int.toNat_natCast]
            refine ⟨by omega, ?_⟩
            refine LoopP_intro (α := Nat × (Nat → Bool)) (fun s g w' => g 1 = .agg #[.slice ba B.length bc, .slice (some ⟨pb, po, none⟩) PV.length pc] ∧ g 4 = .slice (some ⟨ig, 0, none⟩) B.length ic ∧ g 5 = .slice (some ⟨w2.heap.size, 0, none⟩) B.length B.length ∧ g 8 = .slice (some ⟨w3.heap.size, 0, none⟩) B.length B.length ∧ g 9 = .int .i64 i ∧ g 40 = .int .i64 B.length ∧ g 41 = .int .i64 i ∧ g 53 = .slice ra row.length rc ∧ g 54 = .int .i64 row.length ∧ g 55 = .int .i64 s.1 ∧ s.1 ≤ row.length ∧ Ext w3 w' ∧ RowsO w3.heap.size w' w3.heap.size ((List.range B.length).map fun a => exl (frl N F i a) i (s.2 a)) ∧ ∀ a, s.2 a = true ↔ ∃ p : Nat, (p : Int) ∈ row.take s.1 ∧ RE N p ∧ An F p a ∧ Lw F i a) (fun s => row.length - s.1) (0, fun _ => false) ?_ ?_
            · simp only [VS, VD, SV, SL, T, Nat.reduceEqDiff, Nat.reduceAdd, Nat.reduceSub, Nat.reduceMul, Nat.reduceLeDiff, Nat.reduceLT, reduceIte, g4, g5, g8, g40, g41]
              exact ⟨g1, rfl, Nat.zero_le _, hE5, hR5.congr fun a _ => by simp [exl], fun a => by simp⟩
            · clear g1 g4 g5 g8 g40 g41 hE5 hR5 hpb hbb hbs hbv hbi g w5
              rintro ⟨j, M⟩ g w5 ⟨g1, g4, g5, g8, g9, g40, g41, g53, g54, g55, hj, hE5, hR5, hM⟩
              simp only [] at g55 hj hR5 hM
              simp only [VS, VD, SV, SL, T, Nat.reduceEqDiff, Nat.reduceAdd, Nat.reduceSub, Nat.reduceMul, Nat.reduceLeDiff, Nat.reduceLT, reduceIte, g54, g55]
              by_cases hjl : (j : Int) < row.length
              · rw [decide_eq_true hjl]
                have hj' : j < row.length := by omega
                obtain ⟨p, hp, hpn, hpE⟩ := (hrm1 row[j]).1 (List.getElem_mem hj')
                obtain ⟨rb, ro, rcs, re, rfz, rfl, _, hrb, hrc⟩ := (hu.ext (hE3.trans hE5)).get (i := j) (x := (p : Int)) (by rw [← hp]; simp)
                have htk : row.take (j + 1) = row.take j ++ [(p : Int)] := by rw [List.take_succ_eq_append_getElem hj', hp]
                obtain ⟨bcs, hbb, hbs, hbv⟩ := hBB.ext hE5
                have hbp := hbv p hpn
                simp only [VS, VD, SV, SL, T, Nat.reduceEqDiff, Nat.reduceAdd, Nat.reduceSub, Nat.reduceMul, Nat.reduceLeDiff, Nat.reduceLT, reduceIte, g5, g53, g55, hrb, hrc, hbb, hbp, Int.toNat_natCast]
                refine ⟨by omega, by omega, ?_⟩
                by_cases hRp : RE N p
                · rw [decide_eq_true hRp]
                  have hW0 := Wy.start hN hN0 hT hRi hRp (by omega) hpE M
                  simp only [VS, VD, SV, SL, T, Nat.reduceEqDiff, Nat.reduceAdd, Nat.reduceSub, Nat.reduceMul, Nat.reduceLeDiff, Nat.reduceLT, reduceIte, Bool.not_true]
                  refine LoopP_intro (α := Int × (Nat → Bool)) (fun s g w' => g 1 = .agg #[.slice ba B.length bc, .slice (some ⟨pb, po, none⟩) PV.length pc] ∧ g 4 = .slice (some ⟨ig, 0, none⟩) B.length ic ∧ g 5 = .slice (some ⟨w2.heap.size, 0, none⟩) B.length B.length ∧ g 8 = .slice (some ⟨w3.heap.size, 0, none⟩) B.length B.length ∧ g 9 = .int .i64 i ∧ g 12 = .int .i64 s.1 ∧ g 40 = .int .i64 B.length ∧ g 41 = .int .i64 i ∧ g 53 = .slice (some ⟨rb, ro, none⟩) row.length rc ∧ g 54 = .int .i64 row.length ∧ g 55 = .int .i64 j ∧ Ext w3 w' ∧ RowsO w3.heap.size w' w3.heap.size ((List.range B.length).map fun a => exl (frl N F i a) i (s.2 a)) ∧ Wy N F i p M s.2 s.1) (fun s => if s.1 < 0 then 0 else PO N s.1.toNat + 1) ((p : Int), M) ?_ ?_
                  · simp only [VS, VD, SV, SL, T, Nat.reduceEqDiff, Nat.reduceAdd, Nat.reduceSub, Nat.reduceMul, Nat.reduceLeDiff, Nat.reduceLT, reduceIte, g1, g4, g5, g8, g9, g40, g41, g53, g54, g55]
                    exact ⟨hE5, hR5, hW0⟩
                  · clear g1 g4 g5 g8 g9 g40 g41 g53 g54 g55 hE5 hR5 hbb hbs hbv hbp hrb hrc g w5 hW0
                    rintro ⟨c, M'⟩ g w5 ⟨g1, g4, g5, g8, g9, g12, g40, g41, g53, g54, g55, hE5, hR5, hW⟩
                    simp only [] at g12 hR5 hW
                    obtain ⟨ib, io, ics, ie, ifz, e1, _, hib, hic⟩ := (hiI.ext hE5).get (i := i) (x := F i) (by simp [hi'])
                    simp only [Option.some.injEq, Addr.mk.injEq, and_true] at e1
                    obtain ⟨rfl, rfl⟩ := e1
                    rw [Nat.zero_add] at hic
                    simp only [VS, VD, SV, SL, T, Nat.reduceEqDiff, Nat.reduceAdd, Nat.reduceSub, Nat.reduceMul, Nat.reduceLeDiff, Nat.reduceLT, reduceIte, g4, g9, g12, hib, hic, Int.toNat_natCast]
                    refine ⟨by omega, ?_⟩
                    by_cases hce : c = F i
                    · have d0 : decide (¬ c = F i) = false := decide_eq_false (fun q => q hce)
                      rw [d0]
                      subst hce
                      simp only [VS, VD, SV, SL, T, Nat.reduceEqDiff, Nat.reduceAdd, Nat.reduceSub, Nat.reduceMul, Nat.reduceLeDiff, Nat.reduceLT, reduceIte, g1, g4, g5, g8, g9, g40, g41, g53, g54, g55]
                      refine ⟨by omega, (j + 1, M'), ⟨by simp, by simp only []; omega, hE5, hR5, fun a => ?_⟩, by simp only []; omega⟩
                      simp only []
                      rw [hW.stop a, hM a, htk]
                      constructor
                      · rintro (⟨q, k1, k2⟩ | ⟨k1, k2⟩)
                        · exact ⟨q, by simp [k1], k2⟩
                        · exact ⟨p, by simp, hRp, k1, k2⟩
                      · rintro ⟨q, k1, k2, k3, k4⟩
                        rcases List.mem_append.1 k1 with k1 | k1
                        · exact .inl ⟨q, k1, k2, k3, k4⟩
                        · simp only [List.mem_singleton] at k1
                          obtain rfl : q = p := Int.ofNat.inj k1
                          exact .inr ⟨k3, k4⟩
                    · have d0 : decide (¬ c = F i) = true := decide_eq_true hce
                      rw [d0]
                      obtain ⟨m, rfl, hRm, hmn, _⟩ := hW.at_.resolve_left hce
                      obtain ⟨_, _, hW2, hnext⟩ := hW.step hN hN0 hT hRi hce
                      have hmn' : m < B.length := by omega
                      have hml : m < ((List.range B.length).map fun a => exl (frl N F i a) i (M' a)).length := by simp [hmn']
                      obtain ⟨us, v0, hq5, hus, hv0, hI0⟩ := hR5.at hml
                      rw [map_get _ hmn'] at hI0
                      have hll := exl_len (frl N F i m) i (M' m)
                      have hll2 := frl_len N F i m
                      have htest : M' m = true ↔ _ := exl_test (N := N) (F := F) (b := i) (a := m) (m := M' m)
                      obtain ⟨mb, mo, mcs, me, mfz, e1, _, hmb, hmc⟩ := (hiI.ext hE5).get (i := m) (x := F m) (by simp [hmn'])
                      simp only [Option.some.injEq, Addr.mk.injEq, and_true] at e1
                      obtain ⟨rfl, rfl⟩ := e1
                      rw [Nat.zero_add] at hmc
                      generalize hl : exl (frl N F i m) i (M' m) = l at *
                      obtain ⟨va, vc, rfl⟩ := own_form hI0
                      have hus2 : us.size = B.length := by rw [hus]; simp
                      simp only [VS, VD, SV, SL, T, Nat.reduceEqDiff, Nat.reduceAdd, Nat.reduceSub, Nat.reduceMul, Nat.reduceLeDiff, Nat.reduceLT, reduceIte, g8, g12, hq5, hv0, Int.toNat_natCast]
                      refine ⟨by omega, ?_⟩
                      refine YG_c (fun g' w6 => g' 1 = g 1 ∧ g' 4 = g 4 ∧ g' 5 = g 5 ∧ g' 8 = g 8 ∧ g' 9 = g 9 ∧ g' 12 = g 12 ∧ g' 40 = g 40 ∧ g' 41 = g 41 ∧ g' 53 = g 53 ∧ g' 54 = g 54 ∧ g' 55 = g 55 ∧ g' 93 = .bool (!M' m) ∧ w6 = w5) ?_ ?_
                      · by_cases hl0 : (l.length : Int) = 0
                        · rw [decide_eq_true hl0]
                          simp only [VS, VD, SV, SL, T, Nat.reduceEqDiff, Nat.reduceAdd, Nat.reduceSub, Nat.reduceMul, Nat.reduceLeDiff, Nat.reduceLT, reduceIte, g8, g12]
                          have : M' m = false := by
                            cases hM' : M' m with
                            | false => rfl
                            | true =>
                              obtain ⟨x, hx, _⟩ := htest.1 hM'
                              have : l = [] := List.length_eq_zero_iff.1 (by omega)
                              rw [this] at hx
                              cases hx
                          simp [this]
                        · rw [decide_eq_false hl0]
                          obtain ⟨k, hk⟩ : ∃ k, l.length = k + 1 := ⟨l.length - 1, by omega⟩
                          obtain ⟨lb, lo, lcs, le, lfz, rfl, _, hlb, hlc⟩ := hI0.ints.get (i := k) (x := l[k]) (by simp)
                          have hkk : (l.length : Int) - 1 = k := by omega
                          have hlast : l.getLast? = some l[k] := by rw [List.getLast?_eq_getElem?, show l.length - 1 = k by omega]; simp
                          simp only [VS, VD, SV, SL, T, Nat.reduceEqDiff, Nat.reduceAdd, Nat.reduceSub, Nat.reduceMul, Nat.reduceLeDiff, Nat.reduceLT, reduceIte, g8, g9, g12, hq5, hv0, hkk, hlb, hlc, Int.toNat_natCast]
                          refine ⟨by omega, by omega, by omega, ?_⟩
                          congr 1
                          have hiff : M' m = true ↔ l[k] = (i : Int) := by
                            rw [htest, hlast]
                            constructor
                            · rintro ⟨x, hx, rfl⟩
                              exact Option.some.inj hx
                            · intro e
                              exact ⟨_, rfl, e⟩
                          cases hM' : M' m with
                          | true => simp [hiff.1 hM']
                          | false =>
                            have : ¬ l[k] = (i : Int) := fun e => by rw [hiff.2 e] at hM'; cases hM'
                            simp [this]
                      · rintro g' w6 ⟨k1, k4, k5, k8, k9, k12, k40, k41, k53, k54, k55, k93, rfl⟩
                        rw [g1] at k1
                        rw [g4] at k4
                        rw [g5] at k5
                        rw [g8] at k8
                        rw [g9] at k9
                        rw [g12] at k12
                        rw [g40] at k40
                        rw [g41] at k41
                        rw [g53] at k53
                        rw [g54] at k54
                        rw [g55] at k55
                        have hdec : (if F m < 0 then 0 else PO N (F m).toNat + 1) < (if (m : Int) < 0 then 0 else PO N (m : Int).toNat + 1) := by
                          rw [if_neg (show ¬ (m : Int) < 0 by omega), Int.toNat_natCast]
                          rcases hnext with h | ⟨q, h, hlt⟩
                          · rw [if_pos h]; omega
                          · rw [h, if_neg (by omega), Int.toNat_natCast]; omega
                        cases hM' : M' m with
                        | true =>
                          have hsame : setS M' m = M' := by
                            funext x
                            unfold setS
                            split
                            · rename_i e; rw [e, hM']
                            · rfl
                          rw [hsame] at hW2
                          rw [hM'] at k93
                          simp only [VS, VD, SV, SL, T, Nat.reduceEqDiff, Nat.reduceAdd, Nat.reduceSub, Nat.reduceMul, Nat.reduceLeDiff, Nat.reduceLT, reduceIte, k93, Bool.not_true, k1, k4, k5, k8, k9, k12, k40, k41, k53, k54, k55, hmb, hmc, Int.toNat_natCast]
                          exact ⟨by omega, (F m, M'), ⟨rfl, hE5, hR5, hW2⟩, hdec⟩
                        | false =>
                          rw [hM'] at k93
                          simp only [VS, VD, SV, SL, T, Nat.reduceEqDiff, Nat.reduceAdd, Nat.reduceSub, Nat.reduceMul, Nat.reduceLeDiff, Nat.reduceLT, reduceIte, k93, Bool.not_false, k1, k4, k5, k8, k9, k12, k40, k41, k53, k54, k55, hq5, hv0, Int.toNat_natCast]
                          refine ⟨by omega, ?_⟩
                          refine app_int hI0 (by omega) (by have := hR5.lt; omega) i ?_
                          intro v' w7 ho7 hg7 hnew
                          obtain ⟨va', vcp, rfl⟩ := own_form ho7
                          have hl' : ((List.range B.length).map fun a => exl (frl N F i a) i (M' a))[m] = l := by rw [map_get _ hmn', hl]
                          have ho7' : IntO w3.heap.size w7 (.slice va' (l ++ [(i : Int)]).length vcp) (((List.range B.length).map fun a => exl (frl N F i a) i (M' a))[m] ++ [(i : Int)]) := by rw [hl']; exact ho7
                          obtain ⟨hq7, hR7⟩ := hR5.app hml hq5 hv0 ho7' hg7 hnew
                          rw [hl', map_set _ _ hmn'] at hR7
                          have hE7 := hE5.grownO hI0 (by omega) hg7
                          have hiI7 := hiI.ext hE7
                          obtain ⟨mb', mo', mcs', me', mfz', e1', _, hmb', hmc'⟩ := hiI7.get (i := m) (x := F m) (by simp [hmn'])
                          simp only [Option.some.injEq, Addr.mk.injEq, and_true] at e1'
                          obtain ⟨rfl, rfl⟩ := e1'
                          rw [Nat.zero_add] at hmc'
                          have hne7 : ¬ ig = w3.heap.size := by omega
                          simp only [VS, VD, SV, SL, T, Nat.reduceEqDiff, Nat.reduceAdd, Nat.reduceSub, Nat.reduceMul, Nat.reduceLeDiff, Nat.reduceLT, reduceIte, k1, k4, k5, k8, k9, k12, k40, k41, k53, k54, k55, hq7, hmb', hmc', hne7, Int.toNat_natCast]
                          refine ⟨by omega, by omega, by omega, (F m, setS M' m), ⟨rfl, hE7.putb (Nat.le_refl _) _, hR7.congr fun a _ => ?_, hW2⟩, hdec⟩
                          simp only [setS]
                          by_cases e : a = m
                          · subst e
                            rw [if_pos rfl, if_pos rfl, ← hl, hM']
                            simp [exl]
                          · rw [if_neg e, if_neg e]
                · rw [decide_eq_false hRp]
                  simp only [VS, VD, SV, SL, T, Nat.reduceEqDiff, Nat.reduceAdd, Nat.reduceSub, Nat.reduceMul, Nat.reduceLeDiff, Nat.reduceLT, reduceIte, Bool.not_false, g1, g4, g5, g8, g9, g40, g41, g53, g54, g55]
                  refine ⟨by omega, (j + 1, M), ⟨by simp, by simp only []; omega, hE5, hR5, fun a => ?_⟩, by simp only []; omega⟩
                  simp only []
                  rw [hM a, htk]
                  constructor
                  · rintro ⟨q, k1, k2⟩
                    exact ⟨q, by simp [k1], k2⟩
                  · rintro ⟨q, k1, k2⟩
                    rcases List.mem_append.1 k1 with k1 | k1
                    · exact ⟨q, k1, k2⟩
                    · simp only [List.mem_singleton] at k1
                      obtain rfl : q = p := Int.ofNat.inj k1
                      exact (hRp k2.1).elim
              · rw [decide_eq_false hjl]
                rw [List.take_of_length_le (by omega)] at hM
                simp only [VS, VD, SV, SL, T, Nat.reduceEqDiff, Nat.reduceAdd, Nat.reduceSub, Nat.reduceMul, Nat.reduceLeDiff, Nat.reduceLT, reduceIte, g1, g4, g5, g8, g40, g41]
                refine ⟨by omega, i + 1, ⟨by simp, by omega, hE5, hR5.congr fun a _ => ?_⟩, by omega⟩
                rw [frl_succ]
                unfold exl
                have : M a = frB N F a i := by
                  have hiff : M a = true ↔ frB N F a i = true := by
                    rw [hM a, frB_iff]
                    constructor
                    · rintro ⟨p, k1, k2, k3, k4⟩
                      obtain ⟨p', e, _, k5⟩ := (hrm1 _).1 k1
                      obtain rfl : p = p' := Int.ofNat.inj e
                      exact ⟨hRi, p, k2, k5, k3, k4⟩
                    · rintro ⟨_, p, k2, k5, k3, k4⟩
                      have := RE.lt hN hN0 k2
                      exact ⟨p, (hrm1 _).2 ⟨p, rfl, by omega, k5⟩, k2, k3, k4⟩
                  cases h1 : M a <;> cases h2 : frB N F a i <;> simp_all
                rw [this]
          · rw [decide_eq_false hRi]
            simp only [VS, VD, SV, SL, T, Nat.reduceEqDiff, Nat.reduceAdd, Nat.reduceSub, Nat.reduceMul, Nat.reduceLeDiff, Nat.reduceLT, reduceIte, Bool.not_false, g1, g4, g5, g8, g40, g41]
            refine ⟨by omega, i + 1, ⟨by simp, by omega, hE5, hR5.congr fun a _ => ?_⟩, by omega⟩
            rw [frl_succ]
            have : frB N F a i = false := by
              cases hf : frB N F a i with
              | false => rfl
              | true => exact (hRi (frB_iff.1 hf).1).elim
            simp [this]
        · rw [decide_eq_false hlt]
          obtain rfl : i = B.length := by omega
          simp only [VS, VD, SV, SL, T, Nat.reduceEqDiff, Nat.reduceAdd, Nat.reduceSub, Nat.reduceMul, Nat.reduceLeDiff, Nat.reduceLT, reduceIte, g8]
          refine hΨ _ _ ⟨hE3.trans hE5, fun h => (by rw [hV] at h; cases h), fun _ => ⟨_, rfl, ?_⟩⟩
          have := hR5.intss (c := B.length)
          have e2 : (List.range B.length).map (frl N F B.length) = (List.range B.length).map (rfr N B.length) := List.map_congr_left fun a _ => (rfr_eq hN hN0 hT _ _).symm
          rw [List.length_map, List.length_range, e2] at this
          exact this
end Go.Proofs.Ytjilblndcbphgaa
