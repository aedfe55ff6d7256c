/-
  cfg.Valid.
-/
import Derived.Test.YtlhlbiaibgmapaaZGA1
set_option linter.unusedSimpArgs false
set_option linter.unusedVariables false
namespace Go.Proofs.Ytlhlbiaibgmapaa
open Go.W Go.RowKit
theorem addP_len (k : Int) : ∀ (l : List Int) (PL : List (List Int)), (addP PL k l).length = PL.length
  | [], _ => rfl
  | n :: l, PL => by rw [addP, addP_len k l]; simp
theorem prevs_len : ∀ (N : List (List Int)) (PL : List (List Int)) (k : Nat), (prevs PL k N).length = PL.length
  | [], _, _ => rfl
  | l :: N, PL, k => by rw [prevs, prevs_len N, addP_len]
theorem addP_snoc (k n : Int) : ∀ (l : List Int) (PL : List (List Int)), addP PL k (l ++ [n]) = (addP PL k l).set n.toNat ((addP PL k l).getD n.toNat [] ++ [k])
  | [], PL => rfl
  | m :: l, PL => by rw [List.cons_append, addP, addP, addP_snoc k n l]
theorem prevs_snoc (l : List Int) : ∀ (N : List (List Int)) (PL : List (List Int)) (k : Nat), prevs PL k (N ++ [l]) = addP (prevs PL k N) ((k + N.length : Nat) : Int) l
  | [], PL, k => by simp [prevs]
  | m :: N, PL, k => by
    rw [List.cons_append, prevs, prevs, prevs_snoc l N, List.length_cons]
    congr 2
    omega
/-- rows are no longer than what has been added -/
def rowsLe (PL : List (List Int)) (n : Nat) : Prop := ∀ l ∈ PL, l.length ≤ n
theorem addP_le (k : Int) : ∀ (l : List Int) (PL : List (List Int)) (n : Nat), rowsLe PL n → rowsLe (addP PL k l) (n + l.length)
  | [], PL, n, h => h
  | m :: l, PL, n, h => by
    rw [addP, List.length_cons, show n + (l.length + 1) = n + 1 + l.length by omega]
    refine addP_le k l _ (n + 1) ?_
    intro x hx
    rcases List.mem_or_eq_of_mem_set hx with hx | rfl
    · have := h x hx; omega
    · rw [List.length_append, List.length_singleton]
      by_cases hm : m.toNat < PL.length
      · have := h (PL.getD m.toNat []) (by rw [List.getD_eq_getElem?_getD, List.getElem?_eq_getElem hm]; exact List.getElem_mem _)
        omega
      · rw [List.getD_eq_getElem?_getD, List.getElem?_eq_none (by omega)]; simp
theorem BOkE_append (n : Int) : ∀ (A B : List Blk) (e : Int), BOkE n e (A ++ B) = (BOkE n e A).bind fun e' => BOkE n e' B
  | [], B, e => rfl
  | a :: A, B, e => by
    rw [List.cons_append, BOkE, BOkE]
    split
    · exact BOkE_append n A B _
    · rfl
theorem nx_take (B : List Blk) (i : Nat) : nx (B.take i) = (nx B).take i := by unfold nx; rw [List.map_take]
set_option maxRecDepth 10000 in
theorem Valid_spec (gv : Value) (B : List Blk) (PV : List (List Int)) (hB : B.length ≤ 2000000) (w : World) (h : GrAt w gv B PV) : VRet Try.prog 30 #[gv] w fun v w' => v = .bool (VG B PV) ∧ Ext w w' := by
  obtain ⟨bs, pv, rfl, hb0, hp0⟩ := h
  obtain ⟨ba, bc, rfl⟩ := hb0.form
  obtain ⟨pa, pc, rfl⟩ := hp0.form'
  have z0 : #[Value.slice none 0 0][0]! = Value.slice none 0 0 := rfl
  refine VRet_start T.mo ok30 rfl fun Ψ hΨ => ?_; simp only [vc30, rs30]
  simp only [VS, VD, SV, SL, T, Nat.reduceEqDiff, Nat.reduceAdd, Nat.reduceSub, Nat.reduceMul, Nat.reduceLeDiff, Nat.reduceLT, reduceIte]
  by_cases h1 : (B.length : Int) = 0
  · rw [decide_eq_true h1]
    simp only [VS, VD, SV, SL, T, Nat.reduceEqDiff, Nat.reduceAdd, Nat.reduceSub, Nat.reduceMul, Nat.reduceLeDiff, Nat.reduceLT, reduceIte]
    refine hΨ _ _ ⟨?_, (Ext.refl w).alloc tomb⟩
    have : B = [] := List.length_eq_zero_iff.1 (by omega)
    simp [VG, this]
  · rw [decide_eq_false h1]
    have hne : B ≠ [] := by rintro rfl; exact h1 rfl
    simp only [VS, VD, SV, SL, T, Nat.reduceEqDiff, Nat.reduceAdd, Nat.reduceSub, Nat.reduceMul, Nat.reduceLeDiff, Nat.reduceLT, reduceIte]
    by_cases h2 : (PV.length : Int) = B.length
    case neg =>
      rw [decide_eq_true h2]
      simp only [VS, VD, SV, SL, T, Nat.reduceEqDiff, Nat.reduceAdd, Nat.reduceSub, Nat.reduceMul, Nat.reduceLeDiff, Nat.reduceLT, reduceIte]
      refine hΨ _ _ ⟨?_, (Ext.refl w).alloc tomb⟩
      have : ¬ PV.length = B.length := by omega
      simp [VG, this]
    have d2 : decide (¬ (PV.length : Int) = B.length) = false := decide_eq_false (fun h => h h2)
    simp only [VS, VD, SV, SL, T, Nat.reduceEqDiff, Nat.reduceAdd, Nat.reduceSub, Nat.reduceMul, Nat.reduceLeDiff, Nat.reduceLT, reduceIte, d2, z0, Int.toNat_natCast]
    refine ⟨by omega, ?_⟩
    have hq0 : w.heap.size + 1 = (w.alloc tomb).heap.size := (alloc_size _ _).symm
    have hRo := RowsO.new (w := w.alloc tomb) B.length
    rw [← hq0] at hRo
    have hE0 := ((Ext.refl w).alloc tomb).alloc (.cells (Array.replicate B.length (.slice none 0 0)) 36)
    generalize (w.alloc tomb).alloc (.cells (Array.replicate B.length (.slice none 0 0)) 36) = w1 at *
    refine loop_cB (fun f' w' => f' 1 = .agg #[.slice ba B.length bc, .slice pa PV.length pc] ∧ f' 3 = .slice (some ⟨w.heap.size + 1, 0, none⟩) B.length B.length ∧ Ext w w' ∧ (BOkE B.length 0 B).isSome = true ∧ RowsO (w.heap.size + 1) w' (w.heap.size + 1) (prevOf (nx B)) ∧ rowsLe (prevOf (nx B)) (2 * B.length)) ?_ ?_
    · refine LoopP_intro (α := Nat) (fun i f' w' => f' 1 = .agg #[.slice ba B.length bc, .slice pa PV.length pc] ∧ f' 3 = .slice (some ⟨w.heap.size + 1, 0, none⟩) B.length B.length ∧ f' 27 = .slice ba B.length bc ∧ f' 28 = .int .i64 B.length ∧ f' 29 = .int .i64 i ∧ i ≤ B.length ∧ Ext w w' ∧ (∃ e, f' 4 = .int .i64 e ∧ BOkE B.length 0 (B.take i) = some e) ∧ RowsO (w.heap.size + 1) w' (w.heap.size + 1) (prevs (List.replicate B.length []) 0 (nx (B.take i))) ∧ rowsLe (prevs (List.replicate B.length []) 0 (nx (B.take i))) (2 * i)) (fun i => B.length - i) 0 ?_ ?_
      · simp only [VS, VD, SV, SL, T, Nat.reduceEqDiff, Nat.reduceAdd, Nat.reduceSub, Nat.reduceMul, Nat.reduceLeDiff, Nat.reduceLT, reduceIte]
        refine ⟨rfl, Nat.zero_le _, hE0, ⟨0, rfl, rfl⟩, hRo, fun l hl => ?_⟩
        have : l = [] := (List.mem_replicate.1 (show l ∈ List.replicate B.length [] from hl)).2
        simp [this]
      · rintro i f' w' ⟨f1, f3, f27, f28, f29, hi, hE, ⟨e, f4, he⟩, hR, hRl⟩
        simp only [VS, VD, SV, SL, T, Nat.reduceEqDiff, Nat.reduceAdd, Nat.reduceSub, Nat.reduceMul, Nat.reduceLeDiff, Nat.reduceLT, reduceIte, f28, f29]
        by_cases hlt : (i : Int) < B.length
        · rw [decide_eq_true hlt]
          have hi' : i < B.length := by omega
          obtain ⟨b, off, cs, et, fz, u, rfl, hb, hsz, hcs, hcu, hu⟩ := hb0.get hi'
          replace hb := hE.obj hb
          have htk : B.take (i + 1) = B.take i ++ [B[i]] := List.take_succ_eq_append_getElem hi'
          have hnx : nx (B.take (i + 1)) = nx (B.take i) ++ [B[i].2.2] := by rw [htk]; unfold nx; rw [List.map_append]; rfl
          have hbe : BOkE B.length 0 (B.take (i + 1)) = BOkE B.length e [B[i]] := by rw [htk, BOkE_append, he]; rfl
          have hall : BOkE B.length 0 B = (BOkE B.length 0 (B.take (i + 1))).bind fun e' => BOkE B.length e' (B.drop (i + 1)) := by rw [← BOkE_append, List.take_append_drop]
          obtain ⟨ua, uc, rfl⟩ := hu.form
          generalize hBi : B[i] = blk at *
          obtain ⟨x, y, l⟩ := blk
          simp only [] at hu hcs hnx
          have hbad : ¬ (e ≤ x ∧ x < y ∧ l.length ≤ 2 ∧ (∀ m ∈ l, 0 ≤ m ∧ m < (B.length : Int)) ∧ (l.length = 2 → l[0]? ≠ l[1]?)) → VG B PV = false := by
            intro hn
            have : BOkE B.length 0 (B.take (i + 1)) = none := by rw [hbe, BOkE, if_neg hn]
            rw [this] at hall
            simp only [Option.bind_none] at hall
            simp [VG, hall]
          have hE1 := hE.alloc tomb
          have hR1 := hR.ext ((Ext.refl w').alloc tomb)
          generalize hPi : prevs (List.replicate B.length []) 0 (nx (B.take i)) = PL at *
          have hPl : PL.length = B.length := by rw [← hPi, prevs_len]; simp
          have hPn : prevs (List.replicate B.length []) 0 (nx (B.take (i + 1))) = addP PL i l := by
            rw [hnx, prevs_snoc, hPi]
            congr 2
            unfold nx
            rw [List.length_map, List.length_take]
            omega
          simp only [VS, VD, SV, SL, T, Nat.reduceEqDiff, Nat.reduceAdd, Nat.reduceSub, Nat.reduceMul, Nat.reduceLeDiff, Nat.reduceLT, reduceIte, f27, f29, hb, hsz, hcs, Int.toNat_natCast, f4]
          refine ⟨by omega, ?_⟩
          generalize w'.alloc tomb = w2 at *
          by_cases c1 : x < e
          · rw [decide_eq_true c1]
            simp only [VS, VD, SV, SL, T, Nat.reduceEqDiff, Nat.reduceAdd, Nat.reduceSub, Nat.reduceMul, Nat.reduceLeDiff, Nat.reduceLT, reduceIte]
            exact hΨ _ _ ⟨by rw [hbad (by omega)], hE1⟩
          rw [decide_eq_false c1]
          simp only [VS, VD, SV, SL, T, Nat.reduceEqDiff, Nat.reduceAdd, Nat.reduceSub, Nat.reduceMul, Nat.reduceLeDiff, Nat.reduceLT, reduceIte]
          by_cases c2 : y ≤ x
          · rw [decide_eq_true c2]
            simp only [VS, VD, SV, SL, T, Nat.reduceEqDiff, Nat.reduceAdd, Nat.reduceSub, Nat.reduceMul, Nat.reduceLeDiff, Nat.reduceLT, reduceIte]
            exact hΨ _ _ ⟨by rw [hbad (by omega)], hE1⟩
          rw [decide_eq_false c2]
          simp only [VS, VD, SV, SL, T, Nat.reduceEqDiff, Nat.reduceAdd, Nat.reduceSub, Nat.reduceMul, Nat.reduceLeDiff, Nat.reduceLT, reduceIte]
          by_cases c3 : 2 < (l.length : Int)
          · rw [decide_eq_true c3]
            simp only [VS, VD, SV, SL, T, Nat.reduceEqDiff, Nat.reduceAdd, Nat.reduceSub, Nat.reduceMul, Nat.reduceLeDiff, Nat.reduceLT, reduceIte]
            exact hΨ _ _ ⟨by rw [hbad (by omega)], hE1⟩
          rw [decide_eq_false c3]
          simp only [VS, VD, SV, SL, T, Nat.reduceEqDiff, Nat.reduceAdd, Nat.reduceSub, Nat.reduceMul, Nat.reduceLeDiff, Nat.reduceLT, reduceIte]
          refine loop_cB (fun g w3 => g 1 = .agg #[.slice (some ⟨b, off, none⟩) B.length bc, .slice pa PV.length pc] ∧ g 3 = .slice (some ⟨w.heap.size + 1, 0, none⟩) B.length B.length ∧ g 27 = .slice (some ⟨b, off, none⟩) B.length bc ∧ g 28 = .int .i64 B.length ∧ g 29 = .int .i64 i ∧ g 4 = .int .i64 y ∧ g 6 = .agg #[.int .i64 x, .int .i64 y, .slice ua l.length uc] ∧ Ext w w3 ∧ RowsO (w.heap.size + 1) w3 (w.heap.size + 1) (addP PL i l) ∧ (∀ m ∈ l, 0 ≤ m ∧ m < (B.length : Int))) ?_ ?_
          · refine LoopP_intro (α := Nat) (fun j g w3 => g 1 = .agg #[.slice (some ⟨b, off, none⟩) B.length bc, .slice pa PV.length pc] ∧ g 3 = .slice (some ⟨w.heap.size + 1, 0, none⟩) B.length B.length ∧ g 27 = .slice (some ⟨b, off, none⟩) B.length bc ∧ g 28 = .int .i64 B.length ∧ g 29 = .int .i64 i ∧ g 4 = .int .i64 y ∧ g 5 = .int .i64 i ∧ g 6 = .agg #[.int .i64 x, .int .i64 y, .slice ua l.length uc] ∧ g 54 = .slice ua l.length uc ∧ g 55 = .int .i64 l.length ∧ g 56 = .int .i64 j ∧ j ≤ l.length ∧ Ext w w3 ∧ RowsO (w.heap.size + 1) w3 (w.heap.size + 1) (addP PL i (l.take j)) ∧ (∀ m ∈ l.take j, 0 ≤ m ∧ m < (B.length : Int))) (fun j => l.length - j) 0 ?_ ?_
            · simp only [VS, VD, SV, SL, T, Nat.reduceEqDiff, Nat.reduceAdd, Nat.reduceSub, Nat.reduceMul, Nat.reduceLeDiff, Nat.reduceLT, reduceIte, f1, f3, f27, f28, f29]
              exact ⟨rfl, Nat.zero_le _, hE1, hR1, fun m hm => by cases hm⟩
            · rintro j g w3 ⟨g1, g3, g27, g28, g29, g4, g5, g6, g54, g55, g56, hj, hE3, hR3, hm3⟩
              simp only [VS, VD, SV, SL, T, Nat.reduceEqDiff, Nat.reduceAdd, Nat.reduceSub, Nat.reduceMul, Nat.reduceLeDiff, Nat.reduceLT, reduceIte, g55, g56]
              by_cases hjl : (j : Int) < l.length
              · rw [decide_eq_true hjl]
                have hj' : j < l.length := by omega
                obtain ⟨bu, ou, cu, eu, fu, rfl, _, hbu, hcu'⟩ := (hu.ext hE3).get (i := j) (x := l[j]) (by simp [hj'])
                have htl : l.take (j + 1) = l.take j ++ [l[j]] := List.take_succ_eq_append_getElem hj'
                have hmem : l[j] ∈ l := List.getElem_mem hj'
                generalize hn : l[j] = n at *
                simp only [VS, VD, SV, SL, T, Nat.reduceEqDiff, Nat.reduceAdd, Nat.reduceSub, Nat.reduceMul, Nat.reduceLeDiff, Nat.reduceLT, reduceIte, g54, g56, hbu, hcu', Int.toNat_natCast]
                refine ⟨by omega, ?_⟩
                by_cases c4 : n < 0
                · rw [decide_eq_true c4]
                  simp only [VS, VD, SV, SL, T, Nat.reduceEqDiff, Nat.reduceAdd, Nat.reduceSub, Nat.reduceMul, Nat.reduceLeDiff, Nat.reduceLT, reduceIte]
                  exact hΨ _ _ ⟨by rw [hbad (fun q => by have := q.2.2.2.1 n hmem; omega)], hE3⟩
                rw [decide_eq_false c4]
                simp only [VS, VD, SV, SL, T, Nat.reduceEqDiff, Nat.reduceAdd, Nat.reduceSub, Nat.reduceMul, Nat.reduceLeDiff, Nat.reduceLT, reduceIte, g1]
                by_cases c5 : (B.length : Int) ≤ n
                · rw [decide_eq_true c5]
                  simp only [VS, VD, SV, SL, T, Nat.reduceEqDiff, Nat.reduceAdd, Nat.reduceSub, Nat.reduceMul, Nat.reduceLeDiff, Nat.reduceLT, reduceIte]
                  exact hΨ _ _ ⟨by rw [hbad (fun q => by have := q.2.2.2.1 n hmem; omega)], hE3⟩
                rw [decide_eq_false c5]
                obtain ⟨m, rfl⟩ := Int.eq_ofNat_of_zero_le (show 0 ≤ n by omega)
                have hml : m < (addP PL i (l.take j)).length := by rw [addP_len]; omega
                obtain ⟨us, v0, hq3, hus, hv0, hI0⟩ := hR3.at hml
                have hrl := addP_le i (l.take j) PL _ hRl _ (List.getElem_mem hml)
                rw [List.length_take] at hrl
                simp only [VS, VD, SV, SL, T, Nat.reduceEqDiff, Nat.reduceAdd, Nat.reduceSub, Nat.reduceMul, Nat.reduceLeDiff, Nat.reduceLT, reduceIte, g3, g5, hq3, hv0, Int.toNat_natCast]
                refine ⟨by omega, ?_⟩
                refine app_int hI0 (by omega) (by have := hR3.lt; omega) i ?_
                intro v' w4 ho4 hg4 hnew
                obtain ⟨va, vcp, rfl⟩ := own_form ho4
                obtain ⟨hq4, hR4⟩ := hR3.app hml hq3 hv0 ho4 hg4 hnew
                have hE4 := hE3.grownO hI0 (by omega) hg4
                simp only [VS, VD, SV, SL, T, Nat.reduceEqDiff, Nat.reduceAdd, Nat.reduceSub, Nat.reduceMul, Nat.reduceLeDiff, Nat.reduceLT, reduceIte, g3, hq4, Int.toNat_natCast]
                have hset : addP PL i (l.take (j + 1)) = (addP PL i (l.take j)).set m ((addP PL i (l.take j))[m] ++ [(i : Int)]) := by
                  rw [htl, addP_snoc, Int.toNat_natCast, List.getD_eq_getElem?_getD, List.getElem?_eq_getElem hml]
                  rfl
                simp only [VS, VD, SV, SL, T, Nat.reduceEqDiff, Nat.reduceAdd, Nat.reduceSub, Nat.reduceMul, Nat.reduceLeDiff, Nat.reduceLT, reduceIte, g1, g3, g27, g28, g29, g4, g5, g6, g54, g55, g56]
                refine ⟨by omega, by rw [hus, addP_len]; omega, by omega, j + 1, ⟨by simp, by omega, hE4.putb (by omega) _, by rw [hset]; exact hR4, fun z hz => ?_⟩, by omega⟩
                rw [htl] at hz
                rcases List.mem_append.1 hz with hz | hz
                · exact hm3 z hz
                · simp only [List.mem_singleton] at hz
                  subst hz
                  omega
              · rw [decide_eq_false hjl]
                obtain rfl : j = l.length := by omega
                rw [List.take_length] at *
                simp only [VS, VD, SV, SL, T, Nat.reduceEqDiff, Nat.reduceAdd, Nat.reduceSub, Nat.reduceMul, Nat.reduceLeDiff, Nat.reduceLT, reduceIte, g1, g3, g27, g28, g29, g4, g6]
                exact ⟨hE3, hR3, hm3⟩
          · rintro g w3 ⟨g1, g3, g27, g28, g29, g4, g6, hE3, hR3, hm3⟩
            simp only [VS, VD, SV, SL, T, Nat.reduceEqDiff, Nat.reduceAdd, Nat.reduceSub, Nat.reduceMul, Nat.reduceLeDiff, Nat.reduceLT, reduceIte]
            refine DW_c (fun g' w4 => g' 1 = g 1 ∧ g' 3 = g 3 ∧ g' 27 = g 27 ∧ g' 28 = g 28 ∧ g' 29 = g 29 ∧ g' 4 = g 4 ∧ g' 94 = .bool (decide (¬ (l.length = 2 → l[0]? ≠ l[1]?))) ∧ Ext w3 w4) ?_ ?_
            · refine DW_intro (fun _ _ _ _ => True) ?_
              by_cases c6 : (l.length : Int) = 2
              · have d6 : decide ((l.length : Int) = 2) = true := decide_eq_true c6
                obtain ⟨bu, ou, cu, eu, fu, rfl, _, hbu, hc0⟩ := (hu.ext hE3).get (i := 0) (x := l[0]'(by omega)) (by simp)
                obtain ⟨bu', ou', cu', eu', fu', e1, _, hbu', hc1⟩ := (hu.ext hE3).get (i := 1) (x := l[1]'(by omega)) (by simp)
                simp only [Option.some.injEq, Addr.mk.injEq, and_true] at e1
                obtain ⟨rfl, rfl⟩ := e1
                rw [hbu] at hbu'
                simp only [Option.some.injEq, Obj.cells.injEq] at hbu'
                obtain ⟨rfl, rfl, rfl⟩ := hbu'
                rw [Nat.add_zero] at hc0
                have t0 : (0 : Int).toNat = 0 := rfl
                have t1 : (1 : Int).toNat = 1 := rfl
                simp only [VS, VD, SV, SL, T, Nat.reduceEqDiff, Nat.reduceAdd, Nat.reduceSub, Nat.reduceMul, Nat.reduceLeDiff, Nat.reduceLT, reduceIte, g6, d6, hbu, hc0, hc1, t0, t1, Nat.add_zero]
                refine ⟨by omega, by omega, ?_⟩
                intro w4 hE4 _
                simp only [VS, VD, SV, SL, T, Nat.reduceEqDiff, Nat.reduceAdd, Nat.reduceSub, Nat.reduceMul, Nat.reduceLeDiff, Nat.reduceLT, reduceIte]
                refine ⟨?_, hE4⟩
                have e2 : l.length = 2 := by omega
                rw [List.getElem?_eq_getElem (show 0 < l.length by omega), List.getElem?_eq_getElem (show 1 < l.length by omega)]
                congr 1
                simp [e2]
              · have d6 : decide ((l.length : Int) = 2) = false := decide_eq_false c6
                simp only [VS, VD, SV, SL, T, Nat.reduceEqDiff, Nat.reduceAdd, Nat.reduceSub, Nat.reduceMul, Nat.reduceLeDiff, Nat.reduceLT, reduceIte, g6, d6]
                intro w4 hE4 _
                simp only [VS, VD, SV, SL, T, Nat.reduceEqDiff, Nat.reduceAdd, Nat.reduceSub, Nat.reduceMul, Nat.reduceLeDiff, Nat.reduceLT, reduceIte]
                refine ⟨?_, hE4⟩
                have : ¬ l.length = 2 := by omega
                simp [this]
            · rintro g' w4 ⟨k1, k3, k27, k28, k29, k4, k94, hE4⟩
              simp only [VS, VD, SV, SL, T, Nat.reduceEqDiff, Nat.reduceAdd, Nat.reduceSub, Nat.reduceMul, Nat.reduceLeDiff, Nat.reduceLT, reduceIte, k94]
              by_cases hd : l.length = 2 → l[0]? ≠ l[1]?
              · have d7 : decide (¬ (l.length = 2 → l[0]? ≠ l[1]?)) = false := decide_eq_false (fun q => q hd)
                rw [d7]
                simp only [VS, VD, SV, SL, T, Nat.reduceEqDiff, Nat.reduceAdd, Nat.reduceSub, Nat.reduceMul, Nat.reduceLeDiff, Nat.reduceLT, reduceIte, k1, k3, k27, k28, k29, k4, g1, g3, g27, g28, g29, g4]
                refine ⟨by omega, i + 1, ⟨by simp, by omega, hE3.trans hE4, ⟨y, rfl, ?_⟩, by rw [hPn]; exact hR3.ext hE4, ?_⟩, by omega⟩
                · rw [hbe, BOkE, if_pos ⟨by simp only []; omega, by simp only []; omega, by simp only []; omega, hm3, hd⟩]; rfl
                · rw [hPn]
                  intro z hz
                  have := addP_le i l PL _ hRl z hz
                  omega
              · have d7 : decide (¬ (l.length = 2 → l[0]? ≠ l[1]?)) = true := decide_eq_true hd
                rw [d7]
                simp only [VS, VD, SV, SL, T, Nat.reduceEqDiff, Nat.reduceAdd, Nat.reduceSub, Nat.reduceMul, Nat.reduceLeDiff, Nat.reduceLT, reduceIte]
                exact hΨ _ _ ⟨by rw [hbad (fun q => hd q.2.2.2.2)], hE3.trans hE4⟩
        · rw [decide_eq_false hlt]
          obtain rfl : i = B.length := by omega
          rw [List.take_length] at *
          simp only [VS, VD, SV, SL, T, Nat.reduceEqDiff, Nat.reduceAdd, Nat.reduceSub, Nat.reduceMul, Nat.reduceLeDiff, Nat.reduceLT, reduceIte, f1, f3]
          refine ⟨hE, by rw [he]; rfl, ?_, ?_⟩
          · have : prevOf (nx B) = prevs (List.replicate B.length []) 0 (nx B) := by unfold prevOf nx; rw [List.length_map]
            rw [this]; exact hR
          · have : prevOf (nx B) = prevs (List.replicate B.length []) 0 (nx B) := by unfold prevOf nx; rw [List.length_map]
            rw [this]; exact hRl
    · rintro f3 w3 ⟨g1, g3, hE3, hok, hR, hRl⟩
      have hln : (prevOf (nx B)).length = B.length := by unfold prevOf; rw [prevs_len]; simp [nx]
      have hIs := hR.intss (c := B.length)
      rw [hln] at hIs
      simp only [VS, VD, SV, SL, T, Nat.reduceEqDiff, Nat.reduceAdd, Nat.reduceSub, Nat.reduceMul, Nat.reduceLeDiff, Nat.reduceLT, reduceIte, g1, g3]
      refine (EqualFunc_spec _ _ (prevOf (nx B)) PV (by omega) (fun l hl => by have := hRl l hl; omega) w3 hIs (hp0.ext hE3)).mono ?_
      rintro _ w4 ⟨rfl, hE4⟩
      simp only [VS, VD, SV, SL, T, Nat.reduceEqDiff, Nat.reduceAdd, Nat.reduceSub, Nat.reduceMul, Nat.reduceLeDiff, Nat.reduceLT, reduceIte]
      refine hΨ _ _ ⟨?_, hE3.trans hE4⟩
      have h2' : PV.length = B.length := by omega
      simp [VG, hne, h2', hok]
end Go.Proofs.Ytlhlbiaibgmapaa
