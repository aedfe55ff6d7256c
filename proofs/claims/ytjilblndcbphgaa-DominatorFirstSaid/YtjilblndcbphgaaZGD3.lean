/-
  First: the walk of the statement.
-/
import Derived.Test.YtjilblndcbphgaaZGD1
set_option linter.unusedSimpArgs false
set_option linter.unusedVariables false
namespace Go.Proofs.Ytjilblndcbphgaa
open Go.W Go.RowKit
/-- how many blocks ahead of k are reached -/
def cnt (N : List (List Int)) (k : Nat) : Nat := ((List.range k).filter (rch N (-1))).length
theorem cnt_succ (N : List (List Int)) (k : Nat) : cnt N (k + 1) = cnt N k + if rch N (-1) k = true then 1 else 0 := by
  unfold cnt
  rw [List.range_succ, List.filter_append, List.length_append]
  congr 1
  cases h : rch N (-1) k <;> simp [h]
theorem cnt_le (N : List (List Int)) (k : Nat) : cnt N k ≤ k := by
  unfold cnt
  have := List.length_filter_le (rch N (-1)) (List.range k)
  rwa [List.length_range] at this
theorem cnt_all {N : List (List Int)} (hN : NOk N) (h0 : 0 < N.length) : cnt N N.length = (ord N).length := by
  have h1 : (((List.range N.length).filter (rch N (-1))).map Int.ofNat).Nodup := by
    unfold List.Nodup
    rw [List.pairwise_map]
    exact (List.nodup_range.filter _).imp fun h e => h (Int.ofNat.inj e)
  have h2 := ord_nodup hN h0
  have e1 : cnt N N.length = (((List.range N.length).filter (rch N (-1))).map Int.ofNat).length := by rw [List.length_map]; rfl
  rw [e1]
  apply Nat.le_antisymm
  · refine nodup_len h1 fun x hx => ?_
    obtain ⟨y, hy, rfl⟩ := List.mem_map.1 hx
    rw [List.mem_filter] at hy
    exact mem_ord.2 ((rch_re hN h0).1 hy.2)
  · refine nodup_len h2 fun x hx => ?_
    have hx' := mem_ord.1 hx
    obtain ⟨k1, k2⟩ := lv_rng hN h0 hx'
    refine List.mem_map.2 ⟨x.toNat, ?_, Int.toNat_of_nonneg k1⟩
    rw [List.mem_filter, List.mem_range]
    refine ⟨k2, (rch_re hN h0).2 ?_⟩
    show ((x.toNat : Nat) : Int) ∈ lv N
    rwa [Int.toNat_of_nonneg k1]
/-- the places that have been noted -/
def atA (N : List (List Int)) (i x : Nat) : Int := if (x : Int) ∈ lv N ∧ PO N x < i then (PO N x : Int) + 1 else 0
set_option maxRecDepth 10000 in
theorem DominatorFirst_spec (gv : Value) (B : List Blk) (PV : List (List Int)) (w : World) (h : GrAt w gv B PV) (hl : B.length ≤ maxLen) : VRet Try.prog 5 #[gv] w fun v w' => v = .bool true ∧ Ext w w' := by
  have hml : B.length ≤ 9223372036854775807 := by unfold maxLen at hl; omega
  obtain ⟨bs, pv, rfl, hb0, hp0⟩ := h
  obtain ⟨ba, bc, rfl⟩ := hb0.form
  obtain ⟨pa, pc, rfl⟩ := hp0.form'
  refine VRet_start T.mo ok5 rfl fun Ψ hΨ => ?_; simp only [vc5, rs5]
  simp only [VS, VD, SV, SL, T, Nat.reduceEqDiff, Nat.reduceAdd, Nat.reduceSub, Nat.reduceMul, Nat.reduceLeDiff, Nat.reduceLT, reduceIte]
  refine (awake_spec _).mono ?_
  rintro _ w1 ⟨rfl, hE1⟩
  replace hE1 := ((Ext.refl w).alloc tomb).trans hE1
  simp only [VS, VD, SV, SL, T, Nat.reduceEqDiff, Nat.reduceAdd, Nat.reduceSub, Nat.reduceMul, Nat.reduceLeDiff, Nat.reduceLT, reduceIte, Bool.not_true]
  refine (next_spec _ B PV hml w1 ⟨_, _, rfl, hb0.ext hE1, hp0.ext hE1⟩).mono ?_
  rintro _ w2 ⟨hE2, hc⟩
  replace hE2 := hE1.trans hE2
  have hG : GrAt w2 (.agg #[.slice ba B.length bc, .slice pa PV.length pc]) B PV := ⟨_, _, rfl, hb0.ext hE2, hp0.ext hE2⟩
  rcases hc with ⟨hbad, rfl⟩ | ⟨h14, hV, nv, rfl, hNv⟩
  · simp only [VS, VD, SV, SL, T, Nat.reduceEqDiff, Nat.reduceAdd, Nat.reduceSub, Nat.reduceMul, Nat.reduceLeDiff, Nat.reduceLT, reduceIte, Bool.not_false]
    exact hΨ _ _ ⟨rfl, hE2⟩
  · have hNV := VG_nv hV
    have hNl : (nx B).length = B.length := by unfold nx; rw [List.length_map]
    have hN := hNV.ok
    have hN0 := hNV.pos
    obtain ⟨t, hg⟩ := gg_of hN hN0
    have hol := ord_le hN hN0
    have hop : 0 < (ord (nx B)).length := by
      have := (lv_len hN hN0).2
      unfold ord
      rw [List.length_reverse]
      exact this
    obtain ⟨na, nc, rfl⟩ := hNv.form'
    simp only [VS, VD, SV, SL, T, Nat.reduceEqDiff, Nat.reduceAdd, Nat.reduceSub, Nat.reduceMul, Nat.reduceLeDiff, Nat.reduceLT, reduceIte, Bool.not_true]
    refine DW_intro (fun n _ v w' => match n with | 1 => ∃ g cap, v = .slice (some ⟨g, 0, none⟩) (ord (nx B)).length cap ∧ IntsAt w' v (ord (nx B)) | 3 => ∃ F g cap, v = .slice (some ⟨g, 0, none⟩) B.length cap ∧ IntsAt w' v (tl B.length F) ∧ TreeOk (nx B) F | _ => True) ?_
    simp only [VS, VD, SV, SL, T, Nat.reduceEqDiff, Nat.reduceAdd, Nat.reduceSub, Nat.reduceMul, Nat.reduceLeDiff, Nat.reduceLT, reduceIte]
    refine rY_ph rfl rfl (fun _ _ _ ⟨g, c, k1, k2⟩ hE => ⟨g, c, k1, k2.ext hE⟩) (fun w3 hE3 _ => ?_) ?_
    · simp only [VS, VD, SV, SL, T, Nat.reduceEqDiff, Nat.reduceAdd, Nat.reduceSub, Nat.reduceMul, Nat.reduceLeDiff, Nat.reduceLT, reduceIte]
      refine (Order_spec _ B PV (by omega) w3 (hG.ext hE3)).mono ?_
      rintro v w4 ⟨hE4, _, h3⟩
      obtain ⟨g, cap, rfl, _, _, hI⟩ := h3 hV
      exact ⟨hE4, g, cap, rfl, hI⟩
    rintro v1 ⟨_, _, _, og, oc, rfl, _⟩
    simp only [VS, VD, SV, SL, T, Nat.reduceEqDiff, Nat.reduceAdd, Nat.reduceSub, Nat.reduceMul, Nat.reduceLeDiff, Nat.reduceLT, reduceIte]
    refine rY_ph rfl rfl (fun _ _ _ ⟨F, g, c, k1, k2, k3⟩ hE => ⟨F, g, c, k1, k2.ext hE, k3⟩) (fun w3 hE3 _ => ?_) ?_
    · simp only [VS, VD, SV, SL, T, Nat.reduceEqDiff, Nat.reduceAdd, Nat.reduceSub, Nat.reduceMul, Nat.reduceLeDiff, Nat.reduceLT, reduceIte]
      refine (Tree_spec _ B PV (by omega) w3 (hG.ext hE3)).mono ?_
      rintro v w4 ⟨hE4, _, h3⟩
      obtain ⟨F, g, cap, rfl, _, hI, hT⟩ := h3 hV
      exact ⟨hE4, F, g, cap, rfl, hI, hT⟩
    rintro v3 ⟨_, _, _, _, ig, ic, rfl, _⟩
    simp only [VS, VD, SV, SL, T, Nat.reduceEqDiff, Nat.reduceAdd, Nat.reduceSub, Nat.reduceMul, Nat.reduceLeDiff, Nat.reduceLT, reduceIte]
    intro w3 hE3 hF
    have h1 := hF 1
    have h3 := hF 3
    simp only [updF] at h1 h3
    obtain ⟨_, _, e1, hO⟩ := h1
    obtain ⟨F, _, _, e3, hI, hT⟩ := h3
    simp only [VS, VD, SV, SL, T, Nat.reduceEqDiff, Nat.reduceAdd, Nat.reduceSub, Nat.reduceMul, Nat.reduceLeDiff, Nat.reduceLT, reduceIte]
    refine (Reach_spec hN hN0 (by omega) hNV.two _ (-1) w3 (hNv.ext hE3)).mono ?_
    rintro _ w4 ⟨⟨q, rfl, hBB⟩, hE4⟩
    replace hO := hO.ext hE4
    replace hI := hI.ext hE4
    replace hE4 := (hE2.trans hE3).trans hE4
    generalize hNN : nx B = N at *
    obtain ⟨b0, h00, _, hp00, _⟩ := ord_get hN hN0 hop
    obtain rfl : b0 = 0 := by
      apply Classical.byContradiction
      intro hne
      have := pos_ne hg (by assumption) hne
      omega
    obtain ⟨ob, oo, ocs, oe, ofz, q1, _, hob, hoc0⟩ := hO.get (i := 0) (x := ((0 : Nat) : Int)) h00
    simp only [Option.some.injEq, Addr.mk.injEq, and_true] at q1
    obtain ⟨rfl, rfl⟩ := q1
    rw [Nat.zero_add] at hoc0
    have t0 : (0 : Int).toNat = 0 := rfl
    have z0 : #[Value.int IntKind.i64 0][0]! = Value.int .i64 0 := rfl
    have d1 : decide (((ord N).length : Int) = 0) = false := decide_eq_false (by omega)
    have d2 : decide (¬ ((0 : Nat) : Int) = 0) = false := by decide
    have d3 : decide (¬ ((B.length : Nat) : Int) = B.length) = false := by simp
    simp only [VS, VD, SV, SL, T, Nat.reduceEqDiff, Nat.reduceAdd, Nat.reduceSub, Nat.reduceMul, Nat.reduceLeDiff, Nat.reduceLT, reduceIte, d1, hob, hoc0, t0, d2, hNl, d3, Int.toNat_natCast, z0]
    refine ⟨by omega, by omega, ?_⟩
    have hEz := (Ext.refl w4).alloc (.cells (Array.replicate B.length (.int .i64 0)) 3)
    have hI0 : IB (w4.alloc (.cells (Array.replicate B.length (.int .i64 0)) 3)) w4.heap.size B.length (atA N 0) := ⟨_, alloc_get_new _ _, by simp, fun i hi => by simp [hi, atA]⟩
    have hsz : w4.heap.size < (w4.alloc (.cells (Array.replicate B.length (.int .i64 0)) 3)).heap.size := by rw [alloc_size]; omega
    generalize w4.alloc (.cells (Array.replicate B.length (.int .i64 0)) 3) = w5 at *
    refine loop_cB (fun g w' => g 3 = .slice na B.length nc ∧ g 5 = .slice (some ⟨og, 0, none⟩) (ord N).length oc ∧ g 6 = .slice (some ⟨ig, 0, none⟩) B.length ic ∧ g 7 = .slice (some ⟨q, 0, none⟩) B.length B.length ∧ g 8 = .slice (some ⟨w4.heap.size, 0, none⟩) B.length B.length ∧ Ext w4 w' ∧ IB w' w4.heap.size B.length (atA N (ord N).length)) ?_ ?_
    · refine LoopP_intro (α := Nat) (fun i g w' => g 3 = .slice na B.length nc ∧ g 5 = .slice (some ⟨og, 0, none⟩) (ord N).length oc ∧ g 6 = .slice (some ⟨ig, 0, none⟩) B.length ic ∧ g 7 = .slice (some ⟨q, 0, none⟩) B.length B.length ∧ g 8 = .slice (some ⟨w4.heap.size, 0, none⟩) B.length B.length ∧ g 9 = .int .i64 i ∧ i ≤ (ord N).length ∧ Ext w4 w' ∧ IB w' w4.heap.size B.length (atA N i)) (fun i => (ord N).length - i) 0 ?_ ?_
      · simp only [VS, VD, SV, SL, T, Nat.reduceEqDiff, Nat.reduceAdd, Nat.reduceSub, Nat.reduceMul, Nat.reduceLeDiff, Nat.reduceLT, reduceIte]
        exact ⟨rfl, Nat.zero_le _, hEz, hI0⟩
      · rintro i g w' ⟨g3, g5, g6, g7, g8, g9, hi, hE, hA⟩
        simp only [VS, VD, SV, SL, T, Nat.reduceEqDiff, Nat.reduceAdd, Nat.reduceSub, Nat.reduceMul, Nat.reduceLeDiff, Nat.reduceLT, reduceIte, g5, g9]
        by_cases hlt : (i : Int) < (ord N).length
        · rw [decide_eq_true hlt]
          have hi' : i < (ord N).length := by omega
          obtain ⟨b, hbi, hbR, hbp, hbn⟩ := ord_get hN hN0 hi'
          obtain ⟨ob, oo, ocs', oe', ofz', q1, _, hob', hocb⟩ := (hO.ext hE).get (i := i) (x := (b : Int)) hbi
          simp only [Option.some.injEq, Addr.mk.injEq, and_true] at q1
          obtain ⟨rfl, rfl⟩ := q1
          rw [Nat.zero_add] at hocb
          obtain ⟨cs, hq, hqs, hqv⟩ := hBB.ext hE
          have hqb := hqv b hbn
          rw [(rch_re hN hN0).2 hbR] at hqb
          obtain ⟨acs, ha, has, hav⟩ := hA
          have hab := hav b (by omega)
          have hab0 : atA N i b = 0 := by unfold atA; rw [if_neg (by omega)]
          rw [hab0] at hab
          have c1 : decide ((b : Int) < 0) = false := decide_eq_false (by omega)
          have c2 : decide ((B.length : Int) ≤ b) = false := decide_eq_false (by omega)
          have c3 : decide ((0 : Int) < 0) = false := by decide
          have hal := get_lt ha
          have hA2 := IB.set (w := w') hal has hav b ((i : Int) + 1)
          simp only [VS, VD, SV, SL, T, Nat.reduceEqDiff, Nat.reduceAdd, Nat.reduceSub, Nat.reduceMul, Nat.reduceLeDiff, Nat.reduceLT, reduceIte, g3, g5, g6, g7, g8, g9, hob', hocb, hq, hqb, ha, hab, c1, c2, c3, Bool.not_true, Int.toNat_natCast]
          refine ⟨by omega, by omega, by omega, by omega, by omega, by omega, by omega, i + 1, ⟨by simp, by omega, hE.putb (Nat.le_refl _) _, hA2.congr fun j _ => ?_⟩, by omega⟩
          unfold atA
          by_cases e : j = b
          · subst e
            rw [if_pos rfl, if_pos ⟨hbR, by omega⟩, hbp]
          · rw [if_neg e]
            by_cases hj : (j : Int) ∈ lv N ∧ PO N j < i
            · rw [if_pos hj, if_pos ⟨hj.1, by omega⟩]
            · rw [if_neg hj, if_neg]
              rintro ⟨k1, k2⟩
              by_cases e2 : PO N j = i
              · exact e (hg.inj j b k1 hbR (by omega))
              · exact hj ⟨k1, by omega⟩
        · rw [decide_eq_false hlt]
          obtain rfl : i = (ord N).length := by omega
          simp only [VS, VD, SV, SL, T, Nat.reduceEqDiff, Nat.reduceAdd, Nat.reduceSub, Nat.reduceMul, Nat.reduceLeDiff, Nat.reduceLT, reduceIte, g3, g5, g6, g7, g8]
          exact ⟨hE, hA⟩
    · rintro g w6 ⟨g3, g5, g6, g7, g8, hE6, hA⟩
      simp only [VS, VD, SV, SL, T, Nat.reduceEqDiff, Nat.reduceAdd, Nat.reduceSub, Nat.reduceMul, Nat.reduceLeDiff, Nat.reduceLT, reduceIte]
      refine LoopP_intro (α := Nat) (fun b g w' => g 3 = .slice na B.length nc ∧ g 5 = .slice (some ⟨og, 0, none⟩) (ord N).length oc ∧ g 6 = .slice (some ⟨ig, 0, none⟩) B.length ic ∧ g 7 = .slice (some ⟨q, 0, none⟩) B.length B.length ∧ g 8 = .slice (some ⟨w4.heap.size, 0, none⟩) B.length B.length ∧ g 11 = .int .i64 (cnt N b) ∧ g 12 = .int .i64 b ∧ b ≤ B.length ∧ Ext w6 w') (fun b => B.length - b) 0 ?_ ?_
      · simp only [VS, VD, SV, SL, T, Nat.reduceEqDiff, Nat.reduceAdd, Nat.reduceSub, Nat.reduceMul, Nat.reduceLeDiff, Nat.reduceLT, reduceIte, g3, g5, g6, g7, g8]
        exact ⟨rfl, rfl, Nat.zero_le _, Ext.refl _⟩
      · clear g3 g5 g6 g7 g8 g
        rintro b g w' ⟨g3, g5, g6, g7, g8, g11, g12, hb, hE⟩
        simp only [VS, VD, SV, SL, T, Nat.reduceEqDiff, Nat.reduceAdd, Nat.reduceSub, Nat.reduceMul, Nat.reduceLeDiff, Nat.reduceLT, reduceIte, g3, g12]
        have hcs := cnt_succ N b
        have hcl := cnt_le N b
        by_cases hlt : (b : Int) < B.length
        · rw [decide_eq_true hlt]
          have hb' : b < B.length := by omega
          obtain ⟨cs, hq, hqs, hqv⟩ := hBB.ext (hE6.trans hE)
          have hqb := hqv b (by omega)
          cases hr : rch N (-1) b with
          | false =>
            rw [hr] at hqb hcs
            simp only [VS, VD, SV, SL, T, Nat.reduceEqDiff, Nat.reduceAdd, Nat.reduceSub, Nat.reduceMul, Nat.reduceLeDiff, Nat.reduceLT, reduceIte, g3, g5, g6, g7, g8, g11, g12, hq, hqb, Bool.not_false, Int.toNat_natCast]
            refine ⟨by omega, by omega, b + 1, ⟨by rw [hcs]; simp, by simp, by omega, hE⟩, by omega⟩
          | true =>
            rw [hr] at hqb hcs
            have hR := (rch_re hN hN0).1 hr
            simp only [VS, VD, SV, SL, T, Nat.reduceEqDiff, Nat.reduceAdd, Nat.reduceSub, Nat.reduceMul, Nat.reduceLeDiff, Nat.reduceLT, reduceIte, g7, g11, g12, hq, hqb, Bool.not_true, Int.toNat_natCast]
            refine ⟨by omega, by omega, ?_⟩
            by_cases hb0 : (b : Int) = 0
            · rw [decide_eq_true hb0]
              simp only [VS, VD, SV, SL, T, Nat.reduceEqDiff, Nat.reduceAdd, Nat.reduceSub, Nat.reduceMul, Nat.reduceLeDiff, Nat.reduceLT, reduceIte, g3, g5, g6, g7, g8, g12]
              refine ⟨by omega, b + 1, ⟨by rw [hcs]; simp, by simp, by omega, hE⟩, by omega⟩
            · rw [decide_eq_false hb0]
              obtain ⟨x, ex, hRx, hxl, _⟩ := hT.wf.lt b (hT.all b hR (by omega))
              have hxn := RE.lt hN hN0 hRx
              obtain ⟨ib, io, ics, ie, ifz, q1, _, hib, hic⟩ := (hI.ext (hE6.trans hE)).get (i := b) (x := F b) (by simp [hb'])
              simp only [Option.some.injEq, Addr.mk.injEq, and_true] at q1
              obtain ⟨rfl, rfl⟩ := q1
              rw [Nat.zero_add, ex] at hic
              obtain ⟨acs, ha, has, hav⟩ := hA.ext hE
              have hab := hav b hb'
              have hax := hav x (by omega)
              have e1 : atA N (ord N).length b = (PO N b : Int) + 1 := by unfold atA; rw [if_pos ⟨hR, PO_lt hR⟩]
              have e2 : atA N (ord N).length x = (PO N x : Int) + 1 := by unfold atA; rw [if_pos ⟨hRx, PO_lt hRx⟩]
              rw [e1] at hab
              rw [e2] at hax
              have c1 : decide ((x : Int) < 0) = false := decide_eq_false (by omega)
              have c2 : decide ((B.length : Int) ≤ x) = false := decide_eq_false (by omega)
              have c3 : decide ((PO N x : Int) + 1 = 0) = false := decide_eq_false (by omega)
              have c4 : decide ((PO N b : Int) + 1 ≤ (PO N x : Int) + 1) = false := decide_eq_false (by omega)
              simp only [VS, VD, SV, SL, T, Nat.reduceEqDiff, Nat.reduceAdd, Nat.reduceSub, Nat.reduceMul, Nat.reduceLeDiff, Nat.reduceLT, reduceIte]
              refine DW_intro (fun _ _ _ _ => True) ?_
              simp only [VS, VD, SV, SL, T, Nat.reduceEqDiff, Nat.reduceAdd, Nat.reduceSub, Nat.reduceMul, Nat.reduceLeDiff, Nat.reduceLT, reduceIte, g3, g6, g8, g12, hib, hic, ha, hab, hax, c1, c2, c3, Int.toNat_natCast]
              refine ⟨by omega, by omega, by omega, by omega, by omega, by omega, by omega, ?_⟩
              intro w7 hE7 _
              simp only [VS, VD, SV, SL, T, Nat.reduceEqDiff, Nat.reduceAdd, Nat.reduceSub, Nat.reduceMul, Nat.reduceLeDiff, Nat.reduceLT, reduceIte, c4, g3, g5, g6, g7, g8, g12]
              refine ⟨by omega, b + 1, ⟨by rw [hcs]; simp, by simp, by omega, hE.trans hE7⟩, by omega⟩
        · rw [decide_eq_false hlt]
          obtain rfl : b = B.length := by omega
          have : cnt N B.length = (ord N).length := by rw [← hNl]; exact cnt_all hN hN0
          rw [this] at g11
          simp only [VS, VD, SV, SL, T, Nat.reduceEqDiff, Nat.reduceAdd, Nat.reduceSub, Nat.reduceMul, Nat.reduceLeDiff, Nat.reduceLT, reduceIte, g5, g11]
          refine hΨ _ _ ⟨by simp, (hE4.trans hE6).trans hE⟩
end Go.Proofs.Ytjilblndcbphgaa
