/-
  LoopsHeaders: the walk.
-/
import Derived.Test.YtlhlbiaibgmapaaZLC2
import Derived.Test.YtlhlbiaibgmapaaZLP5
set_option linter.unusedSimpArgs false
set_option linter.unusedVariables false
namespace Go.Proofs.Ytlhlbiaibgmapaa
open Go.W Go.RowKit
/-- a loop of the list -/
theorem fnd_get {N : List (List Int)} (hN : NOk N) {i : Nat} (hi : i < (fnd N).length) : ∃ (h : Nat) (p : Int), (fnd N)[i] = ((h : Int), ascL N.length (bdS N h (lat N h)), lat N h, p) ∧ h < N.length ∧ lat N h ≠ [] ∧ (hsL N)[i]? = some (h : Int) ∧ p = parN N i := by
  have hi' : i < (hsL N).length := by unfold fnd at hi; rw [lstF_len] at hi; exact hi
  have h1 := lstF_get (N := N) (i := (hsL N).length) hi'
  rw [if_pos hi'] at h1
  have h2 : (fnd N)[i]? = some (fnd N)[i] := by simp
  unfold fnd at h2 ⊢
  rw [h1] at h2
  have hm : (hsL N)[i] ∈ hsL N := List.getElem_mem hi'
  obtain ⟨b, e, h3, h4⟩ := ascL_mem.1 hm
  have e2 : (hsL N).getD i 0 = (b : Int) := by rw [List.getD_eq_getElem?_getD, List.getElem?_eq_getElem hi', e]; rfl
  rw [e2] at h2
  refine ⟨b, parN N i, (Option.some.inj h2).symm, h3, by simpa using h4, by rw [List.getElem?_eq_getElem hi', e], rfl⟩
theorem ascL_nat {n : Nat} {p : Nat → Bool} {a : Nat} (ha : a < n) : decide ((a : Int) ∈ ascL n p) = p a := by
  cases hp : p a with
  | true => exact decide_eq_true (ascL_mem.2 ⟨a, rfl, ha, hp⟩)
  | false =>
    refine decide_eq_false fun h => ?_
    obtain ⟨b, e, _, h2⟩ := ascL_mem.1 h
    obtain rfl : a = b := by omega
    rw [hp] at h2; cases h2
set_option maxHeartbeats 1000000 in
set_option maxRecDepth 10000 in
theorem LoopsHeaders_spec (gv : Value) (B : List Blk) (PV : List (List Int)) (w : World) (h : GrAt w gv B PV) (hB : B.length ≤ 2000000) : VRet Try.prog 4 #[gv] w fun v w' => v = .bool true ∧ Ext w w' := by
  obtain ⟨bs, pv, rfl, hb0, hp0⟩ := h
  obtain ⟨ba, bc, rfl⟩ := hb0.form
  obtain ⟨pa, pc, rfl⟩ := hp0.form'
  refine VRet_start T.mo ok4 rfl fun Ψ hΨ => ?_; simp only [vc4, rs4]
  simp only [VS, VD, SV, SL, T, Nat.reduceEqDiff, Nat.reduceAdd, Nat.reduceSub, Nat.reduceMul, Nat.reduceLeDiff, Nat.reduceLT, reduceIte]
  refine (awake_spec _).mono ?_
  rintro _ w1 ⟨rfl, hE1⟩
  replace hE1 := ((Ext.refl w).alloc tomb).trans hE1
  simp only [VS, VD, SV, SL, T, Nat.reduceEqDiff, Nat.reduceAdd, Nat.reduceSub, Nat.reduceMul, Nat.reduceLeDiff, Nat.reduceLT, reduceIte, Bool.not_true]
  refine (found_spec _ B PV hB w1 ⟨_, _, rfl, hb0.ext hE1, hp0.ext hE1⟩).mono ?_
  rintro _ w2 ⟨hE2, hc⟩
  replace hE2 := hE1.trans hE2
  rcases hc with ⟨a, n, c, a', n', c', rfl⟩ | ⟨h14, hV, hbad, nv, lv, rfl, hNv, hL⟩
  · simp only [VS, VD, SV, SL, T, Nat.reduceEqDiff, Nat.reduceAdd, Nat.reduceSub, Nat.reduceMul, Nat.reduceLeDiff, Nat.reduceLT, reduceIte, Bool.not_false]
    exact hΨ _ _ ⟨rfl, hE2⟩
  obtain ⟨na, nc, rfl⟩ := hNv.form'
  obtain ⟨la, lc, rfl⟩ := hL.form
  have hG : ∀ w', Ext w2 w' → GrAt w' (.agg #[.slice ba B.length bc, .slice pa PV.length pc]) B PV := fun w' hE => ⟨_, _, rfl, hb0.ext (hE2.trans hE), hp0.ext (hE2.trans hE)⟩
  simp only [VS, VD, SV, SL, T, Nat.reduceEqDiff, Nat.reduceAdd, Nat.reduceSub, Nat.reduceMul, Nat.reduceLeDiff, Nat.reduceLT, reduceIte, Bool.not_true]
  refine (Tree_spec _ B PV hB w2 (hG w2 (Ext.refl _))).mono ?_
  rintro v3 w3 ⟨hE3, _, h3⟩
  obtain ⟨F, tg, tc, rfl, _, hI3, hTO⟩ := h3 hV
  simp only [VS, VD, SV, SL, T, Nat.reduceEqDiff, Nat.reduceAdd, Nat.reduceSub, Nat.reduceMul, Nat.reduceLeDiff, Nat.reduceLT, reduceIte]
  refine (Order_spec _ B PV hB w3 (hG w3 hE3)).mono ?_
  rintro v4 w4 ⟨hE4, _, h4⟩
  obtain ⟨og, oc, rfl, _, _, hO4⟩ := h4 hV
  replace hI3 := hI3.ext hE4
  replace hE4 := hE3.trans hE4
  replace hL := hL.ext hE4
  replace hNv := hNv.ext hE4
  obtain ⟨nb, no, _, _, _, _, rfl, -⟩ := hNv.get' (i := 0) (by have := (VG_nv hV).pos; omega)
  replace hE4 := hE2.trans hE4
  have hNV := VG_nv hV
  have hNl : (nx B).length = B.length := by unfold nx; rw [List.length_map]
  have hgd := good_of hbad
  generalize hNN : nx B = N at *
  have hN := hNV.ok
  have hN0 := hNV.pos
  have hol := ord_le hN hN0
  have htl : ((List.range B.length).map F).length = B.length := by simp
  have hfg := fun {i : Nat} (hi : i < (fnd N).length) => fnd_get hN hi
  have hdI : ∀ a b : Nat, a < N.length → RE N b → ¬ Rc (ED N) (a : Int) b → domI ((List.range B.length).map F) a b = true := fun a b ha hR hd => by
    rw [← hNl, domI_an hN hN0 hTO ha (by have := lv_rng hN hN0 hR; omega), hTO.dom b a hR]
    exact hd
  have hLl : (fnd N).length ≤ N.length := by
    unfold fnd
    rw [lstF_len]
    exact hsL_len N
  generalize fnd N = L at *
  generalize (List.range B.length).map F = tre at *
  rw [hNl]
  clear hG hE1 hE2 hE3 hb0 hp0
  simp only [VS, VD, SV, SL, T, Nat.reduceEqDiff, Nat.reduceAdd, Nat.reduceSub, Nat.reduceMul, Nat.reduceLeDiff, Nat.reduceLT, reduceIte]
  refine LoopP_intro (α := Nat) (fun i g w' => g 3 = .slice (some ⟨nb, no, none⟩) B.length nc ∧ g 6 = .slice (some ⟨tg, 0, none⟩) B.length tc ∧ g 7 = .slice (some ⟨og, 0, none⟩) (ord N).length oc ∧ g 28 = .slice la L.length lc ∧ g 29 = .int .i64 L.length ∧ g 30 = .int .i64 i ∧ i ≤ L.length ∧ Ext w4 w') (fun i => L.length - i) 0 ?_ ?_
  · simp only [VS, VD, SV, SL, T, Nat.reduceEqDiff, Nat.reduceAdd, Nat.reduceSub, Nat.reduceMul, Nat.reduceLeDiff, Nat.reduceLT, reduceIte]
    exact ⟨rfl, Nat.zero_le _, Ext.refl _⟩
  rintro i g w' ⟨g3, g6, g7, g28, g29, g30, hi, hE⟩
  simp only [VS, VD, SV, SL, T, Nat.reduceEqDiff, Nat.reduceAdd, Nat.reduceSub, Nat.reduceMul, Nat.reduceLeDiff, Nat.reduceLT, reduceIte, g29, g30]
  by_cases hlt : (i : Int) < L.length
  · rw [decide_eq_true hlt]
    have hi' : i < L.length := by omega
    obtain ⟨lb, lo, lcs, le, lfz, u, u', rfl, hlb, hls, hlv, hlx, hu, hu'⟩ := (hL.ext hE).get hi'
    obtain ⟨h, pr, hx, hhn, hne, _, _⟩ := hfg hi'
    rw [hx] at hlv hu hu'
    simp only [] at hlv hu hu'
    clear hx hlx
    have hre := hd_re hN hN0 hgd hne
    have hbh : bdS N h (lat N h) h = true := (body_iff hN hN0 h h).2 (.inl rfl)
    have hbdom := fun {x : Nat} => body_dom hN hN0 hgd (h := h) (x := x)
    have hbre := fun {x : Nat} => body_re hN hN0 hgd (h := h) (x := x) hne
    have hent := fun {a b : Nat} => enter hN hN0 (h := h) (a := a) (b := b)
    have hlb2 := fun {a : Nat} => lat_body hN hN0 hgd (h := h) (a := a)
    have hasc := fun {a : Nat} (ha : a < N.length) => ascL_nat (p := bdS N h (lat N h)) ha
    have hbll : (ascL N.length (bdS N h (lat N h))).length ≤ 2000000 := by have := ascL_len N.length (bdS N h (lat N h)); omega
    have hltl : (lat N h).length ≤ 100000000 := by
      have h1 := latL_len N (edg 0 N) (h : Int)
      have h2 := edg_len N 0 hNV.two
      unfold lat
      omega
    generalize lat N h = lt at *
    generalize ascL N.length (bdS N h lt) = bl at *
    obtain ⟨ua, uc, rfl⟩ := hu.form
    obtain ⟨ua', uc', rfl⟩ := hu'.form
    simp only [VS, VD, SV, SL, T, Nat.reduceEqDiff, Nat.reduceAdd, Nat.reduceSub, Nat.reduceMul, Nat.reduceLeDiff, Nat.reduceLT, reduceIte, g28, g30, hlb, hls, hlv, Int.toNat_natCast]
    refine ⟨by omega, ?_⟩
    have hEt := (Ext.refl w').alloc tomb
    refine (in_spec _ bl (by omega) (h : Int) _ (hu.ext hEt)).mono ?_
    rintro _ w5 ⟨rfl, hE5⟩
    rw [hasc hhn, hbh]
    replace hE5 := hEt.trans hE5
    replace hu := hu.ext hE5
    replace hu' := hu'.ext hE5
    replace hE5 := hE.trans hE5
    clear hE hEt hlb hls hlv
    simp only [VS, VD, SV, SL, T, Nat.reduceEqDiff, Nat.reduceAdd, Nat.reduceSub, Nat.reduceMul, Nat.reduceLeDiff, Nat.reduceLT, reduceIte, Bool.not_true, g3]
    refine LoopP_intro (α := Nat) (fun a g w' => g 3 = .slice (some ⟨nb, no, none⟩) B.length nc ∧ g 6 = .slice (some ⟨tg, 0, none⟩) B.length tc ∧ g 7 = .slice (some ⟨og, 0, none⟩) (ord N).length oc ∧ g 28 = .slice (some ⟨lb, lo, none⟩) L.length lc ∧ g 29 = .int .i64 L.length ∧ g 30 = .int .i64 i ∧ g 9 = .agg #[.int .i64 h, .slice ua bl.length uc, .slice ua' lt.length uc', .int .i64 pr] ∧ g 41 = .int .i64 B.length ∧ g 42 = .int .i64 a ∧ a ≤ B.length ∧ Ext w5 w') (fun a => B.length - a) 0 ?_ ?_
    · simp only [VS, VD, SV, SL, T, Nat.reduceEqDiff, Nat.reduceAdd, Nat.reduceSub, Nat.reduceMul, Nat.reduceLeDiff, Nat.reduceLT, reduceIte, g3, g6, g7, g28, g29, g30]
      exact ⟨rfl, Nat.zero_le _, Ext.refl _⟩
    clear g3 g6 g7 g28 g29 g30
    rintro a g w' ⟨g3, g6, g7, g28, g29, g30, g9, g41, g42, ha, hE⟩
    simp only [VS, VD, SV, SL, T, Nat.reduceEqDiff, Nat.reduceAdd, Nat.reduceSub, Nat.reduceMul, Nat.reduceLeDiff, Nat.reduceLT, reduceIte, g41, g42]
    by_cases hla : (a : Int) < B.length
    · rw [decide_eq_true hla]
      have ha' : a < N.length := by omega
      simp only [VS, VD, SV, SL, T, Nat.reduceEqDiff, Nat.reduceAdd, Nat.reduceSub, Nat.reduceMul, Nat.reduceLeDiff, Nat.reduceLT, reduceIte, g9, g42]
      refine (in_spec _ bl (by omega) (a : Int) w' (hu.ext hE)).mono ?_
      rintro _ w6 ⟨rfl, hE6⟩
      replace hE6 := hE.trans hE6
      rw [hasc ha']
      simp only [VS, VD, SV, SL, T, Nat.reduceEqDiff, Nat.reduceAdd, Nat.reduceSub, Nat.reduceMul, Nat.reduceLeDiff, Nat.reduceLT, reduceIte]
      refine YG_c (fun g' w7 => g' 3 = .slice (some ⟨nb, no, none⟩) B.length nc ∧ g' 6 = .slice (some ⟨tg, 0, none⟩) B.length tc ∧ g' 7 = .slice (some ⟨og, 0, none⟩) (ord N).length oc ∧ g' 28 = .slice (some ⟨lb, lo, none⟩) L.length lc ∧ g' 29 = .int .i64 L.length ∧ g' 30 = .int .i64 i ∧ g' 9 = .agg #[.int .i64 h, .slice ua bl.length uc, .slice ua' lt.length uc', .int .i64 pr] ∧ g' 41 = .int .i64 B.length ∧ g' 42 = .int .i64 a ∧ g' 10 = .int .i64 a ∧ g' 11 = .bool (bdS N h lt a) ∧ g' 63 = .bool false ∧ Ext w6 w7) ?_ ?_
      · cases hin : bdS N h lt a with
        | false =>
          simp only [VS, VD, SV, SL, T, Nat.reduceEqDiff, Nat.reduceAdd, Nat.reduceSub, Nat.reduceMul, Nat.reduceLeDiff, Nat.reduceLT, reduceIte, g3, g6, g7, g28, g29, g30, g9, g41, g42]
          exact Ext.refl _
        | true =>
          have hra := hbre hin
          simp only [VS, VD, SV, SL, T, Nat.reduceEqDiff, Nat.reduceAdd, Nat.reduceSub, Nat.reduceMul, Nat.reduceLeDiff, Nat.reduceLT, reduceIte, g7, g42]
          refine (in_spec _ (ord N) (by omega) (a : Int) w6 (hO4.ext (hE5.trans hE6))).mono ?_
          rintro _ w7 ⟨rfl, hE7⟩
          have hmo : decide ((a : Int) ∈ ord N) = true := decide_eq_true (mem_ord.2 hra)
          rw [hmo]
          simp only [VS, VD, SV, SL, T, Nat.reduceEqDiff, Nat.reduceAdd, Nat.reduceSub, Nat.reduceMul, Nat.reduceLeDiff, Nat.reduceLT, reduceIte, Bool.not_true, g6, g9, g42]
          refine (Dominates_spec _ tre (by omega) (h : Int) (a : Int) w7 ((hI3.ext (hE5.trans hE6)).ext hE7)).mono ?_
          rintro _ w8 ⟨rfl, hE8⟩
          rw [hdI h a hhn hra (hbdom hin)]
          simp only [VS, VD, SV, SL, T, Nat.reduceEqDiff, Nat.reduceAdd, Nat.reduceSub, Nat.reduceMul, Nat.reduceLeDiff, Nat.reduceLT, reduceIte, Bool.not_true, g3, g6, g7, g28, g29, g30, g9, g41, g42]
          exact hE7.trans hE8
      clear g3 g6 g7 g28 g29 g30 g9 g41 g42
      rintro g w7 ⟨g3, g6, g7, g28, g29, g30, g9, g41, g42, g10, g11, g63, hE7⟩
      replace hE7 := hE6.trans hE7
      clear hE6 hE
      obtain ⟨rb, ro, rcs, re, rfz, ur, q, hrb, hrc, hru⟩ := (hNv.ext (hE5.trans hE7)).get' (i := a) (by omega)
      simp only [Option.some.injEq, Addr.mk.injEq, and_true] at q
      obtain ⟨rfl, rfl⟩ := q
      have hrl : (N[a]'ha').length ≤ 2 := hNV.two _ (List.getElem_mem _)
      have hrow : ∀ m ∈ N[a]'ha', ∃ b : Nat, m = b ∧ b < N.length ∧ ED N a b := fun m hm => by
        have h1 := hN _ (List.getElem_mem ha') m hm
        refine ⟨m.toNat, by omega, by omega, ?_⟩
        unfold ED sc
        rw [List.getD_eq_getElem?_getD, List.getElem?_eq_getElem ha', show ((m.toNat : Nat) : Int) = m by omega]
        exact hm
      generalize N[a]'ha' = row at *
      obtain ⟨ra, rc, rfl⟩ := hru.form
      simp only [VS, VD, SV, SL, T, Nat.reduceEqDiff, Nat.reduceAdd, Nat.reduceSub, Nat.reduceMul, Nat.reduceLeDiff, Nat.reduceLT, reduceIte, g63, g3, g10, hrb, hrc, Int.toNat_natCast]
      refine ⟨by omega, ?_⟩
      refine LoopP_intro (α := Nat) (fun k g w' => g 3 = .slice (some ⟨nb, no, none⟩) B.length nc ∧ g 6 = .slice (some ⟨tg, 0, none⟩) B.length tc ∧ g 7 = .slice (some ⟨og, 0, none⟩) (ord N).length oc ∧ g 28 = .slice (some ⟨lb, lo, none⟩) L.length lc ∧ g 29 = .int .i64 L.length ∧ g 30 = .int .i64 i ∧ g 9 = .agg #[.int .i64 h, .slice ua bl.length uc, .slice ua' lt.length uc', .int .i64 pr] ∧ g 41 = .int .i64 B.length ∧ g 42 = .int .i64 a ∧ g 10 = .int .i64 a ∧ g 11 = .bool (bdS N h lt a) ∧ g 67 = .slice ra row.length rc ∧ g 68 = .int .i64 row.length ∧ g 69 = .int .i64 k ∧ k ≤ row.length ∧ Ext w7 w') (fun k => row.length - k) 0 ?_ ?_
      · simp only [VS, VD, SV, SL, T, Nat.reduceEqDiff, Nat.reduceAdd, Nat.reduceSub, Nat.reduceMul, Nat.reduceLeDiff, Nat.reduceLT, reduceIte, g3, g6, g7, g28, g29, g30, g9, g41, g42, g10, g11]
        exact ⟨rfl, Nat.zero_le _, Ext.refl _⟩
      clear g3 g6 g7 g28 g29 g30 g9 g41 g42 g10 g11 g63
      rintro k g w8 ⟨g3, g6, g7, g28, g29, g30, g9, g41, g42, g10, g11, g67, g68, g69, hk, hE8⟩
      simp only [VS, VD, SV, SL, T, Nat.reduceEqDiff, Nat.reduceAdd, Nat.reduceSub, Nat.reduceMul, Nat.reduceLeDiff, Nat.reduceLT, reduceIte, g68, g69]
      by_cases hlk : (k : Int) < row.length
      · rw [decide_eq_true hlk]
        have hk' : k < row.length := by omega
        obtain ⟨bu, ou, cu, eu, fu, rfl, _, hbu, hcu⟩ := (hru.ext hE8).get (i := k) (x := row[k]) (by simp [hk'])
        obtain ⟨b, hb, hbn, hED⟩ := hrow _ (List.getElem_mem hk')
        rw [hb] at hcu
        clear hb
        simp only [VS, VD, SV, SL, T, Nat.reduceEqDiff, Nat.reduceAdd, Nat.reduceSub, Nat.reduceMul, Nat.reduceLeDiff, Nat.reduceLT, reduceIte, g11, g67, g69, hbu, hcu, Int.toNat_natCast]
        refine ⟨by omega, ?_⟩
        refine YG_c (fun g' w9 => g' 3 = .slice (some ⟨nb, no, none⟩) B.length nc ∧ g' 6 = .slice (some ⟨tg, 0, none⟩) B.length tc ∧ g' 7 = .slice (some ⟨og, 0, none⟩) (ord N).length oc ∧ g' 28 = .slice (some ⟨lb, lo, none⟩) L.length lc ∧ g' 29 = .int .i64 L.length ∧ g' 30 = .int .i64 i ∧ g' 9 = .agg #[.int .i64 h, .slice ua bl.length uc, .slice ua' lt.length uc', .int .i64 pr] ∧ g' 41 = .int .i64 B.length ∧ g' 42 = .int .i64 a ∧ g' 10 = .int .i64 a ∧ g' 11 = .bool (bdS N h lt a) ∧ g' 67 = .slice (some ⟨bu, ou, none⟩) row.length rc ∧ g' 68 = .int .i64 row.length ∧ g' 69 = .int .i64 k ∧ g' 13 = .int .i64 b ∧ g' 91 = .bool false ∧ Ext w8 w9) ?_ ?_
        · cases hin : bdS N h lt a with
          | true =>
            rw [hin] at g11
            simp only [VS, VD, SV, SL, T, Nat.reduceEqDiff, Nat.reduceAdd, Nat.reduceSub, Nat.reduceMul, Nat.reduceLeDiff, Nat.reduceLT, reduceIte, Bool.not_true, g3, g6, g7, g28, g29, g30, g9, g41, g42, g10, g11, g67, g68, g69]
            exact Ext.refl _
          | false =>
            rw [hin] at g11
            simp only [VS, VD, SV, SL, T, Nat.reduceEqDiff, Nat.reduceAdd, Nat.reduceSub, Nat.reduceMul, Nat.reduceLeDiff, Nat.reduceLT, reduceIte, Bool.not_false, g7, g10, g11]
            refine (in_spec _ (ord N) (by omega) (a : Int) w8 ((hO4.ext (hE5.trans hE7)).ext hE8)).mono ?_
            rintro _ w9 ⟨rfl, hE9⟩
            by_cases hra : RE N a
            · have hmo : decide ((a : Int) ∈ ord N) = true := decide_eq_true (mem_ord.2 hra)
              rw [hmo]
              simp only [VS, VD, SV, SL, T, Nat.reduceEqDiff, Nat.reduceAdd, Nat.reduceSub, Nat.reduceMul, Nat.reduceLeDiff, Nat.reduceLT, reduceIte, g9]
              by_cases hbh2 : b = h
              · have d1 : decide (¬ (b : Int) = (h : Int)) = false := decide_eq_false (fun q => q (by omega))
                simp only [VS, VD, SV, SL, T, Nat.reduceEqDiff, Nat.reduceAdd, Nat.reduceSub, Nat.reduceMul, Nat.reduceLeDiff, Nat.reduceLT, reduceIte, d1, g3, g6, g7, g28, g29, g30, g9, g41, g42, g10, g11, g67, g68, g69]
                exact hE9
              · have d1 : decide (¬ (b : Int) = (h : Int)) = true := decide_eq_true (by omega)
                have hbb : bdS N h lt b = false := by
                  cases hq : bdS N h lt b with
                  | false => rfl
                  | true => rw [hent hra hED hq hbh2] at hin; cases hin
                simp only [VS, VD, SV, SL, T, Nat.reduceEqDiff, Nat.reduceAdd, Nat.reduceSub, Nat.reduceMul, Nat.reduceLeDiff, Nat.reduceLT, reduceIte, d1, g9]
                refine (in_spec _ bl (by omega) (b : Int) w9 (((hu.ext hE7).ext hE8).ext hE9)).mono ?_
                rintro _ w10 ⟨rfl, hE10⟩
                rw [hasc hbn, hbb]
                simp only [VS, VD, SV, SL, T, Nat.reduceEqDiff, Nat.reduceAdd, Nat.reduceSub, Nat.reduceMul, Nat.reduceLeDiff, Nat.reduceLT, reduceIte, g3, g6, g7, g28, g29, g30, g9, g41, g42, g10, g11, g67, g68, g69]
                exact hE9.trans hE10
            · have hmo : decide ((a : Int) ∈ ord N) = false := decide_eq_false fun q => hra (mem_ord.1 q)
              rw [hmo]
              simp only [VS, VD, SV, SL, T, Nat.reduceEqDiff, Nat.reduceAdd, Nat.reduceSub, Nat.reduceMul, Nat.reduceLeDiff, Nat.reduceLT, reduceIte, g3, g6, g7, g28, g29, g30, g9, g41, g42, g10, g11, g67, g68, g69]
              exact hE9
        clear g3 g6 g7 g28 g29 g30 g9 g41 g42 g10 g11 g67 g68 g69
        rintro g w9 ⟨g3, g6, g7, g28, g29, g30, g9, g41, g42, g10, g11, g67, g68, g69, g13, g91, hE9⟩
        replace hE9 := hE8.trans hE9
        clear hE8 hbu
        simp only [VS, VD, SV, SL, T, Nat.reduceEqDiff, Nat.reduceAdd, Nat.reduceSub, Nat.reduceMul, Nat.reduceLeDiff, Nat.reduceLT, reduceIte, g91, g13, g9]
        refine YG_c (fun g' w10 => g' 3 = .slice (some ⟨nb, no, none⟩) B.length nc ∧ g' 6 = .slice (some ⟨tg, 0, none⟩) B.length tc ∧ g' 7 = .slice (some ⟨og, 0, none⟩) (ord N).length oc ∧ g' 28 = .slice (some ⟨lb, lo, none⟩) L.length lc ∧ g' 29 = .int .i64 L.length ∧ g' 30 = .int .i64 i ∧ g' 9 = .agg #[.int .i64 h, .slice ua bl.length uc, .slice ua' lt.length uc', .int .i64 pr] ∧ g' 41 = .int .i64 B.length ∧ g' 42 = .int .i64 a ∧ g' 10 = .int .i64 a ∧ g' 11 = .bool (bdS N h lt a) ∧ g' 67 = .slice (some ⟨bu, ou, none⟩) row.length rc ∧ g' 68 = .int .i64 row.length ∧ g' 69 = .int .i64 k ∧ g' 108 = .bool false ∧ Ext w9 w10) ?_ ?_
        · by_cases hbh2 : b = h
          · subst hbh2
            rw [dEq]
            simp only [VS, VD, SV, SL, T, Nat.reduceEqDiff, Nat.reduceAdd, Nat.reduceSub, Nat.reduceMul, Nat.reduceLeDiff, Nat.reduceLT, reduceIte, g9, g10, g11]
            refine (in_spec _ lt (by omega) (a : Int) w9 ((hu'.ext hE7).ext hE9)).mono ?_
            rintro _ w10 ⟨rfl, hE10⟩
            by_cases hra : RE N a
            · have e1 : decide ((a : Int) ∈ lt) = bdS N b lt a := by
                rw [Bool.eq_iff_iff, decide_eq_true_iff]
                exact (hlb2 hra hED).symm
              rw [e1]
              simp only [VS, VD, SV, SL, T, Nat.reduceEqDiff, Nat.reduceAdd, Nat.reduceSub, Nat.reduceMul, Nat.reduceLeDiff, Nat.reduceLT, reduceIte, BEq.rfl, Bool.not_true, g3, g6, g7, g28, g29, g30, g9, g41, g42, g10, g11, g67, g68, g69]
              exact hE10
            · have hmo : decide ((a : Int) ∈ ord N) = false := decide_eq_false fun q => hra (mem_ord.1 q)
              cases hq : (!(bdS N b lt a == decide ((a : Int) ∈ lt))) with
              | false =>
                simp only [VS, VD, SV, SL, T, Nat.reduceEqDiff, Nat.reduceAdd, Nat.reduceSub, Nat.reduceMul, Nat.reduceLeDiff, Nat.reduceLT, reduceIte, hq, g3, g6, g7, g28, g29, g30, g9, g41, g42, g10, g11, g67, g68, g69]
                exact hE10
              | true =>
                simp only [VS, VD, SV, SL, T, Nat.reduceEqDiff, Nat.reduceAdd, Nat.reduceSub, Nat.reduceMul, Nat.reduceLeDiff, Nat.reduceLT, reduceIte, hq, g7, g10]
                refine (in_spec _ (ord N) (by omega) (a : Int) w10 (((hO4.ext (hE5.trans hE7)).ext hE9).ext hE10)).mono ?_
                rintro _ w11 ⟨rfl, hE11⟩
                rw [hmo]
                simp only [VS, VD, SV, SL, T, Nat.reduceEqDiff, Nat.reduceAdd, Nat.reduceSub, Nat.reduceMul, Nat.reduceLeDiff, Nat.reduceLT, reduceIte, g3, g6, g7, g28, g29, g30, g9, g41, g42, g10, g11, g67, g68, g69]
                exact hE10.trans hE11
          · have d1 : decide ((b : Int) = (h : Int)) = false := decide_eq_false (by omega)
            simp only [VS, VD, SV, SL, T, Nat.reduceEqDiff, Nat.reduceAdd, Nat.reduceSub, Nat.reduceMul, Nat.reduceLeDiff, Nat.reduceLT, reduceIte, d1, g3, g6, g7, g28, g29, g30, g9, g41, g42, g10, g11, g67, g68, g69]
            exact Ext.refl _
        clear g3 g6 g7 g28 g29 g30 g9 g41 g42 g10 g11 g67 g68 g69 g13 g91
        rintro g w10 ⟨g3, g6, g7, g28, g29, g30, g9, g41, g42, g10, g11, g67, g68, g69, g108, hE10⟩
        simp only [VS, VD, SV, SL, T, Nat.reduceEqDiff, Nat.reduceAdd, Nat.reduceSub, Nat.reduceMul, Nat.reduceLeDiff, Nat.reduceLT, reduceIte, g108, g3, g6, g7, g28, g29, g30, g9, g41, g42, g10, g11, g67, g68, g69]
        exact ⟨by omega, k + 1, ⟨by simp, by omega, hE9.trans hE10⟩, by omega⟩
      · rw [decide_eq_false hlk]
        simp only [VS, VD, SV, SL, T, Nat.reduceEqDiff, Nat.reduceAdd, Nat.reduceSub, Nat.reduceMul, Nat.reduceLeDiff, Nat.reduceLT, reduceIte, g3, g6, g7, g28, g29, g30, g9, g41, g42, g10, g11]
        exact ⟨by omega, a + 1, ⟨by simp, by omega, hE7.trans hE8⟩, by omega⟩
    · rw [decide_eq_false hla]
      simp only [VS, VD, SV, SL, T, Nat.reduceEqDiff, Nat.reduceAdd, Nat.reduceSub, Nat.reduceMul, Nat.reduceLeDiff, Nat.reduceLT, reduceIte, g3, g6, g7, g28, g29, g30]
      exact ⟨by omega, i + 1, ⟨by simp, by omega, hE5.trans hE⟩, by omega⟩
  · rw [decide_eq_false hlt]
    simp only [VS, VD, SV, SL, T, Nat.reduceEqDiff, Nat.reduceAdd, Nat.reduceSub, Nat.reduceMul, Nat.reduceLeDiff, Nat.reduceLT, reduceIte]
    exact hΨ _ _ ⟨rfl, hE4.trans hE⟩
end Go.Proofs.Ytlhlbiaibgmapaa
