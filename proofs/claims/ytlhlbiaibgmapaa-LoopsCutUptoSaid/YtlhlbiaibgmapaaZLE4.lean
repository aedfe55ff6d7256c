/-
  LoopsCut: the walk.
-/
import Derived.Test.YtlhlbiaibgmapaaZLPC
import Derived.Test.YtlhlbiaibgmapaaZLRN
set_option linter.unusedSimpArgs false
set_option linter.unusedVariables false
namespace Go.Proofs.Ytlhlbiaibgmapaa
open Go.W Go.RowKit
theorem it_ext {w w' : World} {it c : Nat} {x : Value} {seen : Array Nat} (h : ItAt w it x c seen) (hE : Ext w w') : ItAt w' it x c seen := by
  obtain ⟨r, h1, h2⟩ := h
  exact ⟨r, h1, hE.obj h2⟩
theorem grn_zero (N : List (List Int)) (S : Int × Int → Bool) (G : Nat → Bool) : grn N S G 0 = G := rfl
theorem fre_zero (N : List (List Int)) (S : Int × Int → Bool) (G : Nat → Bool) (b : Nat) : fre N S G b 0 = true := rfl
set_option maxHeartbeats 2000000 in
set_option maxRecDepth 10000 in
theorem LoopsCut_spec (gv : Value) (B : List Blk) (PV : List (List Int)) (w : World) (h : GrAt w gv B PV) (hB : B.length ≤ 2000000) : VRet Try.prog 5 #[gv] w fun v w' => v = .bool true ∧ Ext w w' := by
  obtain ⟨bs, pv, rfl, hb0, hp0⟩ := h
  obtain ⟨ba, bc, rfl⟩ := hb0.form
  obtain ⟨pa, pc, rfl⟩ := hp0.form'
  have z0 : #[Value.bool false][0]! = Value.bool false := rfl
  refine VRet_start T.mo ok5 rfl fun Ψ hΨ => ?_; simp only [vc5, rs5]
  simp only [VS, VD, SV, SL, T, Nat.reduceEqDiff, Nat.reduceAdd, Nat.reduceSub, Nat.reduceMul, Nat.reduceLeDiff, Nat.reduceLT, reduceIte]
  refine (awake_spec _).mono ?_
  rintro _ w1 ⟨rfl, hE1⟩
  replace hE1 := ((Ext.refl w).alloc tomb).trans hE1
  simp only [VS, VD, SV, SL, T, Nat.reduceEqDiff, Nat.reduceAdd, Nat.reduceSub, Nat.reduceMul, Nat.reduceLeDiff, Nat.reduceLT, reduceIte, Bool.not_true]
  refine (found_spec _ B PV hB w1 ⟨_, _, rfl, hb0.ext hE1, hp0.ext hE1⟩).mono ?_
  rintro _ w2 ⟨hE2, hc⟩
  replace hE2 := hE1.trans hE2
  rcases hc with ⟨a, n, c, a', n', c', rfl⟩ | ⟨h14, hV, hbad, nv, lv, rfl, hNv, hL⟩
  · simp only [VS, VD, SV, SL, T, Nat.reduceEqDiff, Nat.reduceAdd, Nat.reduceSub, Nat.reduceMul, Nat.reduceLeDiff, Nat.reduceLT, reduceIte, Bool.not_false]
    exact hΨ _ _ ⟨rfl, hE2⟩
  obtain ⟨na, nc, rfl⟩ := hNv.form'
  obtain ⟨la, lc, rfl⟩ := hL.form
  obtain ⟨hB0, hN, hN2, hnd, _⟩ := VG_spec hV
  have hNl : (nx B).length = B.length := by unfold nx; rw [List.length_map]
  have hN0 : 0 < (nx B).length := by omega
  have hgd := good_of hbad
  have hns : (nx B).length ≤ 14 := by omega
  clear hbad hV
  generalize nx B = N at *
  have hLl := fnd_len N
  have hLat : ∀ i (hi : i < (fnd N).length), (fnd N)[i].2.2.1.length ≤ 100000000 := fun i hi => by
    obtain ⟨k, p, e, _⟩ := fnd_at hi
    rw [e]
    have h1 := latL_len N (edg 0 N) (k : Int)
    have h2 := edg_len N 0 hN2
    show (latL N (edg 0 N) (k : Int)).length ≤ _
    omega
  have hbk := fun {a h : Int} => bkE_fnd hN (a := a) (h := h)
  generalize fnd N = L at *
  simp only [VS, VD, SV, SL, T, Nat.reduceEqDiff, Nat.reduceAdd, Nat.reduceSub, Nat.reduceMul, Nat.reduceLeDiff, Nat.reduceLT, reduceIte, Bool.not_true]
  have hS0 := SetP.new w2
  have hE3 := (Ext.refl w2).alloc (.map #[] 0)
  generalize hre : w2.heap.size = r at *
  generalize w2.alloc (.map #[] 0) = w3 at *
  have hrb : w2.heap.size ≤ r := by omega
  refine loop_cB (fun g w' => g 3 = .slice na N.length nc ∧ g 6 = .map (some r) ∧ Ext w2 w' ∧ SetP w' r (mem2 (bkE L))) ?_ ?_
  · refine LoopP_intro (α := Nat) (fun i g w' => g 3 = .slice na N.length nc ∧ g 6 = .map (some r) ∧ g 29 = .slice la L.length lc ∧ g 30 = .int .i64 L.length ∧ g 31 = .int .i64 i ∧ i ≤ L.length ∧ Ext w2 w' ∧ SetP w' r (mem2 (bkE (L.take i)))) (fun i => L.length - i) 0 ?_ ?_
    · simp only [VS, VD, SV, SL, T, Nat.reduceEqDiff, Nat.reduceAdd, Nat.reduceSub, Nat.reduceMul, Nat.reduceLeDiff, Nat.reduceLT, reduceIte]
      exact ⟨rfl, Nat.zero_le _, hE3, hS0⟩
    rintro i g w4 ⟨g3, g6, g29, g30, g31, hi, hE4, hS4⟩
    simp only [VS, VD, SV, SL, T, Nat.reduceEqDiff, Nat.reduceAdd, Nat.reduceSub, Nat.reduceMul, Nat.reduceLeDiff, Nat.reduceLT, reduceIte, g30, g31]
    by_cases hli : (i : Int) < L.length
    · rw [decide_eq_true hli]
      have hi' : i < L.length := by omega
      have hltl := hLat i hi'
      obtain ⟨lb, lo, lcs, le, lfz, u, u', rfl, hlb, hls, hlv, _, hu, hu'⟩ := hL.get hi'
      have hlb4 := hE4.obj hlb
      have hsn := bkE_snoc (L.take i) L[i]
      rw [← List.take_succ_eq_append_getElem hi'] at hsn
      generalize L[i] = x at *
      obtain ⟨xh, xl, lt, xp⟩ := x
      simp only [] at hlv hu hu' hsn hltl
      obtain ⟨ua, uc, rfl⟩ := hu.form
      obtain ⟨ua', uc', rfl⟩ := hu'.form
      simp only [VS, VD, SV, SL, T, Nat.reduceEqDiff, Nat.reduceAdd, Nat.reduceSub, Nat.reduceMul, Nat.reduceLeDiff, Nat.reduceLT, reduceIte, g29, g31, hlb4, hls, hlv, Int.toNat_natCast]
      refine ⟨by omega, ?_⟩
      have hEt := (Ext.refl w4).alloc tomb
      replace hS4 := hS4.ext hEt
      replace hE4 := hE4.trans hEt
      generalize w4.alloc tomb = w5 at *
      refine LoopP_intro (α := Nat) (fun k g w' => g 3 = .slice na N.length nc ∧ g 6 = .map (some r) ∧ g 29 = .slice (some ⟨lb, lo, none⟩) L.length lc ∧ g 30 = .int .i64 L.length ∧ g 31 = .int .i64 i ∧ g 8 = .agg #[.int .i64 xh, .slice ua xl.length uc, .slice ua' lt.length uc', .int .i64 xp] ∧ g 36 = .slice ua' lt.length uc' ∧ g 37 = .int .i64 lt.length ∧ g 38 = .int .i64 k ∧ k ≤ lt.length ∧ Ext w2 w' ∧ SetP w' r (mem2 (bkE (L.take i) ++ (lt.take k).map fun a => (a, xh)))) (fun k => lt.length - k) 0 ?_ ?_
      · simp only [VS, VD, SV, SL, T, Nat.reduceEqDiff, Nat.reduceAdd, Nat.reduceSub, Nat.reduceMul, Nat.reduceLeDiff, Nat.reduceLT, reduceIte, g3, g6, g29, g30, g31]
        exact ⟨rfl, Nat.zero_le _, hE4, by rw [List.take_zero, List.map_nil, List.append_nil]; exact hS4⟩
      clear g3 g6 g29 g30 g31 hS4 hE4 hlb4 hEt
      rintro k g w6 ⟨g3, g6, g29, g30, g31, g8, g36, g37, g38, hk, hE6, hS6⟩
      simp only [VS, VD, SV, SL, T, Nat.reduceEqDiff, Nat.reduceAdd, Nat.reduceSub, Nat.reduceMul, Nat.reduceLeDiff, Nat.reduceLT, reduceIte, g37, g38]
      by_cases hlk : (k : Int) < lt.length
      · rw [decide_eq_true hlk]
        have hk' : k < lt.length := by omega
        obtain ⟨bu, ou, cu, eu, fu, e1, _, hbu, hcu⟩ := (hu'.ext hE6).get (i := k) (x := lt[k]) (by simp [hk'])
        have hms : mem2 (bkE (L.take i) ++ (lt.take (k + 1)).map fun a => (a, xh)) = updP (mem2 (bkE (L.take i) ++ (lt.take k).map fun a => (a, xh))) (lt[k], xh) true := by
          rw [List.take_succ_eq_append_getElem hk', List.map_append, ← List.append_assoc]
          exact mem2_snoc _ _
        generalize lt[k] = a at *
        simp only [VS, VD, SV, SL, T, Nat.reduceEqDiff, Nat.reduceAdd, Nat.reduceSub, Nat.reduceMul, Nat.reduceLeDiff, Nat.reduceLT, reduceIte, g6, g8, g36, g38, e1, hbu, hcu, Int.toNat_natCast]
        refine ⟨by omega, ?_⟩
        refine hS6.put a xh ?_
        rintro w7 ⟨o, rfl⟩ hS7
        simp only [VS, VD, SV, SL, T, Nat.reduceEqDiff, Nat.reduceAdd, Nat.reduceSub, Nat.reduceMul, Nat.reduceLeDiff, Nat.reduceLT, reduceIte, g3, g6, g8, g29, g30, g31, g36, g37, g38, e1]
        exact ⟨by omega, k + 1, ⟨by simp, by omega, hE6.putb hrb o, by rw [hms]; exact hS7⟩, by omega⟩
      · rw [decide_eq_false hlk]
        have ek : lt.take k = lt := List.take_of_length_le (by omega)
        rw [ek, ← hsn] at hS6
        simp only [VS, VD, SV, SL, T, Nat.reduceEqDiff, Nat.reduceAdd, Nat.reduceSub, Nat.reduceMul, Nat.reduceLeDiff, Nat.reduceLT, reduceIte, g3, g6, g29, g30, g31]
        exact ⟨by omega, i + 1, ⟨by simp, by omega, hE6, hS6⟩, by omega⟩
    · rw [decide_eq_false hli]
      rw [List.take_of_length_le (by omega)] at hS4
      simp only [VS, VD, SV, SL, T, Nat.reduceEqDiff, Nat.reduceAdd, Nat.reduceSub, Nat.reduceMul, Nat.reduceLeDiff, Nat.reduceLT, reduceIte, g3, g6]
      exact ⟨hE4, hS4⟩
  clear hS0 hE3 hL hLat hLl
  rintro g w4 ⟨g3, g6, hE4, hS4⟩
  have hS1 : ∀ a b : Nat, (a : Int) ∈ lat N b → mem2 (bkE L) ((a : Int), (b : Int)) = true := fun a b hab => mem2_iff.2 (hbk.2 hab)
  have hS2 : ∀ p : Int × Int, mem2 (bkE L) p = true → ∃ a b : Nat, p = ((a : Int), (b : Int)) ∧ a < N.length ∧ b < N.length ∧ (b : Int) ∈ sc N a ∧ rch N (-1) a = true ∧ rch N (-1) b = true := fun p hp => by
    obtain ⟨x, y⟩ := p
    have h1 := hbk.1 (mem2_iff.1 hp)
    obtain ⟨⟨k1, k2⟩, k3, k4⟩ := lat_rng hN h1
    obtain ⟨a, rfl⟩ := Int.eq_ofNat_of_zero_le k1
    obtain ⟨b, rfl⟩ := Int.eq_ofNat_of_zero_le k3
    obtain ⟨q1, q2, _⟩ := (lat_iff hN hN0 hgd).1 h1
    have hra := (re_iff hN hN0 a).1 q1
    exact ⟨a, b, rfl, by simpa using k2, by simpa using k4, q2, (rch_iff hN hN0 _ _).2 hra, (rch_iff hN hN0 _ _).2 (hra.step q2 (by omega))⟩
  have hge := fun {b : Nat} => gal_end hN hN0 hgd hS1 (b := b)
  generalize mem2 (bkE L) = S at *
  simp only [VS, VD, SV, SL, T, Nat.reduceEqDiff, Nat.reduceAdd, Nat.reduceSub, Nat.reduceMul, Nat.reduceLeDiff, Nat.reduceLT, reduceIte, g3]
  refine (Reach_new hN hN0 (by omega) hN2 _ (-1) w4 (hNv.ext hE4)).mono ?_
  rintro _ w5 ⟨⟨rfl, hR⟩, hE5⟩
  have hs5 := hR.lt
  have hs4 := hE4.size
  generalize hqe : w4.heap.size = q at *
  have hrq := hS4.lt
  replace hS4 := hS4.ext hE5
  replace hE5 := hE4.trans hE5
  simp only [VS, VD, SV, SL, T, Nat.reduceEqDiff, Nat.reduceAdd, Nat.reduceSub, Nat.reduceMul, Nat.reduceLeDiff, Nat.reduceLT, reduceIte, g3, z0, Int.toNat_natCast]
  refine ⟨by omega, ?_⟩
  have hG0 : BB (w5.alloc (.cells (Array.replicate N.length (.bool false)) 4)) w5.heap.size N.length (gal N S 0) := ⟨_, alloc_get_new _ _, by simp, fun i hi => by simp [hi, gal]⟩
  have hEa := (Ext.refl w5).alloc (.cells (Array.replicate N.length (.bool false)) 4)
  replace hS4 := hS4.ext hEa
  replace hR := hR.ext hEa
  replace hE5 := hE5.trans hEa
  generalize hde : w5.heap.size = d at *
  generalize w5.alloc (.cells (Array.replicate N.length (.bool false)) 4) = w6 at *
  have hqd : q ≠ d := by omega
  have hrd : r ≠ d := by omega
  have hdb : w2.heap.size ≤ d := by omega
  clear hEa hE4 hs4 hs5 hrq hqe hde hrb
  refine loop_cB (fun g w' => g 3 = .slice na N.length nc ∧ g 6 = .map (some r) ∧ g 11 = .slice (some ⟨q, 0, none⟩) N.length N.length ∧ g 12 = .slice (some ⟨d, 0, none⟩) N.length N.length ∧ Ext w2 w' ∧ SetP w' r S ∧ BB w' q N.length (rch N (-1)) ∧ BB w' d N.length (gal N S N.length)) ?_ ?_
  · refine LoopP_intro (α := Nat) (fun k g w' => g 3 = .slice na N.length nc ∧ g 6 = .map (some r) ∧ g 11 = .slice (some ⟨q, 0, none⟩) N.length N.length ∧ g 12 = .slice (some ⟨d, 0, none⟩) N.length N.length ∧ g 55 = .int .i64 N.length ∧ g 56 = .int .i64 k ∧ k ≤ N.length ∧ Ext w2 w' ∧ SetP w' r S ∧ BB w' q N.length (rch N (-1)) ∧ BB w' d N.length (gal N S k)) (fun k => N.length - k) 0 ?_ ?_
    · simp only [VS, VD, SV, SL, T, Nat.reduceEqDiff, Nat.reduceAdd, Nat.reduceSub, Nat.reduceMul, Nat.reduceLeDiff, Nat.reduceLT, reduceIte, g3, g6]
      exact ⟨rfl, Nat.zero_le _, hE5, hS4, hR, hG0⟩
    clear g3 g6 hE5 hS4 hR hG0
    rintro k g w7 ⟨g3, g6, g11, g12, g55, g56, hk, hE7, hS7, hR7, hG7⟩
    simp only [VS, VD, SV, SL, T, Nat.reduceEqDiff, Nat.reduceAdd, Nat.reduceSub, Nat.reduceMul, Nat.reduceLeDiff, Nat.reduceLT, reduceIte, g55, g56]
    by_cases hlk : (k : Int) < N.length
    · rw [decide_eq_true hlk]
      have hk' : k < N.length := by omega
      have hgs : gal N S (k + 1) = grn N S (gal N S k) N.length := rfl
      generalize gal N S k = G0 at *
      simp only [VS, VD, SV, SL, T, Nat.reduceEqDiff, Nat.reduceAdd, Nat.reduceSub, Nat.reduceMul, Nat.reduceLeDiff, Nat.reduceLT, reduceIte, g3]
      refine LoopP_intro (α := Nat) (fun b g w' => g 3 = .slice na N.length nc ∧ g 6 = .map (some r) ∧ g 11 = .slice (some ⟨q, 0, none⟩) N.length N.length ∧ g 12 = .slice (some ⟨d, 0, none⟩) N.length N.length ∧ g 55 = .int .i64 N.length ∧ g 56 = .int .i64 k ∧ g 59 = .int .i64 N.length ∧ g 60 = .int .i64 b ∧ b ≤ N.length ∧ Ext w2 w' ∧ SetP w' r S ∧ BB w' q N.length (rch N (-1)) ∧ BB w' d N.length (grn N S G0 b)) (fun b => N.length - b) 0 ?_ ?_
      · simp only [VS, VD, SV, SL, T, Nat.reduceEqDiff, Nat.reduceAdd, Nat.reduceSub, Nat.reduceMul, Nat.reduceLeDiff, Nat.reduceLT, reduceIte, g3, g6, g11, g12, g55, g56]
        exact ⟨rfl, Nat.zero_le _, hE7, hS7, hR7, hG7⟩
      clear g3 g6 g11 g12 g55 g56 hE7 hS7 hR7 hG7
      rintro b g w7 ⟨g3, g6, g11, g12, g55, g56, g59, g60, hb, hE7, hS7, hR7, hG7⟩
      simp only [VS, VD, SV, SL, T, Nat.reduceEqDiff, Nat.reduceAdd, Nat.reduceSub, Nat.reduceMul, Nat.reduceLeDiff, Nat.reduceLT, reduceIte, g59, g60]
      by_cases hlb : (b : Int) < N.length
      · rw [decide_eq_true hlb]
        have hb' : b < N.length := by omega
        have hgn : grn N S G0 (b + 1) = gst N S (grn N S G0 b) b := rfl
        generalize grn N S G0 b = G at *
        simp only [VS, VD, SV, SL, T, Nat.reduceEqDiff, Nat.reduceAdd, Nat.reduceSub, Nat.reduceMul, Nat.reduceLeDiff, Nat.reduceLT, reduceIte, g3, g60]
        refine loop_cB (fun g w' => g 3 = .slice na N.length nc ∧ g 6 = .map (some r) ∧ g 11 = .slice (some ⟨q, 0, none⟩) N.length N.length ∧ g 12 = .slice (some ⟨d, 0, none⟩) N.length N.length ∧ g 55 = .int .i64 N.length ∧ g 56 = .int .i64 k ∧ g 59 = .int .i64 N.length ∧ g 60 = .int .i64 b ∧ g 13 = .int .i64 b ∧ g 14 = .bool (fre N S G b N.length) ∧ Ext w7 w') ?_ ?_
        · refine LoopP_intro (α := Nat) (fun a g w' => g 3 = .slice na N.length nc ∧ g 6 = .map (some r) ∧ g 11 = .slice (some ⟨q, 0, none⟩) N.length N.length ∧ g 12 = .slice (some ⟨d, 0, none⟩) N.length N.length ∧ g 55 = .int .i64 N.length ∧ g 56 = .int .i64 k ∧ g 59 = .int .i64 N.length ∧ g 60 = .int .i64 b ∧ g 13 = .int .i64 b ∧ g 14 = .bool (fre N S G b a) ∧ g 64 = .int .i64 N.length ∧ g 65 = .int .i64 a ∧ a ≤ N.length ∧ Ext w7 w') (fun a => N.length - a) 0 ?_ ?_
          · simp only [VS, VD, SV, SL, T, Nat.reduceEqDiff, Nat.reduceAdd, Nat.reduceSub, Nat.reduceMul, Nat.reduceLeDiff, Nat.reduceLT, reduceIte, g3, g6, g11, g12, g55, g56, g59, g60]
            exact ⟨by rw [fre_zero], rfl, Nat.zero_le _, Ext.refl _⟩
          clear g3 g6 g11 g12 g55 g56 g59 g60
          rintro a g w8 ⟨g3, g6, g11, g12, g55, g56, g59, g60, g13, g14, g64, g65, ha, hE8⟩
          simp only [VS, VD, SV, SL, T, Nat.reduceEqDiff, Nat.reduceAdd, Nat.reduceSub, Nat.reduceMul, Nat.reduceLeDiff, Nat.reduceLT, reduceIte, g64, g65]
          by_cases hla : (a : Int) < N.length
          · rw [decide_eq_true hla]
            have ha' : a < N.length := by omega
            have hfs := fre_succ N S G b a
            have hkd : kpt N S G b a = (!G a && (rch N (-1) a && (decide ((b : Int) ∈ sc N a) && !S ((a : Int), (b : Int))))) := rfl
            obtain ⟨ds, hdb8, hdz, hdv⟩ := hG7.ext hE8
            have hda := hdv a ha'
            simp only [VS, VD, SV, SL, T, Nat.reduceEqDiff, Nat.reduceAdd, Nat.reduceSub, Nat.reduceMul, Nat.reduceLeDiff, Nat.reduceLT, reduceIte, g12, g65, hdb8, hda, Int.toNat_natCast]
            refine ⟨by omega, ?_⟩
            have hsame : kpt N S G b a = false → fre N S G b (a + 1) = fre N S G b a := fun e => by rw [hfs, e, Bool.not_false, Bool.and_true]
            cases hGa : G a with
            | true =>
              rw [hGa, Bool.not_true, Bool.false_and] at hkd
              simp only [VS, VD, SV, SL, T, Nat.reduceEqDiff, Nat.reduceAdd, Nat.reduceSub, Nat.reduceMul, Nat.reduceLeDiff, Nat.reduceLT, reduceIte, Bool.not_true, g3, g6, g11, g12, g13, g14, g55, g56, g59, g60, g64, g65]
              exact ⟨by omega, a + 1, ⟨by rw [hsame hkd], by simp, by omega, hE8⟩, by omega⟩
            | false =>
              rw [hGa, Bool.not_false, Bool.true_and] at hkd
              obtain ⟨qs, hqb8, hqz, hqv⟩ := hR7.ext hE8
              have hqa := hqv a ha'
              simp only [VS, VD, SV, SL, T, Nat.reduceEqDiff, Nat.reduceAdd, Nat.reduceSub, Nat.reduceMul, Nat.reduceLeDiff, Nat.reduceLT, reduceIte, Bool.not_false, g11, g65, hqb8, hqa, Int.toNat_natCast]
              refine ⟨by omega, ?_⟩
              cases hra : rch N (-1) a with
              | false =>
                rw [hra, Bool.false_and] at hkd
                simp only [VS, VD, SV, SL, T, Nat.reduceEqDiff, Nat.reduceAdd, Nat.reduceSub, Nat.reduceMul, Nat.reduceLeDiff, Nat.reduceLT, reduceIte, g3, g6, g11, g12, g13, g14, g55, g56, g59, g60, g64, g65]
                exact ⟨by omega, a + 1, ⟨by rw [hsame hkd], by simp, by omega, hE8⟩, by omega⟩
              | true =>
                rw [hra, Bool.true_and] at hkd
                have hsx : N[a]'ha' = sc N a := by unfold sc; rw [List.getD_eq_getElem?_getD, List.getElem?_eq_getElem ha']; rfl
                have hrl : (sc N a).length ≤ 2 := by rw [← hsx]; exact hN2 _ (List.getElem_mem ha')
                obtain ⟨rb, ro, rcs, re, rfz, ur, rfl, hrb', hrc, hru⟩ := (hNv.ext (hE7.trans hE8)).get' (i := a) ha'
                rw [hsx] at hru
                generalize sc N a = row at *
                obtain ⟨ra, rc, rfl⟩ := hru.form
                simp only [VS, VD, SV, SL, T, Nat.reduceEqDiff, Nat.reduceAdd, Nat.reduceSub, Nat.reduceMul, Nat.reduceLeDiff, Nat.reduceLT, reduceIte, g3, g13, g65, hrb', hrc, Int.toNat_natCast]
                refine ⟨by omega, ?_⟩
                refine (in_spec _ row (by omega) (b : Int) w8 hru).mono ?_
                rintro _ w9 ⟨rfl, hE9⟩
                replace hE9 := hE8.trans hE9
                by_cases hm : (b : Int) ∈ row
                · rw [decide_eq_true hm, Bool.true_and] at hkd
                  rw [decide_eq_true hm]
                  simp only [VS, VD, SV, SL, T, Nat.reduceEqDiff, Nat.reduceAdd, Nat.reduceSub, Nat.reduceMul, Nat.reduceLeDiff, Nat.reduceLT, reduceIte, g6, g13, g65]
                  refine (hS7.ext hE9).look (a : Int) (b : Int) ?_
                  cases hs : S ((a : Int), (b : Int)) with
                  | true =>
                    rw [hs, Bool.not_true] at hkd
                    simp only [VS, VD, SV, SL, T, Nat.reduceEqDiff, Nat.reduceAdd, Nat.reduceSub, Nat.reduceMul, Nat.reduceLeDiff, Nat.reduceLT, reduceIte, Bool.not_true, g3, g6, g11, g12, g13, g14, g55, g56, g59, g60, g64, g65]
                    exact ⟨by omega, a + 1, ⟨by rw [hsame hkd], by simp, by omega, hE9⟩, by omega⟩
                  | false =>
                    rw [hs, Bool.not_false] at hkd
                    simp only [VS, VD, SV, SL, T, Nat.reduceEqDiff, Nat.reduceAdd, Nat.reduceSub, Nat.reduceMul, Nat.reduceLeDiff, Nat.reduceLT, reduceIte, Bool.not_false, g3, g6, g11, g12, g13, g14, g55, g56, g59, g60, g64, g65]
                    exact ⟨by omega, a + 1, ⟨by rw [hfs, hkd, Bool.not_true, Bool.and_false], by simp, by omega, hE9⟩, by omega⟩
                · rw [decide_eq_false hm, Bool.false_and] at hkd
                  rw [decide_eq_false hm]
                  simp only [VS, VD, SV, SL, T, Nat.reduceEqDiff, Nat.reduceAdd, Nat.reduceSub, Nat.reduceMul, Nat.reduceLeDiff, Nat.reduceLT, reduceIte, g3, g6, g11, g12, g13, g14, g55, g56, g59, g60, g64, g65]
                  exact ⟨by omega, a + 1, ⟨by rw [hsame hkd], by simp, by omega, hE9⟩, by omega⟩
          · rw [decide_eq_false hla]
            obtain rfl : a = N.length := by omega
            simp only [VS, VD, SV, SL, T, Nat.reduceEqDiff, Nat.reduceAdd, Nat.reduceSub, Nat.reduceMul, Nat.reduceLeDiff, Nat.reduceLT, reduceIte, g3, g6, g11, g12, g13, g14, g55, g56, g59, g60]
            exact hE8
        clear g3 g6 g11 g12 g55 g56 g59 g60
        rintro g w8 ⟨g3, g6, g11, g12, g55, g56, g59, g60, g13, g14, hE8⟩
        replace hS7 := hS7.ext hE8
        replace hR7 := hR7.ext hE8
        replace hG7 := hG7.ext hE8
        replace hE8 := hE7.trans hE8
        cases hfr : fre N S G b N.length with
        | false =>
          have hst : gst N S G b = G := by unfold gst; rw [hfr, if_neg (by decide)]
          rw [hfr] at g14
          simp only [VS, VD, SV, SL, T, Nat.reduceEqDiff, Nat.reduceAdd, Nat.reduceSub, Nat.reduceMul, Nat.reduceLeDiff, Nat.reduceLT, reduceIte, g3, g6, g11, g12, g14, g55, g56, g59, g60]
          exact ⟨by omega, b + 1, ⟨by simp, by omega, hE8, hS7, hR7, by rw [hgn, hst]; exact hG7⟩, by omega⟩
        | true =>
          have hst : gst N S G b = setS G b := by unfold gst; rw [hfr, if_pos rfl]
          rw [hfr] at g14
          obtain ⟨ds, hdb8, hdz, hdv⟩ := hG7
          have hBc := BB.set (get_lt hdb8) hdz hdv b
          simp only [VS, VD, SV, SL, T, Nat.reduceEqDiff, Nat.reduceAdd, Nat.reduceSub, Nat.reduceMul, Nat.reduceLeDiff, Nat.reduceLT, reduceIte, g3, g6, g11, g12, g13, g14, g55, g56, g59, g60, hdb8, Int.toNat_natCast]
          refine ⟨by omega, by omega, by omega, b + 1, ⟨by simp, by omega, hE8.putb hdb _, hS7.heap (putb_get_ne hrd _), hR7.heap (putb_get_ne hqd _), by rw [hgn, hst]; exact hBc⟩, by omega⟩
      · rw [decide_eq_false hlb]
        obtain rfl : b = N.length := by omega
        simp only [VS, VD, SV, SL, T, Nat.reduceEqDiff, Nat.reduceAdd, Nat.reduceSub, Nat.reduceMul, Nat.reduceLeDiff, Nat.reduceLT, reduceIte, g3, g6, g11, g12, g55, g56]
        exact ⟨by omega, k + 1, ⟨by simp, by omega, hE7, hS7, hR7, by rw [hgs]; exact hG7⟩, by omega⟩
    · rw [decide_eq_false hlk]
      obtain rfl : k = N.length := by omega
      simp only [VS, VD, SV, SL, T, Nat.reduceEqDiff, Nat.reduceAdd, Nat.reduceSub, Nat.reduceMul, Nat.reduceLeDiff, Nat.reduceLT, reduceIte, g3, g6, g11, g12]
      exact ⟨hE7, hS7, hR7, hG7⟩
  clear g3 g6 hE5 hS4 hR hG0
  rintro g w7 ⟨g3, g6, g11, g12, hE7, hS7, hR7, hG7⟩
  obtain ⟨qs, hqb7, hqz, hqv⟩ := id hR7
  obtain ⟨ds, hdb7, hdz, hdv⟩ := hG7
  simp only [VS, VD, SV, SL, T, Nat.reduceEqDiff, Nat.reduceAdd, Nat.reduceSub, Nat.reduceMul, Nat.reduceLeDiff, Nat.reduceLT, reduceIte, g3]
  refine loop_cB (fun g w' => g 3 = .slice na N.length nc ∧ g 6 = .map (some r) ∧ g 11 = .slice (some ⟨q, 0, none⟩) N.length N.length ∧ w' = w7) ?_ ?_
  · refine LoopP_intro (α := Nat) (fun b g w' => g 3 = .slice na N.length nc ∧ g 6 = .map (some r) ∧ g 11 = .slice (some ⟨q, 0, none⟩) N.length N.length ∧ g 12 = .slice (some ⟨d, 0, none⟩) N.length N.length ∧ g 103 = .int .i64 N.length ∧ g 104 = .int .i64 b ∧ b ≤ N.length ∧ w' = w7) (fun b => N.length - b) 0 ?_ ?_
    · simp only [VS, VD, SV, SL, T, Nat.reduceEqDiff, Nat.reduceAdd, Nat.reduceSub, Nat.reduceMul, Nat.reduceLeDiff, Nat.reduceLT, reduceIte, g3, g6, g11, g12]
      exact ⟨rfl, Nat.zero_le _⟩
    clear g3 g6 g11 g12
    rintro b g w8 ⟨g3, g6, g11, g12, g103, g104, hb, rfl⟩
    simp only [VS, VD, SV, SL, T, Nat.reduceEqDiff, Nat.reduceAdd, Nat.reduceSub, Nat.reduceMul, Nat.reduceLeDiff, Nat.reduceLT, reduceIte, g103, g104]
    by_cases hlb : (b : Int) < N.length
    · rw [decide_eq_true hlb]
      have hb' : b < N.length := by omega
      have hqa := hqv b hb'
      have hda := hdv b hb'
      simp only [VS, VD, SV, SL, T, Nat.reduceEqDiff, Nat.reduceAdd, Nat.reduceSub, Nat.reduceMul, Nat.reduceLeDiff, Nat.reduceLT, reduceIte, g11, g104, hqb7, hqa, Int.toNat_natCast]
      refine ⟨by omega, ?_⟩
      cases hrb : rch N (-1) b with
      | false =>
        simp only [VS, VD, SV, SL, T, Nat.reduceEqDiff, Nat.reduceAdd, Nat.reduceSub, Nat.reduceMul, Nat.reduceLeDiff, Nat.reduceLT, reduceIte, g3, g6, g11, g12, g103, g104]
        exact ⟨by omega, b + 1, ⟨by simp, by omega⟩, by omega⟩
      | true =>
        have hgo := hge hrb
        rw [hgo] at hda
        simp only [VS, VD, SV, SL, T, Nat.reduceEqDiff, Nat.reduceAdd, Nat.reduceSub, Nat.reduceMul, Nat.reduceLeDiff, Nat.reduceLT, reduceIte, g12, g104, hdb7, hda, Int.toNat_natCast, Bool.not_true]
        simp only [VS, VD, SV, SL, T, Nat.reduceEqDiff, Nat.reduceAdd, Nat.reduceSub, Nat.reduceMul, Nat.reduceLeDiff, Nat.reduceLT, reduceIte, g3, g6, g11, g12, g103, g104]
        exact ⟨by omega, by omega, b + 1, ⟨by simp, by omega⟩, by omega⟩
    · rw [decide_eq_false hlb]
      simp only [VS, VD, SV, SL, T, Nat.reduceEqDiff, Nat.reduceAdd, Nat.reduceSub, Nat.reduceMul, Nat.reduceLeDiff, Nat.reduceLT, reduceIte, g3, g6, g11]
  clear g3 g6 g11 g12 hdb7 hdz hdv hqb7 hqz hqv
  rintro g w8 ⟨g3, g6, g11, rfl⟩
  obtain ⟨ml, mc, hm1, hm2, hm3⟩ := id hS7
  have hML : P2.MapL w8 (.map (some r)) ml mc := .inr ⟨r, rfl, hm1, hm2⟩
  have hml : ∀ p ∈ ml, S p.1 = true := fun p hp => by
    have h1 := P2.mget_mem hm2.keys hp
    rw [hm3] at h1
    cases hs : S p.1 with
    | true => rfl
    | false => rw [hs] at h1; cases h1
  simp only [VS, VD, SV, SL, T, Nat.reduceEqDiff, Nat.reduceAdd, Nat.reduceSub, Nat.reduceMul, Nat.reduceLeDiff, Nat.reduceLT, reduceIte, g6]
  refine P2.rV_rangeM T.mp47 hML ?_
  intro w9 hs9 hit9 hh9 hE9
  have hE79 := hE9 w2 hE7
  have hEx9 := hE9 w8 (Ext.refl _)
  generalize hit : w8.heap.size = it at *
  have hitb : w2.heap.size ≤ it := by have := hE7.size; omega
  have hit8 : w8.heap.size ≤ it := by omega
  replace hE79 := hE79
  simp only [VS, VD, SV, SL, T, Nat.reduceEqDiff, Nat.reduceAdd, Nat.reduceSub, Nat.reduceMul, Nat.reduceLeDiff, Nat.reduceLT, reduceIte]
  refine LoopP_intro (α := Array Nat) (fun seen g w' => g 3 = .slice na N.length nc ∧ g 11 = .slice (some ⟨q, 0, none⟩) N.length N.length ∧ g 120 = .pointer (some ⟨it, 0, none⟩) ∧ ItAt w' it (.map (some r)) mc seen ∧ Ext w8 w') (fun seen => (P2.todo ml seen).length) #[] ?_ ?_
  · simp only [VS, VD, SV, SL, T, Nat.reduceEqDiff, Nat.reduceAdd, Nat.reduceSub, Nat.reduceMul, Nat.reduceLeDiff, Nat.reduceLT, reduceIte, g3, g11]
    exact ⟨hit9, hEx9⟩
  clear g3 g6 g11 hit9 hEx9 hh9 hE9
  rintro seen g w10 ⟨g3, g11, g120, hI, hE10⟩
  simp only [VS, VD, SV, SL, T, Nat.reduceEqDiff, Nat.reduceAdd, Nat.reduceSub, Nat.reduceMul, Nat.reduceLeDiff, Nat.reduceLT, reduceIte, g120]
  refine P2.rV_nextM hI (hML.ext hE10) (fun hall => ?_) (fun p hp hns w11 hI11 hh11 hE11 => ?_)
  · simp only [VS, VD, SV, SL, T, Nat.reduceEqDiff, Nat.reduceAdd, Nat.reduceSub, Nat.reduceMul, Nat.reduceLeDiff, Nat.reduceLT, reduceIte]
    exact hΨ _ _ ⟨rfl, (hE2.trans hE7).trans hE10⟩
  · have hE11' := hE11 w8 hE10 hit8
    obtain ⟨a, b, e, ha, hb, hab, hra, hrb⟩ := hS2 p.1 (hml p hp)
    simp only [VS, VD, SV, SL, T, Nat.reduceEqDiff, Nat.reduceAdd, Nat.reduceSub, Nat.reduceMul, Nat.reduceLeDiff, Nat.reduceLT, reduceIte, g120]
    refine P2.rV_entryM hI11 (hML.ext hE11') hp ?_
    rw [e]
    simp only [VS, VD, SV, SL, T, Nat.reduceEqDiff, Nat.reduceAdd, Nat.reduceSub, Nat.reduceMul, Nat.reduceLeDiff, Nat.reduceLT, reduceIte]
    have hE12 := hE11'.alloc (.cells #[.int .i64 a, .int .i64 b] 48)
    have hI12 := it_ext hI11 ((Ext.refl w11).alloc (.cells #[.int .i64 a, .int .i64 b] 48))
    have hcb : (w11.alloc (.cells #[.int .i64 a, .int .i64 b] 48)).heap[w11.heap.size]? = some (.cells #[.int .i64 a, .int .i64 b] 48 (0, 0)) := alloc_get_new _ _
    generalize w11.alloc (.cells #[.int .i64 a, .int .i64 b] 48) = w12 at *
    generalize w11.heap.size = cb at *
    obtain ⟨qs, hqb, hqz, hqv⟩ := hR7.ext hE12
    have hqa := hqv a ha
    have hqb' := hqv b hb
    rw [hra] at hqa
    rw [hrb] at hqb'
    have hsx : N[a]'ha = sc N a := by unfold sc; rw [List.getD_eq_getElem?_getD, List.getElem?_eq_getElem ha]; rfl
    have hrl : (sc N a).length ≤ 2 := by rw [← hsx]; exact hN2 _ (List.getElem_mem ha)
    obtain ⟨rb, ro, rcs, re, rfz, ur, rfl, hrb', hrc, hru⟩ := (hNv.ext (hE7.trans hE12)).get' (i := a) ha
    rw [hsx] at hru
    generalize sc N a = row at *
    obtain ⟨ra, rc, rfl⟩ := hru.form
    have c0 : (#[Value.int .i64 a, Value.int .i64 b] : Array Value)[0]? = some (.int .i64 a) := rfl
    have c1 : (#[Value.int .i64 a, Value.int .i64 b] : Array Value)[1]? = some (.int .i64 b) := rfl
    refine DW_intro (fun n _ v w => n = 7 → v = .bool true) ?_
    simp only [VS, VD, SV, SL, T, Nat.reduceEqDiff, Nat.reduceAdd, Nat.reduceSub, Nat.reduceMul, Nat.reduceLeDiff, Nat.reduceLT, reduceIte, g3, AX, hcb, hrb', hrc, c0, c1, Int.toNat_natCast]
    refine ⟨by omega, ?_⟩
    refine rY_ph rfl rfl (fun _ _ _ h _ => h) (fun w13 hE13 _ => ?_) ?_
    · simp only [VS, VD, SV, SL, T, Nat.reduceEqDiff, Nat.reduceAdd, Nat.reduceSub, Nat.reduceMul, Nat.reduceLeDiff, Nat.reduceLT, reduceIte]
      refine (in_spec _ row (by omega) (b : Int) w13 (hru.ext hE13)).mono ?_
      rintro _ w14 ⟨rfl, hE14⟩
      exact ⟨hE14, fun _ => by rw [decide_eq_true hab]⟩
    rintro v ⟨_, _, _, hv⟩
    obtain rfl := hv rfl
    simp only [VS, VD, SV, SL, T, Nat.reduceEqDiff, Nat.reduceAdd, Nat.reduceSub, Nat.reduceMul, Nat.reduceLeDiff, Nat.reduceLT, reduceIte, Bool.not_true, g11, AX, hcb, hqb, hqa, c0, c1, Int.toNat_natCast]
    refine ⟨by omega, ?_⟩
    intro w13 hE13 _
    have hqb13 := hE13.obj hqb
    simp only [VS, VD, SV, SL, T, Nat.reduceEqDiff, Nat.reduceAdd, Nat.reduceSub, Nat.reduceMul, Nat.reduceLeDiff, Nat.reduceLT, reduceIte, Bool.not_true, g3, g11, g120, hqb13, hqb', Int.toNat_natCast]
    exact ⟨by omega, seen.push p.2.2, ⟨it_ext hI12 hE13, hE12.trans hE13⟩, P2.todo_lt hp hns⟩
end Go.Proofs.Ytlhlbiaibgmapaa
