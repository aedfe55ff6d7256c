/-
  LoopsSections: the walk.
-/
import Derived.Test.YtlhlbiaibgmapaaZLC2
import Derived.Test.YtlhlbiaibgmapaaZLP6
import Derived.Test.YtlhlbiaibgmapaaZLP7
set_option linter.unusedSimpArgs false
set_option linter.unusedVariables false
namespace Go.Proofs.Ytlhlbiaibgmapaa
open Go.W Go.RowKit
theorem hs_more {N : List (List Int)} (hN : NOk N) (h0 : 0 < N.length) {a b : Nat} (ha : RE N a) (hd : ¬ Rc (ED N) (b : Int) a) (hN' : NOk (addE N a b)) (hg : Good N) (h : Nat) : lat (addE N a b) h ≠ [] ↔ lat N h ≠ [] ∨ h = b := by
  have key : ∀ (M : List (List Int)), NOk M → ((lat M h ≠ []) ↔ ∃ x : Nat, (x : Int) ∈ lat M h) := fun M hM => by
    constructor
    · intro hne
      obtain ⟨x, hx⟩ := List.exists_mem_of_ne_nil _ hne
      have := (lat_rng hM hx).1
      exact ⟨x.toNat, by rw [show ((x.toNat : Nat) : Int) = x by omega]; exact hx⟩
    · rintro ⟨x, hx⟩ e
      rw [e] at hx; cases hx
  rw [key _ hN', key _ hN]
  constructor
  · rintro ⟨x, hx⟩
    rcases (lat_more hN h0 ha hd hN' hg x h).1 hx with h1 | ⟨_, h1⟩
    · exact .inl ⟨x, h1⟩
    · exact .inr h1
  · rintro (⟨x, hx⟩ | rfl)
    · exact ⟨x, (lat_more hN h0 ha hd hN' hg x h).2 (.inl hx)⟩
    · exact ⟨a, (lat_more hN h0 ha hd hN' hg a h).2 (.inr ⟨rfl, rfl⟩)⟩
theorem fnd_hds (N : List (List Int)) : (fnd N).map (·.1) = hsL N := by
  refine List.ext_getElem? fun j => ?_
  unfold fnd
  rw [List.getElem?_map]
  by_cases hj : j < (hsL N).length
  · rw [lstF_get hj, List.getElem?_eq_getElem hj, List.getD_eq_getElem?_getD, List.getElem?_eq_getElem hj]
    rfl
  · rw [List.getElem?_eq_none (by rw [lstF_len]; omega), List.getElem?_eq_none (by omega)]
    rfl
/-- a header, or b -/
def HS (L : List Lp) (b : Int) : Int → Bool := fun k => decide (k = b ∨ k ∈ L.map (·.1))
def RM (L K : List Lp) (b : Int) : Int → Bool := fun k => HS L b k && !decide (k ∈ K.map (·.1))
theorem HS_put (L : List Lp) (b : Int) (x : Lp) : setI (HS L b) x.1 = HS (L ++ [x]) b := by
  funext k
  unfold setI HS
  by_cases e : k = x.1
  · rw [if_pos e]
    symm
    refine decide_eq_true (.inr ?_)
    rw [e]
    simp
  · rw [if_neg e]
    refine decide_eq_decide.2 ?_
    simp only [List.map_append, List.mem_append, List.map_cons, List.map_nil, List.mem_singleton, e, or_false]
def delI (S : Int → Bool) (k : Int) : Int → Bool := fun j => if j = k then false else S j
theorem RM_del (L K : List Lp) (b : Int) (x : Lp) : delI (RM L K b) x.1 = RM L (K ++ [x]) b := by
  funext k
  unfold delI RM
  by_cases e : k = x.1
  · rw [if_pos e]
    have : decide (k ∈ (K ++ [x]).map (·.1)) = true := decide_eq_true (by rw [e]; simp)
    rw [this]
    simp
  · rw [if_neg e]
    congr 2
    refine decide_eq_decide.2 ?_
    simp only [List.map_append, List.mem_append, List.map_cons, List.map_nil, List.mem_singleton, e, or_false]
set_option maxRecDepth 10000 in
theorem SetM.del {w : World} {r : Nat} {S : Int → Bool} (h : SetM w r S) {κ : Value → World → Prop} (k : Int) {kt0 ty : TypeId} (hk : ∀ w', (∃ o, w' = w.putb r o) → SetM w' r (delI S k) → κ (.tuple #[]) w') : RunV Try.prog w κ (Builtin.delete_ #[52, kt0] ty #[.map (some r), .int .i64 k]) := by
  obtain ⟨l, c, h1, h2, h3⟩ := h
  refine rV_delete T.me52 h1 h2.1 ?_
  refine hk _ ⟨_, rfl⟩ ⟨_, _, by rw [get_putb _ _ _ _ (get_lt h1), if_pos rfl], h2.del k, fun j => ?_⟩
  rw [mget_mdel, h3]
  unfold delI
  by_cases e : j = k <;> simp [e]
theorem SetM.none' {w : World} {r : Nat} {S : Int → Bool} (h : SetM w r S) (h0 : ∀ k, S k = false) : sLen Try.prog 52 (.map (some r)) w = some (.int .i64 0, w) := by
  obtain ⟨l, c, h1, h2, h3⟩ := h
  have : l = [] := by
    cases l with
    | nil => rfl
    | cons p l =>
      have h4 := mget_mem h2.keys (show p ∈ p :: l by simp)
      rw [h3, h0] at h4
      cases h4
  subst this
  exact sLenM (P := Try.prog) (l := []) (c := c) T.mp52 (.inr ⟨_, rfl, h1, h2⟩)
set_option maxHeartbeats 2000000 in
set_option maxRecDepth 10000 in
theorem LoopsSections_spec (gv : Value) (B : List Blk) (PV : List (List Int)) (x y : Int) (w : World) (h : GrAt w gv B PV) (hB : B.length ≤ 2000000) (hx : 0 ≤ x ∧ x ≤ 255) (hy : 0 ≤ y ∧ y ≤ 255) : VRet Try.prog 8 #[gv, .int .u8 x, .int .u8 y] w fun v w' => v = .bool true ∧ Ext w w' := by
  obtain ⟨bs, pv, rfl, hb0, hp0⟩ := h
  obtain ⟨ba, bc, rfl⟩ := hb0.form
  obtain ⟨pa, pc, rfl⟩ := hp0.form'
  refine VRet_start T.mo ok8 rfl fun Ψ hΨ => ?_; simp only [vc8, rs8]
  simp only [VS, VD, SV, SL, T, Nat.reduceEqDiff, Nat.reduceAdd, Nat.reduceSub, Nat.reduceMul, Nat.reduceLeDiff, Nat.reduceLT, reduceIte]
  refine (awake_spec _).mono ?_
  rintro _ w1 ⟨rfl, hE1⟩
  replace hE1 := ((Ext.refl w).alloc tomb).trans hE1
  simp only [VS, VD, SV, SL, T, Nat.reduceEqDiff, Nat.reduceAdd, Nat.reduceSub, Nat.reduceMul, Nat.reduceLeDiff, Nat.reduceLT, reduceIte, Bool.not_true]
  refine (found_spec _ B PV hB w1 ⟨_, _, rfl, hb0.ext hE1, hp0.ext hE1⟩).mono ?_
  rintro _ w2 ⟨hE2, hc⟩
  replace hE2 := hE1.trans hE2
  rcases hc with ⟨a, n, c, a', n', c', rfl⟩ | ⟨h14, hV, hbad, nv, lv, rfl, hNv, hL⟩
  · simp only [VS, VD, SV, SL, T, Nat.reduceEqDiff, Nat.reduceAdd, Nat.reduceSub, Nat.reduceMul, Nat.reduceLeDiff, Nat.reduceLT, reduceIte, Bool.not_false]
    exact hΨ _ _ ⟨rfl, hE2⟩
  obtain ⟨na, nc, rfl⟩ := hNv.form'
  obtain ⟨la, lc, rfl⟩ := hL.form
  have hG : ∀ w', Ext w2 w' → GrAt w' (.agg #[.slice ba B.length bc, .slice pa PV.length pc]) B PV := fun w' hE => ⟨_, _, rfl, hb0.ext (hE2.trans hE), hp0.ext (hE2.trans hE)⟩
  have hNV := VG_nv hV
  have hNl : (nx B).length = B.length := by unfold nx; rw [List.length_map]
  have hgd := good_of hbad
  have hTr := fun w' hE => Tree_spec _ B PV hB w' (hG w' hE)
  have hOr := fun w' hE => Order_spec _ B PV hB w' (hG w' hE)
  generalize hNN : nx B = N at *
  have hN := hNV.ok
  have hN0 := hNV.pos
  have hol := ord_le hN hN0
  rw [hNl] at hNv
  rw [hNl]
  have d0 : decide ((B.length : Int) = 0) = false := decide_eq_false (by omega)
  simp only [VS, VD, SV, SL, T, Nat.reduceEqDiff, Nat.reduceAdd, Nat.reduceSub, Nat.reduceMul, Nat.reduceLeDiff, Nat.reduceLT, reduceIte, Bool.not_true, d0]
  have hbl : (B.length : Int) ≠ 0 := by omega
  refine DW_c (fun g w3 => g 3 = .agg #[.slice ba B.length bc, .slice pa PV.length pc] ∧ g 7 = .slice na B.length nc ∧ g 8 = .slice la (fnd N).length lc ∧ g 10 = .int .i64 (x % B.length) ∧ g 11 = .int .i64 (y % B.length) ∧ Ext w2 w3) ?_ ?_
  · refine DW_intro (fun _ _ _ _ => True) ?_
    simp only [VS, VD, SV, SL, T, Nat.reduceEqDiff, Nat.reduceAdd, Nat.reduceSub, Nat.reduceMul, Nat.reduceLeDiff, Nat.reduceLT, reduceIte, hbl]
    refine ⟨by omega, by omega, by omega, by omega, ?_⟩
    intro w3 hE3 _
    simp only [VS, VD, SV, SL, T, Nat.reduceEqDiff, Nat.reduceAdd, Nat.reduceSub, Nat.reduceMul, Nat.reduceLeDiff, Nat.reduceLT, reduceIte]
    exact hE3
  rintro g w3 ⟨g3, g7, g8, g10, g11, hE3⟩
  have ha0 : 0 ≤ x % B.length := Int.emod_nonneg _ (by omega)
  have ha1 : x % B.length < B.length := Int.emod_lt_of_pos _ (by omega)
  have hb0' : 0 ≤ y % B.length := Int.emod_nonneg _ (by omega)
  have hb1' : y % B.length < B.length := Int.emod_lt_of_pos _ (by omega)
  generalize x % B.length = xa at *
  generalize y % B.length = yb at *
  obtain ⟨a, rfl⟩ := Int.eq_ofNat_of_zero_le ha0
  obtain ⟨b, rfl⟩ := Int.eq_ofNat_of_zero_le hb0'
  have han : a < N.length := by omega
  have hbn : b < N.length := by omega
  simp only [VS, VD, SV, SL, T, Nat.reduceEqDiff, Nat.reduceAdd, Nat.reduceSub, Nat.reduceMul, Nat.reduceLeDiff, Nat.reduceLT, reduceIte, g3]
  refine (hTr w3 hE3).mono ?_
  rintro v4 w4 ⟨hE4, _, h4⟩
  obtain ⟨F, tg, tc, rfl, _, hI4, hTO⟩ := h4 hV
  replace hE4 := hE3.trans hE4
  simp only [VS, VD, SV, SL, T, Nat.reduceEqDiff, Nat.reduceAdd, Nat.reduceSub, Nat.reduceMul, Nat.reduceLeDiff, Nat.reduceLT, reduceIte, g3]
  refine (hOr w4 hE4).mono ?_
  rintro v5 w5 ⟨hE5, _, h5⟩
  obtain ⟨og, oc, rfl, _, _, hO5⟩ := h5 hV
  replace hI4 := hI4.ext hE5
  replace hE5 := hE4.trans hE5
  have htl : ((List.range B.length).map F).length = B.length := by simp
  have hdI : domI ((List.range B.length).map F) b a = true ↔ RE N a ∧ ¬ Rc (ED N) (b : Int) a ∨ (¬ RE N a ∧ domI ((List.range B.length).map F) b a = true) := by
    by_cases hr : RE N a
    · rw [← hNl, domI_an hN hN0 hTO hbn han, hTO.dom a b hr]
      simp [hr]
    · simp [hr]
  generalize (List.range B.length).map F = tre at *
  have hNv5 := hNv.ext hE5
  obtain ⟨nb, no, ncs, ne, nfz, u, rfl, hnb, hncu, hu0⟩ := IntssAt.get' (n := B.length) hNv5 han
  have hsc : N[a] = sc N a := by unfold sc; rw [List.getD_eq_getElem?_getD, List.getElem?_eq_getElem han]; rfl
  rw [hsc] at hu0
  have hscl : (sc N a).length ≤ 2 := by rw [← hsc]; exact hNV.two _ (List.getElem_mem han)
  obtain ⟨ua, uc, rfl⟩ := hu0.form
  simp only [VS, VD, SV, SL, T, Nat.reduceEqDiff, Nat.reduceAdd, Nat.reduceSub, Nat.reduceMul, Nat.reduceLeDiff, Nat.reduceLT, reduceIte, g10]
  refine (in_spec _ (ord N) (by omega) (a : Int) w5 hO5).mono ?_
  rintro _ w6 ⟨rfl, hE6⟩
  have hnb6 := hE6.obj hnb
  simp only [VS, VD, SV, SL, T, Nat.reduceEqDiff, Nat.reduceAdd, Nat.reduceSub, Nat.reduceMul, Nat.reduceLeDiff, Nat.reduceLT, reduceIte]
  refine YG_c (fun g' w7 => g' 3 = .agg #[.slice ba B.length bc, .slice pa PV.length pc] ∧ g' 7 = .slice (some ⟨nb, no, none⟩) B.length nc ∧ g' 8 = .slice la (fnd N).length lc ∧ g' 10 = .int .i64 a ∧ g' 11 = .int .i64 b ∧ Ext w6 w7 ∧ (g' 76 = .bool true ∨ (g' 76 = .bool false ∧ RE N a ∧ ¬ Rc (ED N) (b : Int) a ∧ (b : Int) ∉ sc N a ∧ (sc N a).length ≤ 1))) ?_ ?_
  · by_cases hra : (a : Int) ∈ ord N
    · have hRa : RE N a := mem_ord.1 hra
      rw [decide_eq_true hra]
      simp only [VS, VD, SV, SL, T, Nat.reduceEqDiff, Nat.reduceAdd, Nat.reduceSub, Nat.reduceMul, Nat.reduceLeDiff, Nat.reduceLT, reduceIte, Bool.not_true, g10, g11]
      refine (Dominates_spec _ tre (by omega) (b : Int) (a : Int) w6 (hI4.ext hE6)).mono ?_
      rintro _ w7 ⟨rfl, hE7⟩
      have hnb7 := hE7.obj hnb6
      cases hD : domI tre b a with
      | false =>
        simp only [VS, VD, SV, SL, T, Nat.reduceEqDiff, Nat.reduceAdd, Nat.reduceSub, Nat.reduceMul, Nat.reduceLeDiff, Nat.reduceLT, reduceIte, Bool.not_false, g3, g7, g8, g10, g11]
        exact ⟨hE7, .inl trivial⟩
      | true =>
        have hdom : ¬ Rc (ED N) (b : Int) a := by
          rcases hdI.1 hD with h | h
          · exact h.2
          · exact (h.1 hRa).elim
        simp only [VS, VD, SV, SL, T, Nat.reduceEqDiff, Nat.reduceAdd, Nat.reduceSub, Nat.reduceMul, Nat.reduceLeDiff, Nat.reduceLT, reduceIte, Bool.not_true, g7, g10, g11, hnb7, hncu, Int.toNat_natCast]
        refine ⟨by omega, ?_⟩
        refine (in_spec _ (sc N a) (by omega) (b : Int) w7 ((hu0.ext hE6).ext hE7)).mono ?_
        rintro _ w8 ⟨rfl, hE8⟩
        have hnb8 := hE8.obj hnb7
        by_cases hm : (b : Int) ∈ sc N a
        · rw [decide_eq_true hm]
          simp only [VS, VD, SV, SL, T, Nat.reduceEqDiff, Nat.reduceAdd, Nat.reduceSub, Nat.reduceMul, Nat.reduceLeDiff, Nat.reduceLT, reduceIte, g3, g7, g8, g10, g11]
          exact ⟨hE7.trans hE8, .inl trivial⟩
        · rw [decide_eq_false hm]
          simp only [VS, VD, SV, SL, T, Nat.reduceEqDiff, Nat.reduceAdd, Nat.reduceSub, Nat.reduceMul, Nat.reduceLeDiff, Nat.reduceLT, reduceIte, g7, g10, hnb8, hncu, Int.toNat_natCast]
          refine ⟨by omega, ?_⟩
          simp only [VS, VD, SV, SL, T, Nat.reduceEqDiff, Nat.reduceAdd, Nat.reduceSub, Nat.reduceMul, Nat.reduceLeDiff, Nat.reduceLT, reduceIte, g3, g7, g8, g10, g11]
          refine ⟨hE7.trans hE8, ?_⟩
          by_cases h1 : 1 < ((sc N a).length : Int)
          · exact .inl (by rw [decide_eq_true h1])
          · exact .inr ⟨by rw [decide_eq_false h1], hRa, hdom, hm, by omega⟩
    · rw [decide_eq_false hra]
      simp only [VS, VD, SV, SL, T, Nat.reduceEqDiff, Nat.reduceAdd, Nat.reduceSub, Nat.reduceMul, Nat.reduceLeDiff, Nat.reduceLT, reduceIte, Bool.not_false, g3, g7, g8, g10, g11]
      exact ⟨Ext.refl _, .inl trivial⟩
  clear g3 g7 g8 g10 g11
  rintro g w7 ⟨g3, g7, g8, g10, g11, hE7, hcase⟩
  have hE7' := hE7
  replace hE7 := (hE5.trans hE6).trans hE7
  rcases hcase with g76 | ⟨g76, hRa, hdom, hnm, hsl⟩
  · simp only [VS, VD, SV, SL, T, Nat.reduceEqDiff, Nat.reduceAdd, Nat.reduceSub, Nat.reduceMul, Nat.reduceLeDiff, Nat.reduceLT, reduceIte, g76]
    exact hΨ _ _ ⟨rfl, hE2.trans hE7⟩
  have hNV2 := addE_nv hNV han hbn hsl hnm
  have hN6 := hNv.ext hE7
  simp only [VS, VD, SV, SL, T, Nat.reduceEqDiff, Nat.reduceAdd, Nat.reduceSub, Nat.reduceMul, Nat.reduceLeDiff, Nat.reduceLT, reduceIte, g76, g7]
  refine app_intss (empty_own w7 36) hN6 ((Ext.refl w7).alloc _) hN0 (by omega) (by rw [alloc_size]; omega) ?_
  rintro v8 w8 ⟨mg, mcap, mcs, rfl, hmg, hmb, hms, hmn, hmv⟩ hg8
  have hE8 : Ext w7 w8 := ((Ext.refl w7).alloc _).grownO (empty_own w7 36) (Nat.le_refl _) hg8
  have hnb8 := (hE6.trans (hE7'.trans hE8)).obj hnb
  have hu8 := hu0.ext (hE6.trans (hE7'.trans hE8))
  have hmgl := get_lt hmb
  have hnl := get_lt hnb8
  have hnbne : ¬ nb = w8.heap.size := by omega
  simp only [VS, VD, SV, SL, T, Nat.reduceEqDiff, Nat.reduceAdd, Nat.reduceSub, Nat.reduceMul, Nat.reduceLeDiff, Nat.reduceLT, reduceIte, g7, g10, g11, hnb8, hncu, hnbne, Int.toNat_natCast]
  refine ⟨by omega, ?_⟩
  have ho8 : IntO w8.heap.size (w8.alloc (.cells #[] 3)) (.slice (some ⟨w8.heap.size, 0, none⟩) 0 0) [] := empty_own w8 3
  refine app_ints ho8 (hu8.ext ((Ext.refl w8).alloc _)) (by simp; omega) (by rw [alloc_size]; omega) ?_
  intro v9 w9 ho9 hg9 hn9
  have hE9 : Ext w8 w9 := ((Ext.refl w8).alloc _).grownO ho8 (Nat.le_refl _) hg9
  rw [List.nil_append] at ho9
  simp only [VS, VD, SV, SL, T, Nat.reduceEqDiff, Nat.reduceAdd, Nat.reduceSub, Nat.reduceMul, Nat.reduceLeDiff, Nat.reduceLT, reduceIte, g11]
  refine app_int ho9 (by omega) hE9.size b ?_
  intro v10 w10 ho10 hg10 hn10
  have hE10 : Ext w8 w10 := hE9.grownO ho9 (Nat.le_refl _) hg10
  have hmb10 := hE10.obj hmb
  obtain ⟨va, vc, rfl⟩ := own_form ho10
  simp only [VS, VD, SV, SL, T, Nat.reduceEqDiff, Nat.reduceAdd, Nat.reduceSub, Nat.reduceMul, Nat.reduceLeDiff, Nat.reduceLT, reduceIte, g10, hmb10, Int.toNat_natCast]
  refine ⟨by omega, by omega, ?_⟩
  have hE11 : Ext w7 (w10.putb mg (.cells (mcs.setIfInBounds a (.slice va (sc N a ++ [(b : Int)]).length vc)) 36 (0, 0))) := (hE8.trans hE10).putb hmg _
  have hmore : IntssAt (w10.putb mg (.cells (mcs.setIfInBounds a (.slice va (sc N a ++ [(b : Int)]).length vc)) 36 (0, 0))) (.slice (some ⟨mg, 0, none⟩) B.length mcap) (addE N a b) := by
    refine .inr ⟨mg, 0, mcap, by rw [addE_len, hNl], fun i l hl => ?_⟩
    have hmg9 := get_lt hmb10
    rw [cell_mk, get_putb _ _ _ _ hmg9, if_pos rfl, Nat.zero_add]
    simp only []
    rw [Array.getElem?_setIfInBounds]
    unfold addE at hl
    rw [List.getElem?_set] at hl
    by_cases e : a = i
    · subst e
      rw [if_pos rfl, if_pos han] at hl
      rw [if_pos rfl, if_pos (by omega)]
      refine ⟨_, rfl, ?_⟩
      rw [← Option.some.inj hl]
      refine IntO.ints (base := w8.heap.size) (own_at ho10 fun x hx => ?_)
      have := (ho10.lt x hx).1
      rw [putb_get_ne (by omega)]
    · rw [if_neg e] at hl ⊢
      obtain ⟨x, hx, hxI⟩ := hmv i l hl
      exact ⟨x, hx, hxI.ext hE11⟩
  generalize w10.putb mg (.cells (mcs.setIfInBounds a (.slice va (sc N a ++ [(b : Int)]).length vc)) 36 (0, 0)) = w11 at *
  rw [hNl]
  refine (Graph_spec hNV2.ok hNV2.two (by rw [addE_len]; omega) _ w11 hmore).mono ?_
  rintro gv2 w12 ⟨hE12, hG12⟩
  have hVG2 := VG_blks hNV2
  have hnx2 := nx_blks (addE N a b)
  have hbl2 : (blks (addE N a b) (addE N a b).length).length = B.length := by rw [blks_len, addE_len, hNl]
  have hgd2 := good_more hN hN0 hRa hdom hNV2.ok hgd
  have hbad2 : (edg 0 (addE N a b)).find? (badE (addE N a b)) = none := List.find?_eq_none.2 fun e he => by rw [hgd2 e he]; decide
  have hh2 := hs_more hN hN0 hRa hdom hNV2.ok hgd
  have hlm := lat_more hN hN0 hRa hdom hNV2.ok hgd
  simp only [VS, VD, SV, SL, T, Nat.reduceEqDiff, Nat.reduceAdd, Nat.reduceSub, Nat.reduceMul, Nat.reduceLeDiff, Nat.reduceLT, reduceIte]
  refine (Find_spec _ (blks (addE N a b) (addE N a b).length) _ (by omega) w12 hG12).mono ?_
  rintro v13 w13 ⟨⟨_, hF⟩, hE13⟩
  obtain ⟨_, hF⟩ := hF hVG2
  rw [hnx2] at hF
  obtain ⟨lv2, rfl, hL2⟩ := hF hbad2
  obtain ⟨la2, lc2, rfl⟩ := hL2.form
  have hE713 := (hE11.trans hE12).trans hE13
  have d3 : decide (¬ (0 : Int) = 0) = false := rfl
  have hLl := fnd_len N
  have hLl2 := fnd_len (addE N a b)
  rw [addE_len] at hLl2
  have hfa := fun {i : Nat} (hi : i < (fnd (addE N a b)).length) => fnd_at hi
  have hnst := fnd_nst hNV2.ok (by rw [addE_len]; exact hN0) hgd2
  have hmem1 : ∀ k : Int, k ∈ (fnd N).map (·.1) ↔ lat N k ≠ [] := fun k => by rw [fnd_hds]; exact hsL_mem hN
  have hmem2 : ∀ k : Int, k ∈ (fnd (addE N a b)).map (·.1) ↔ lat (addE N a b) k ≠ [] := fun k => by rw [fnd_hds]; exact hsL_mem hNV2.ok
  have hL13 := hL.ext (hE7.trans hE713)
  have hE2' := (hE2.trans hE7).trans hE713
  have hlen : ∀ k : Nat, (lat (addE N a b) k).length ≤ 1000 := fun k => by
    have h1 := latL_len (addE N a b) (edg 0 (addE N a b)) (k : Int)
    have h2 := edg_len (addE N a b) 0 hNV2.two
    rw [addE_len] at h2
    unfold lat
    omega
  clear hE713 hE13 hF hG12 hE12 hmore hE11 hmb10 hE10 hn10 hg10 ho10 hE9 ho9 hg9 hn9 ho8 hu8 hnb8 hE8 hg8 hmv hms hmn hmb hN6 hI4 hO5 hnb hncu hu0 hTr hOr hG hb0 hp0 hdI hNv5
  generalize fnd N = L at *
  generalize fnd (addE N a b) = K at *
  simp only [VS, VD, SV, SL, T, Nat.reduceEqDiff, Nat.reduceAdd, Nat.reduceSub, Nat.reduceMul, Nat.reduceLeDiff, Nat.reduceLT, reduceIte, d3, g8, g11]
  rw [oV_insert]
  simp only [VS, VD, SV, SL, T, Nat.reduceEqDiff, Nat.reduceAdd, Nat.reduceSub, Nat.reduceMul, Nat.reduceLeDiff, Nat.reduceLT, reduceIte]
  have hS0 := SetM.new w13
  have hE14 := (Ext.refl w13).alloc (.map #[] 0)
  generalize w13.alloc (.map #[] 0) = w14 at *
  refine hS0.put (b : Int) ?_
  rintro w15 ⟨o, rfl⟩ hS15
  have hE15 := hE14.putb (Nat.le_refl _) o
  generalize w14.putb w13.heap.size o = w15 at *
  have e0 : setI (fun _ => false) (b : Int) = HS [] b := by
    funext k
    unfold setI HS
    by_cases e : k = b <;> simp [e]
  rw [e0] at hS15
  generalize hr : w13.heap.size = r at *
  simp only [VS, VD, SV, SL, T, Nat.reduceEqDiff, Nat.reduceAdd, Nat.reduceSub, Nat.reduceMul, Nat.reduceLeDiff, Nat.reduceLT, reduceIte, g8]
  refine loop_cB (fun g w' => g 10 = .int .i64 a ∧ g 11 = .int .i64 b ∧ g 14 = .slice la2 K.length lc2 ∧ g 17 = .map (some r) ∧ Ext w13 w' ∧ SetM w' r (HS L b)) ?_ ?_
  · refine LoopP_intro (α := Nat) (fun i g w' => g 10 = .int .i64 a ∧ g 11 = .int .i64 b ∧ g 14 = .slice la2 K.length lc2 ∧ g 17 = .map (some r) ∧ g 104 = .slice la L.length lc ∧ g 105 = .int .i64 L.length ∧ g 106 = .int .i64 i ∧ i ≤ L.length ∧ Ext w13 w' ∧ SetM w' r (HS (L.take i) b)) (fun i => L.length - i) 0 ?_ ?_
    · simp only [VS, VD, SV, SL, T, Nat.reduceEqDiff, Nat.reduceAdd, Nat.reduceSub, Nat.reduceMul, Nat.reduceLeDiff, Nat.reduceLT, reduceIte, g10, g11]
      exact ⟨rfl, Nat.zero_le _, hE15, by simpa using hS15⟩
    clear g3 g7 g8 g10 g11 g76
    rintro i g w' ⟨g10, g11, g14, g17, g104, g105, g106, hi, hE, hS⟩
    simp only [VS, VD, SV, SL, T, Nat.reduceEqDiff, Nat.reduceAdd, Nat.reduceSub, Nat.reduceMul, Nat.reduceLeDiff, Nat.reduceLT, reduceIte, g105, g106]
    by_cases hlt : (i : Int) < L.length
    · rw [decide_eq_true hlt]
      have hi' : i < L.length := by omega
      have htk : L.take (i + 1) = L.take i ++ [L[i]] := List.take_succ_eq_append_getElem hi'
      obtain ⟨lb, lo, lcs, le, lfz, u, u', rfl, hlb, hls, hlv, hlx, hu, hu'⟩ := (hL13.ext hE).get hi'
      have hput := HS_put (L.take i) (b : Int) L[i]
      generalize L[i] = z at *
      obtain ⟨hd, bl, lt, pr⟩ := z
      simp only [] at hlv hlx hu hu' hput
      obtain ⟨ua1, uc1, rfl⟩ := hu.form
      obtain ⟨ua2, uc2, rfl⟩ := hu'.form
      simp only [VS, VD, SV, SL, T, Nat.reduceEqDiff, Nat.reduceAdd, Nat.reduceSub, Nat.reduceMul, Nat.reduceLeDiff, Nat.reduceLT, reduceIte, g17, g104, g106, hlb, hls, hlv, Int.toNat_natCast]
      refine ⟨by omega, ?_⟩
      have hSt := hS.ext ((Ext.refl w').alloc tomb)
      have hEt := hE.alloc tomb
      generalize w'.alloc tomb = w16 at *
      refine hSt.put hd ?_
      rintro w17 ⟨o2, rfl⟩ hS17
      rw [hput, ← htk] at hS17
      simp only [VS, VD, SV, SL, T, Nat.reduceEqDiff, Nat.reduceAdd, Nat.reduceSub, Nat.reduceMul, Nat.reduceLeDiff, Nat.reduceLT, reduceIte, g10, g11, g14, g17, g104, g105, g106]
      exact ⟨by omega, i + 1, ⟨by simp, by omega, hEt.putb (by omega) o2, hS17⟩, by omega⟩
    · rw [decide_eq_false hlt]
      rw [List.take_of_length_le (by omega)] at hS
      simp only [VS, VD, SV, SL, T, Nat.reduceEqDiff, Nat.reduceAdd, Nat.reduceSub, Nat.reduceMul, Nat.reduceLeDiff, Nat.reduceLT, reduceIte, g10, g11, g14, g17]
      exact ⟨hE, hS⟩
  clear g3 g7 g8 g10 g11 g76
  rintro g w16 ⟨g10, g11, g14, g17, hE16, hS16⟩
  simp only [VS, VD, SV, SL, T, Nat.reduceEqDiff, Nat.reduceAdd, Nat.reduceSub, Nat.reduceMul, Nat.reduceLeDiff, Nat.reduceLT, reduceIte, g14]
  refine loop_cB (fun g w' => g 17 = .map (some r) ∧ Ext w13 w' ∧ SetM w' r (RM L K b)) ?_ ?_
  · refine LoopP_intro (α := Nat) (fun i g w' => g 10 = .int .i64 a ∧ g 11 = .int .i64 b ∧ g 17 = .map (some r) ∧ g 114 = .slice la2 K.length lc2 ∧ g 115 = .int .i64 K.length ∧ g 116 = .int .i64 i ∧ i ≤ K.length ∧ Ext w13 w' ∧ SetM w' r (RM L (K.take i) b)) (fun i => K.length - i) 0 ?_ ?_
    · simp only [VS, VD, SV, SL, T, Nat.reduceEqDiff, Nat.reduceAdd, Nat.reduceSub, Nat.reduceMul, Nat.reduceLeDiff, Nat.reduceLT, reduceIte, g10, g11, g17]
      refine ⟨rfl, Nat.zero_le _, hE16, ?_⟩
      have : RM L (K.take 0) b = HS L b := by funext k; unfold RM; simp
      rw [this]
      exact hS16
    clear g10 g11 g14 g17
    rintro i g w' ⟨g10, g11, g17, g114, g115, g116, hi, hE, hS⟩
    simp only [VS, VD, SV, SL, T, Nat.reduceEqDiff, Nat.reduceAdd, Nat.reduceSub, Nat.reduceMul, Nat.reduceLeDiff, Nat.reduceLT, reduceIte, g115, g116]
    by_cases hlt : (i : Int) < K.length
    · rw [decide_eq_true hlt]
      have hi' : i < K.length := by omega
      have htk : K.take (i + 1) = K.take i ++ [K[i]] := List.take_succ_eq_append_getElem hi'
      obtain ⟨lb, lo, lcs, le, lfz, u, u', rfl, hlb, hls, hlv, hlx, hu, hu'⟩ := ((hL2.ext hE).get hi')
      have hdel := RM_del L (K.take i) (b : Int) K[i]
      have hin : RM L (K.take i) b K[i].1 = true := by
        have h1 : K[i].1 ∈ K.map (·.1) := List.mem_map.2 ⟨_, List.getElem_mem hi', rfl⟩
        have h2 : K[i].1 ∉ (K.take i).map (·.1) := fun hm => by
          obtain ⟨q, hq, e⟩ := List.mem_map.1 hm
          obtain ⟨j, hj, rfl⟩ := List.getElem_of_mem hq
          rw [List.getElem_take] at e
          rw [List.length_take] at hj
          have := hnst.hd j i (by omega) hi' e
          omega
        obtain ⟨hh, pp, e, _, hne, _⟩ := hfa hi'
        unfold RM HS
        rw [decide_eq_false h2, Bool.not_false, Bool.and_true]
        refine decide_eq_true ?_
        rw [hmem1, e]
        simp only []
        rcases (hh2 hh).1 hne with h3 | h3
        · exact .inr h3
        · exact .inl (by omega)
      obtain ⟨hh, pp, e, _, hne, _⟩ := hfa hi'
      rw [e] at hlv hu hu' hdel hin htk
      simp only [] at hlv hu hu' hdel hin
      clear e hlx
      have hll := hlen hh
      obtain ⟨ua1, uc1, rfl⟩ := hu.form
      obtain ⟨ua2, uc2, rfl⟩ := hu'.form
      simp only [VS, VD, SV, SL, T, Nat.reduceEqDiff, Nat.reduceAdd, Nat.reduceSub, Nat.reduceMul, Nat.reduceLeDiff, Nat.reduceLT, reduceIte, g17, g114, g116, hlb, hls, hlv, Int.toNat_natCast]
      refine ⟨by omega, ?_⟩
      have hSt := hS.ext ((Ext.refl w').alloc tomb)
      have hut' := hu'.ext ((Ext.refl w').alloc tomb)
      have hEt := hE.alloc tomb
      generalize w'.alloc tomb = w17 at *
      refine hSt.look (hh : Int) ?_
      rw [hin]
      simp only [VS, VD, SV, SL, T, Nat.reduceEqDiff, Nat.reduceAdd, Nat.reduceSub, Nat.reduceMul, Nat.reduceLeDiff, Nat.reduceLT, reduceIte, Bool.not_true, g11]
      refine YG_c (fun g' w18 => g' 10 = .int .i64 a ∧ g' 11 = .int .i64 b ∧ g' 17 = .map (some r) ∧ g' 114 = .slice (some ⟨lb, lo, none⟩) K.length lc2 ∧ g' 115 = .int .i64 K.length ∧ g' 116 = .int .i64 i ∧ g' 21 = .agg #[.int .i64 hh, .slice ua1 (ascL (addE N a b).length (bdS (addE N a b) hh (lat (addE N a b) hh))).length uc1, .slice ua2 (lat (addE N a b) hh).length uc2, .int .i64 pp] ∧ g' 137 = .bool false ∧ Ext w17 w18) ?_ ?_
      · by_cases hb2 : hh = b
        · have d5 : decide ((hh : Int) = (b : Int)) = true := decide_eq_true (by omega)
          simp only [VS, VD, SV, SL, T, Nat.reduceEqDiff, Nat.reduceAdd, Nat.reduceSub, Nat.reduceMul, Nat.reduceLeDiff, Nat.reduceLT, reduceIte, d5, g10]
          refine (in_spec _ (lat (addE N a b) hh) (by omega) (a : Int) w17 hut').mono ?_
          rintro _ w18 ⟨rfl, hE18⟩
          have hma : (a : Int) ∈ lat (addE N a b) hh := (hlm a hh).2 (.inr ⟨rfl, hb2⟩)
          rw [decide_eq_true hma]
          simp only [VS, VD, SV, SL, T, Nat.reduceEqDiff, Nat.reduceAdd, Nat.reduceSub, Nat.reduceMul, Nat.reduceLeDiff, Nat.reduceLT, reduceIte, Bool.not_true, g10, g11, g17, g114, g115, g116]
          exact hE18
        · have d5 : decide ((hh : Int) = (b : Int)) = false := decide_eq_false (by omega)
          simp only [VS, VD, SV, SL, T, Nat.reduceEqDiff, Nat.reduceAdd, Nat.reduceSub, Nat.reduceMul, Nat.reduceLeDiff, Nat.reduceLT, reduceIte, d5, g10, g11, g17, g114, g115, g116]
          exact Ext.refl _
      clear g10 g11 g17 g114 g115 g116
      rintro g w18 ⟨g10, g11, g17, g114, g115, g116, g21, g137, hE18⟩
      simp only [VS, VD, SV, SL, T, Nat.reduceEqDiff, Nat.reduceAdd, Nat.reduceSub, Nat.reduceMul, Nat.reduceLeDiff, Nat.reduceLT, reduceIte, g137, g17, g21]
      refine (hSt.ext hE18).del (hh : Int) ?_
      rintro w19 ⟨o3, rfl⟩ hS19
      rw [hdel, ← htk] at hS19
      simp only [VS, VD, SV, SL, T, Nat.reduceEqDiff, Nat.reduceAdd, Nat.reduceSub, Nat.reduceMul, Nat.reduceLeDiff, Nat.reduceLT, reduceIte, g10, g11, g17, g114, g115, g116]
      exact ⟨by omega, i + 1, ⟨by simp, by omega, (hEt.trans hE18).putb (by omega) o3, hS19⟩, by omega⟩
    · rw [decide_eq_false hlt]
      rw [List.take_of_length_le (by omega)] at hS
      simp only [VS, VD, SV, SL, T, Nat.reduceEqDiff, Nat.reduceAdd, Nat.reduceSub, Nat.reduceMul, Nat.reduceLeDiff, Nat.reduceLT, reduceIte, g17]
      exact ⟨hE, hS⟩
  clear g10 g11 g14 g17
  rintro g w17 ⟨g17, hE17, hS17⟩
  have hc := hS17.none' fun k => by
    unfold RM
    by_cases h : k ∈ K.map (·.1)
    · rw [decide_eq_true h]; simp
    · have h1 : HS L b k = false := by
        refine decide_eq_false ?_
        rintro (rfl | h2)
        · exact h ((hmem2 _).2 ((hh2 b).2 (.inr rfl)))
        · rw [hmem1] at h2
          obtain ⟨x1, hx1⟩ := List.exists_mem_of_ne_nil _ h2
          have h3 := (lat_rng hN hx1).2
          have := (hh2 k.toNat).2 (.inl (by rw [show ((k.toNat : Nat) : Int) = k by omega]; exact h2))
          rw [show ((k.toNat : Nat) : Int) = k by omega] at this
          exact h ((hmem2 _).2 this)
      rw [h1]; rfl
  have d9 : decide ((0 : Int) = 0) = true := rfl
  simp only [VS, VD, SV, SL, T, Nat.reduceEqDiff, Nat.reduceAdd, Nat.reduceSub, Nat.reduceMul, Nat.reduceLeDiff, Nat.reduceLT, reduceIte, g17, hc, d9]
  exact hΨ _ _ ⟨rfl, hE2'.trans hE17⟩
end Go.Proofs.Ytlhlbiaibgmapaa
