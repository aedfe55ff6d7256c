/-
  persist: PersistParts, PersistFits.
-/
import Derived.Test.YtneipineehichaaZPC5
set_option linter.unusedSimpArgs false
set_option linter.unusedVariables false
namespace Go.Proofs.Ytneipineehichaa
open Go.W Go.RowKit
/-! ### what counts is which lines are accessed -/
theorem lns_of_acd {L L' : List (Int × Int)} (h : ∀ n, acd L n = acd L' n) (s : Int) (i k : Nat) : lns L s i k = lns L' s i k := by
  unfold lns
  simp only [h]
theorem cnt_of_acd {L L' : List (Int × Int)} (h : ∀ n, acd L n = acd L' n) (s : Int) (i : Nat) : cnt L s i = cnt L' s i := by
  unfold cnt
  rw [lns_of_acd h]
theorem conf_of_acd {L L' : List (Int × Int)} (h : ∀ n, acd L n = acd L' n) (s y l : Int) : confI s y l L = confI s y l L' := by
  unfold confI cnts
  simp only [cnt_of_acd h]
theorem pers_of_acd {L L' : List (Int × Int)} (h : ∀ n, acd L n = acd L' n) (s y l : Int) : persI s y l L = persI s y l L' := by
  unfold persI pers
  simp only [cnt_of_acd h, h]
/-! ### the parts of a reference -/
def prt (cut : Int) (r : Int × Int) : List (Int × Int) := if 0 ≤ r.1 ∧ r.1 < r.2 ∧ r.2 ≤ 3000 then [(r.1 + cut % (r.2 - r.1) + 1, r.2), (r.1, r.1 + cut % (r.2 - r.1))] else [r, r]
theorem prt_alw {cut : Int} {r : Int × Int} {n : Int} (hc : 0 ≤ cut) : (∃ q ∈ prt cut r, alw q n) ↔ alw r n := by
  unfold prt
  split
  · rename_i h
    have h1 : 0 ≤ cut % (r.2 - r.1) := Int.emod_nonneg _ (by omega)
    have h2 : cut % (r.2 - r.1) < r.2 - r.1 := Int.emod_lt_of_pos _ (by omega)
    simp only [List.mem_cons, List.not_mem_nil, or_false, exists_eq_or_imp, exists_eq_left, alw]
    omega
  · simp
def oth (cut : Int) (L : List (Int × Int)) : List (Int × Int) := L.flatMap (prt cut)
theorem oth_acd {cut : Int} (hc : 0 ≤ cut) (L : List (Int × Int)) (n : Int) : acd (oth cut L.reverse) n = acd L n := by
  rw [Bool.eq_iff_iff, acd_iff, acd_iff]
  unfold oth
  constructor
  · rintro ⟨q, hq, h⟩
    obtain ⟨r, hr, hq⟩ := List.mem_flatMap.1 hq
    exact ⟨r, List.mem_reverse.1 hr, (prt_alw hc).1 ⟨q, hq, h⟩⟩
  · rintro ⟨r, hr, h⟩
    obtain ⟨q, hq, h⟩ := (prt_alw hc).2 h
    exact ⟨q, List.mem_flatMap.2 ⟨r, List.mem_reverse.2 hr, hq⟩, h⟩
theorem oth_len (cut : Int) (L : List (Int × Int)) : (oth cut L).length = 2 * L.length := by
  unfold oth
  induction L with
  | nil => rfl
  | cons r L ih =>
    rw [List.flatMap_cons, List.length_append, ih, List.length_cons]
    have : (prt cut r).length = 2 := by unfold prt; split <;> rfl
    omega
/-- append of a list of elements in a new row -/
theorem OwnL.appL {α : Type} {R : α → List Value} {P : Program} {w : World} {κ : Value → World → Prop} {base : Nat} {t ty e : TypeId} {size bytes : Nat} {z : Value} (he : elt P t = some e) (hs : szv P e = some size) (hb : byv P e = some bytes) (hz : zrv P e = some z)
    (hzs : z.cells.size = size) (hpos : 0 < size) {v : Value} {L : List α} (hown : OwnL R base e size w v L) (xs : List α) (hl : ∀ x ∈ xs, (R x).length = size ∧ (R x).all Go.W.one = true) (h63 : L.length + xs.length ≤ 1000000) (hby : bytes ≤ 1000) (hbase : base ≤ w.heap.size) {c : Nat}
    (h : ∀ v' w', OwnL R base e size w' v' (L ++ xs) → (∀ w0, Ext w0 w → w0.heap.size ≤ base → Ext w0 w') → w.grownBy w' v.ownBlock → κ v' w') : RunV P (w.alloc (.cells (xs.map R).flatten.toArray e (0, 0))) κ (Builtin.append_ #[t, t] ty #[v, .slice (some ⟨w.heap.size, 0, none⟩) xs.length c]) := by
  have hfl : (xs.map R).flatten.length = xs.length * size := by
    have := flatten_length size (xs.map R) (fun r hr => by obtain ⟨x, hx, rfl⟩ := List.mem_map.1 hr; exact (hl x hx).1)
    rwa [List.length_map] at this
  refine rV_append he hs hb hz hzs hpos (hown.alloc (.cells (xs.map R).flatten.toArray e (0, 0))) (news := (xs.map R).flatten) hfl ?_ ?_ (by unfold maxLen; omega) ?_ (by rw [alloc_size]; omega) ?_
  · intro j u hu
    rw [add_mk, cell_mk, alloc_get_new]
    simpa using hu
  · intro u hu
    obtain ⟨r, hr, hu⟩ := List.mem_flatten.1 hu
    obtain ⟨x, hx, rfl⟩ := List.mem_map.1 hr
    exact List.all_eq_true.1 (hl x hx).2 u hu
  · calc (L.length + xs.length) * bytes ≤ 1000000 * 1000 := Nat.mul_le_mul h63 hby
      _ ≤ 140737488355328 := by omega
  · intro v' w' ho hg _
    have hg' := grown_trans (World.grownBy_alloc w _ _) hg
    refine h v' w' ?_ (fun w0 hE hb0 => hE.grownO hown hb0 hg') hg'
    have e5 : (L ++ xs).length = L.length + xs.length := by simp
    have e6 : ((L ++ xs).map R).flatten = (L.map R).flatten ++ (xs.map R).flatten := by simp
    unfold OwnL
    rw [e5, e6]
    exact ho
theorem persI_len (s y l : Int) (L : List (Int × Int)) : (persI s y l L).length ≤ 65536 := by
  unfold persI
  split
  · exact pers_len _ _ _
  · simp
theorem confI_len (s y l : Int) (L : List (Int × Int)) : (confI s y l L).length ≤ 64 := by
  unfold confI
  split
  · rename_i hg
    have := Geo_spec hg
    rw [cnts, List.length_map, List.length_range]
    omega
  · simp
set_option maxRecDepth 10000 in
theorem PersistParts_spec (s y l : Int) (lv : Value) (L : List (Int × Int)) (cut : Int) (w : World) (h : RefsAt w lv L) (hc : 0 ≤ cut ∧ cut ≤ 65535) :
    VRet Try.prog 5 #[cfgV s y l, lv, .int .u16 cut] w fun v w' => v = .bool true ∧ Ext w w' := by
  obtain ⟨la, lc, rfl⟩ := h.form
  refine VRet_start T.mo ok5 rfl fun Ψ hΨ => ?_; simp only [vc5, rs5]
  simp only [VS, VD, SV, SL, T, Nat.reduceEqDiff, Nat.reduceAdd, Nat.reduceSub, Nat.reduceMul, Nat.reduceLeDiff, Nat.reduceLT, reduceIte, cfgV]
  refine (awake_spec _).mono ?_
  rintro _ w1 ⟨rfl, hE⟩
  replace hE := ((Ext.refl w).alloc tomb).trans hE
  simp only [VS, VD, SV, SL, T, Nat.reduceEqDiff, Nat.reduceAdd, Nat.reduceSub, Nat.reduceMul, Nat.reduceLeDiff, Nat.reduceLT, reduceIte]
  refine (usable_spec s y l _ L none 0 0 w1 (h.ext hE)).mono ?_
  rintro _ w2 ⟨rfl, hE2⟩
  replace hE := hE.trans hE2
  by_cases hu : usb s y l L 0 = true
  · obtain ⟨hg, h12, _, hm⟩ := usb_spec hu
    simp only [VS, VD, SV, SL, T, Nat.reduceEqDiff, Nat.reduceAdd, Nat.reduceSub, Nat.reduceMul, Nat.reduceLeDiff, Nat.reduceLT, reduceIte, hu, Bool.not_true]
    refine ⟨by omega, ?_⟩
    refine loop_cB (fun f' w' => f' 1 = .slice la L.length lc ∧ f' 3 = .agg #[.int .i64 s, .int .i64 y, .int .i64 l] ∧ Ext w w' ∧ OwnL refR w2.heap.size 44 2 w' (f' 7) (oth cut L.reverse)) ?_ ?_
    · refine LoopP_intro (α := Nat) (fun j f' w' => f' 1 = .slice la L.length lc ∧ f' 2 = .int .u16 cut ∧ f' 3 = .agg #[.int .i64 s, .int .i64 y, .int .i64 l] ∧ f' 8 = .int .i64 ((L.length : Int) - 1 - j) ∧ j ≤ L.length ∧ Ext w2 w' ∧ OwnL refR w2.heap.size 44 2 w' (f' 7) (oth cut (L.reverse.take j))) (fun j => L.length - j) 0 ?_ ?_
      · simp only [VS, VD, SV, SL, T, Nat.reduceEqDiff, Nat.reduceAdd, Nat.reduceSub, Nat.reduceMul, Nat.reduceLeDiff, Nat.reduceLT, reduceIte]
        exact ⟨by simp, Nat.zero_le _, Ext.refl _, OwnL.nil _ _ _ _ _⟩
      · rintro j f' w' ⟨f1, f2, f3, f8, hj, hEx, ho⟩
        simp only [VS, VD, SV, SL, T, Nat.reduceEqDiff, Nat.reduceAdd, Nat.reduceSub, Nat.reduceMul, Nat.reduceLeDiff, Nat.reduceLT, reduceIte, f8]
        by_cases hlt : 0 ≤ (L.length : Int) - 1 - j
        · rw [decide_eq_true hlt]
          obtain ⟨q, hq⟩ := Int.eq_ofNat_of_zero_le hlt
          have hqL : q < L.length := by omega
          obtain ⟨b, off, cs, e, fz, rfl, hb, hsz, hcs⟩ := ((h.ext hE).ext hEx).get hqL
          rw [hq] at f8
          have hrv : L.reverse.take (j + 1) = L.reverse.take j ++ [L[q]] := by
            have hj' : j < L.reverse.length := by rw [List.length_reverse]; omega
            rw [List.take_add_one, List.getElem?_eq_getElem hj', List.getElem_reverse]
            have : L.length - 1 - j = q := by omega
            simp only [this]
            rfl
          have hoth : oth cut (L.reverse.take (j + 1)) = oth cut (L.reverse.take j) ++ prt cut L[q] := by
            rw [hrv]; unfold oth; rw [List.flatMap_append]; simp
          have hol := oth_len cut (L.reverse.take j)
          rw [List.length_take, List.length_reverse] at hol
          simp only [VS, VD, SV, SL, T, Nat.reduceEqDiff, Nat.reduceAdd, Nat.reduceSub, Nat.reduceMul, Nat.reduceLeDiff, Nat.reduceLT, reduceIte, f1, f8, hb, hsz, hcs, Int.toNat_natCast]
          refine ⟨by omega, ?_⟩
          have hE1 := hEx.alloc tomb
          have ho1 := ho.alloc tomb
          generalize hLq : L[q] = r at *
          have es : w'.heap.size + 1 = (w'.alloc tomb).heap.size := (alloc_size _ _).symm
          generalize w'.alloc tomb = w3 at *
          refine YG_c (fun g w4 => g 1 = .slice (some ⟨b, off, none⟩) L.length lc ∧ g 2 = .int .u16 cut ∧ g 3 = .agg #[.int .i64 s, .int .i64 y, .int .i64 l] ∧ g 8 = .int .i64 q ∧ g 7 = f' 7 ∧ g 9 = .agg #[.int .i64 r.1, .int .i64 r.2] ∧ g 42 = .bool (decide (0 ≤ r.1 ∧ r.1 < r.2 ∧ r.2 ≤ 3000)) ∧ w4 = w3) ?_ ?_
          · by_cases h1 : 0 ≤ r.1
            · rw [decide_eq_true h1]
              simp only [VS, VD, SV, SL, T, Nat.reduceEqDiff, Nat.reduceAdd, Nat.reduceSub, Nat.reduceMul, Nat.reduceLeDiff, Nat.reduceLT, reduceIte]
              by_cases h2 : r.1 < r.2
              · rw [decide_eq_true h2]
                simp only [VS, VD, SV, SL, T, Nat.reduceEqDiff, Nat.reduceAdd, Nat.reduceSub, Nat.reduceMul, Nat.reduceLeDiff, Nat.reduceLT, reduceIte, f1, f2, f3, f8]
                simp [h1, h2]
              · rw [decide_eq_false h2]
                simp only [VS, VD, SV, SL, T, Nat.reduceEqDiff, Nat.reduceAdd, Nat.reduceSub, Nat.reduceMul, Nat.reduceLeDiff, Nat.reduceLT, reduceIte, f1, f2, f3, f8]
                simp [h2]
            · rw [decide_eq_false h1]
              simp only [VS, VD, SV, SL, T, Nat.reduceEqDiff, Nat.reduceAdd, Nat.reduceSub, Nat.reduceMul, Nat.reduceLeDiff, Nat.reduceLT, reduceIte, f1, f2, f3, f8]
              simp [h1]
          · rintro g w4 ⟨g1, g2, g3, g8, g7, g9, g42, rfl⟩
            simp only [VS, VD, SV, SL, T, Nat.reduceEqDiff, Nat.reduceAdd, Nat.reduceSub, Nat.reduceMul, Nat.reduceLeDiff, Nat.reduceLT, reduceIte, g42]
            rw [← g7] at ho1
            by_cases hcd : 0 ≤ r.1 ∧ r.1 < r.2 ∧ r.2 ≤ 3000
            · rw [decide_eq_true hcd]
              have hpr : prt cut r = [(r.1 + cut % (r.2 - r.1) + 1, r.2), (r.1, r.1 + cut % (r.2 - r.1))] := by rw [prt, if_pos hcd]
              have m0 : 0 ≤ cut % (r.2 - r.1) := Int.emod_nonneg _ (by omega)
              have m1 : cut % (r.2 - r.1) < r.2 - r.1 := Int.emod_lt_of_pos _ (by omega)
              simp only [VS, VD, SV, SL, T, Nat.reduceEqDiff, Nat.reduceAdd, Nat.reduceSub, Nat.reduceMul, Nat.reduceLeDiff, Nat.reduceLT, reduceIte]
              refine DW_intro (fun _ _ _ _ => True) ?_
              simp only [VS, VD, SV, SL, T, Nat.reduceEqDiff, Nat.reduceAdd, Nat.reduceSub, Nat.reduceMul, Nat.reduceLeDiff, Nat.reduceLT, reduceIte, g2, g9]
              refine ⟨by omega, by omega, by omega, ?_⟩
              intro w5 hE5 _
              simp only [VS, VD, SV, SL, T, Nat.reduceEqDiff, Nat.reduceAdd, Nat.reduceSub, Nat.reduceMul, Nat.reduceLeDiff, Nat.reduceLT, reduceIte, g9]
              refine ⟨by omega, by omega, ?_⟩
              have hE6 := hE1.trans hE5
              have ho5 := ho1.ext hE5
              refine OwnL.appL (R := refR) (base := w2.heap.size) (w := w5) (xs := [(r.1 + cut % (r.2 - r.1) + 1, r.2), (r.1, r.1 + cut % (r.2 - r.1))]) T.el24 T.sz44 T.by44 T.zr44 rfl (by omega) ho5 (fun x _ => ⟨rfl, rfl⟩) (by simp only [List.length_cons, List.length_nil]; omega) (by omega) hE6.size ?_
              intro v' w6 ho6 hx6 hg6
              simp only [VS, VD, SV, SL, T, Nat.reduceEqDiff, Nat.reduceAdd, Nat.reduceSub, Nat.reduceMul, Nat.reduceLeDiff, Nat.reduceLT, reduceIte, g1, g2, g3, g8]
              rw [← hpr, ← hoth] at ho6
              exact ⟨by omega, j + 1, ⟨by simp; omega, by omega, hx6 w2 hE6 (Nat.le_refl _), ho6⟩, by omega⟩
            · rw [decide_eq_false hcd]
              have hpr : prt cut r = [r, r] := by rw [prt, if_neg hcd]
              simp only [VS, VD, SV, SL, T, Nat.reduceEqDiff, Nat.reduceAdd, Nat.reduceSub, Nat.reduceMul, Nat.reduceLeDiff, Nat.reduceLT, reduceIte, g9]
              refine OwnL.appL (R := refR) (base := w2.heap.size) (w := w4) (xs := [r, r]) T.el24 T.sz44 T.by44 T.zr44 rfl (by omega) ho1 (fun x _ => ⟨rfl, rfl⟩) (by simp only [List.length_cons, List.length_nil]; omega) (by omega) hE1.size ?_
              intro v' w6 ho6 hx6 hg6
              simp only [VS, VD, SV, SL, T, Nat.reduceEqDiff, Nat.reduceAdd, Nat.reduceSub, Nat.reduceMul, Nat.reduceLeDiff, Nat.reduceLT, reduceIte, g1, g2, g3, g8]
              rw [← hpr, ← hoth] at ho6
              exact ⟨by omega, j + 1, ⟨by simp; omega, by omega, hx6 w2 hE1 (Nat.le_refl _), ho6⟩, by omega⟩
        · rw [decide_eq_false hlt]
          obtain rfl : j = L.length := by omega
          have : L.reverse.take L.length = L.reverse := List.take_of_length_le (by simp)
          rw [this] at ho
          simp only [VS, VD, SV, SL, T, Nat.reduceEqDiff, Nat.reduceAdd, Nat.reduceSub, Nat.reduceMul, Nat.reduceLeDiff, Nat.reduceLT, reduceIte, f1, f3]
          exact ⟨hE.trans hEx, ho⟩
    · rintro f3 w3 ⟨g1, g3, hE3, ho3⟩
      have hR : RefsAt w3 (f3 7) (oth cut L.reverse) := ho3.sl (fun _ => rfl)
      have hac := oth_acd hc.1 L
      have hcf := conf_of_acd hac s y l
      have hpf := pers_of_acd hac s y l
      have hol := oth_len cut L.reverse
      rw [List.length_reverse] at hol
      have hl1 : L.length ≤ 1000000 := by omega
      have hl2 : (oth cut L.reverse).length ≤ 1000000 := by omega
      have hL3 := h.ext hE3
      have hcl := confI_len s y l L
      have hpl := persI_len s y l L
      simp only [VS, VD, SV, SL, T, Nat.reduceEqDiff, Nat.reduceAdd, Nat.reduceSub, Nat.reduceMul, Nat.reduceLeDiff, Nat.reduceLT, reduceIte]
      refine DW_intro (fun n _ v w' => match n with | 2 => IntsAt w' v (confI s y l L) | 5 => IntsAt w' v (confI s y l L) | 6 => v = .bool true | 10 => IntsAt w' v (persI s y l L) | 13 => IntsAt w' v (persI s y l L) | 14 => v = .bool true | 19 => v = .int .i64 (persI s y l L).length | _ => False) ?_
      simp only [VS, VD, SV, SL, T, Nat.reduceEqDiff, Nat.reduceAdd, Nat.reduceSub, Nat.reduceMul, Nat.reduceLeDiff, Nat.reduceLT, reduceIte, g1, g3]
      refine rY_ph rfl rfl (fun v w w' h hE => IntsAt.ext h hE) (fun wx hEx _ => ?_) (fun v2 hv2 => ?_)
      · simp only [VS, VD, SV, SL, T, Nat.reduceEqDiff, Nat.reduceAdd, Nat.reduceSub, Nat.reduceMul, Nat.reduceLeDiff, Nat.reduceLT, reduceIte]
        exact (Conflicts_spec s y l _ L hl1 wx (hL3.ext hEx)).mono fun v w ⟨h1, h2⟩ => ⟨h2, h1⟩
      simp only [VS, VD, SV, SL, T, Nat.reduceEqDiff, Nat.reduceAdd, Nat.reduceSub, Nat.reduceMul, Nat.reduceLeDiff, Nat.reduceLT, reduceIte, g3]
      refine rY_ph rfl rfl (fun v w w' h hE => IntsAt.ext h hE) (fun wx hEx _ => ?_) (fun v5 hv5 => ?_)
      · simp only [VS, VD, SV, SL, T, Nat.reduceEqDiff, Nat.reduceAdd, Nat.reduceSub, Nat.reduceMul, Nat.reduceLeDiff, Nat.reduceLT, reduceIte]
        exact (Conflicts_spec s y l _ _ hl2 wx (hR.ext hEx)).mono fun v w ⟨h1, h2⟩ => ⟨h2, hcf ▸ h1⟩
      simp only [VS, VD, SV, SL, T, Nat.reduceEqDiff, Nat.reduceAdd, Nat.reduceSub, Nat.reduceMul, Nat.reduceLeDiff, Nat.reduceLT, reduceIte]
      refine rY_ph rfl rfl (fun v w w' h hE => h) (fun wx hEx hFD => ?_) (fun v6 hv6 => ?_)
      · simp only [VS, VD, SV, SL, T, Nat.reduceEqDiff, Nat.reduceAdd, Nat.reduceSub, Nat.reduceMul, Nat.reduceLeDiff, Nat.reduceLT, reduceIte]
        have k2 := hFD 2 (by simp)
        have k5 := hFD 5 (by simp)
        simp only [updF, show ¬ (2 = 5) by omega, if_false, if_true] at k2 k5
        refine (ints_spec _ _ _ _ (by omega) wx k2 k5).mono ?_
        rintro _ wy ⟨rfl, hEy⟩
        refine ⟨hEy, ?_⟩
        show Value.bool _ = Value.bool true
        rw [decide_eq_true rfl]
      obtain ⟨_, _, _, hv6⟩ := hv6
      replace hv6 : v6 = .bool true := hv6
      subst hv6
      simp only [VS, VD, SV, SL, T, Nat.reduceEqDiff, Nat.reduceAdd, Nat.reduceSub, Nat.reduceMul, Nat.reduceLeDiff, Nat.reduceLT, reduceIte, g1, g3]
      refine rY_ph rfl rfl (fun v w w' h hE => IntsAt.ext h hE) (fun wx hEx _ => ?_) (fun v10 hv10 => ?_)
      · simp only [VS, VD, SV, SL, T, Nat.reduceEqDiff, Nat.reduceAdd, Nat.reduceSub, Nat.reduceMul, Nat.reduceLeDiff, Nat.reduceLT, reduceIte]
        exact (Persistent_spec s y l _ L hl1 wx (hL3.ext hEx)).mono fun v w ⟨h1, h2⟩ => ⟨h2, h1⟩
      simp only [VS, VD, SV, SL, T, Nat.reduceEqDiff, Nat.reduceAdd, Nat.reduceSub, Nat.reduceMul, Nat.reduceLeDiff, Nat.reduceLT, reduceIte, g3]
      refine rY_ph rfl rfl (fun v w w' h hE => IntsAt.ext h hE) (fun wx hEx _ => ?_) (fun v13 hv13 => ?_)
      · simp only [VS, VD, SV, SL, T, Nat.reduceEqDiff, Nat.reduceAdd, Nat.reduceSub, Nat.reduceMul, Nat.reduceLeDiff, Nat.reduceLT, reduceIte]
        exact (Persistent_spec s y l _ _ hl2 wx (hR.ext hEx)).mono fun v w ⟨h1, h2⟩ => ⟨h2, hpf ▸ h1⟩
      simp only [VS, VD, SV, SL, T, Nat.reduceEqDiff, Nat.reduceAdd, Nat.reduceSub, Nat.reduceMul, Nat.reduceLeDiff, Nat.reduceLT, reduceIte]
      refine rY_ph rfl rfl (fun v w w' h hE => h) (fun wx hEx hFD => ?_) (fun v14 hv14 => ?_)
      · simp only [VS, VD, SV, SL, T, Nat.reduceEqDiff, Nat.reduceAdd, Nat.reduceSub, Nat.reduceMul, Nat.reduceLeDiff, Nat.reduceLT, reduceIte]
        have k2 := hFD 10 (by simp)
        have k5 := hFD 13 (by simp)
        simp only [updF, show ¬ (10 = 13) by omega, if_false, if_true] at k2 k5
        refine (ints_spec _ _ _ _ (by omega) wx k2 k5).mono ?_
        rintro _ wy ⟨rfl, hEy⟩
        refine ⟨hEy, ?_⟩
        show Value.bool _ = Value.bool true
        rw [decide_eq_true rfl]
      obtain ⟨_, _, _, hv14⟩ := hv14
      replace hv14 : v14 = .bool true := hv14
      subst hv14
      simp only [VS, VD, SV, SL, T, Nat.reduceEqDiff, Nat.reduceAdd, Nat.reduceSub, Nat.reduceMul, Nat.reduceLeDiff, Nat.reduceLT, reduceIte, g1, g3]
      refine rY_ph rfl rfl (fun v w w' h hE => h) (fun wx hEx hFD => ?_) (fun v19 hv19 => ?_)
      · simp only [VS, VD, SV, SL, T, Nat.reduceEqDiff, Nat.reduceAdd, Nat.reduceSub, Nat.reduceMul, Nat.reduceLeDiff, Nat.reduceLT, reduceIte]
        exact (Misses_spec s y l _ L hl1 wx (hL3.ext hEx)).mono fun v w ⟨h1, h2⟩ => ⟨h2, h1⟩
      obtain ⟨_, _, _, hv19⟩ := hv19
      replace hv19 : v19 = .int .i64 (persI s y l L).length := hv19
      subst hv19
      simp only [VS, VD, SV, SL, T, Nat.reduceEqDiff, Nat.reduceAdd, Nat.reduceSub, Nat.reduceMul, Nat.reduceLeDiff, Nat.reduceLT, reduceIte, g3]
      intro w4 hE4 _
      simp only [VS, VD, SV, SL, T, Nat.reduceEqDiff, Nat.reduceAdd, Nat.reduceSub, Nat.reduceMul, Nat.reduceLeDiff, Nat.reduceLT, reduceIte]
      refine (Misses_spec s y l _ _ hl2 w4 (hR.ext hE4)).mono ?_
      rintro _ w5 ⟨rfl, hE5⟩
      have d1 : decide (((persI s y l L).length : Int) = (persI s y l (oth cut L.reverse)).length) = true := by rw [hpf]; exact decide_eq_true rfl
      simp only [VS, VD, SV, SL, T, Nat.reduceEqDiff, Nat.reduceAdd, Nat.reduceSub, Nat.reduceMul, Nat.reduceLeDiff, Nat.reduceLT, reduceIte, d1]
      exact hΨ _ _ ⟨rfl, (hE3.trans hE4).trans hE5⟩
  · have hu' : usb s y l L 0 = false := by simpa using hu
    simp only [VS, VD, SV, SL, T, Nat.reduceEqDiff, Nat.reduceAdd, Nat.reduceSub, Nat.reduceMul, Nat.reduceLeDiff, Nat.reduceLT, reduceIte, hu', Bool.not_false]
    exact hΨ _ _ ⟨rfl, hE⟩
end Go.Proofs.Ytneipineehichaa
