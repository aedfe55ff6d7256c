/-
  persist: PersistMore.
-/
import Derived.Test.YtneipineehichaaZPD1
import Derived.Test.YtneipineehichaaZPC6
set_option linter.unusedSimpArgs false
set_option linter.unusedVariables false
namespace Go.Proofs.Ytneipineehichaa
open Go.W Go.RowKit
theorem acd_append (A B : List (Int × Int)) (n : Int) : acd (A ++ B) n = (acd A n || acd B n) := by
  unfold acd
  rw [List.any_append]
theorem cnt_mono {A B : List (Int × Int)} (h : ∀ n, acd A n = true → acd B n = true) (s : Int) (i : Nat) : cnt A s i ≤ cnt B s i := by
  refine nodup_len (lns_nodup A s i MX) fun k hk => ?_
  rw [lns_mem] at hk ⊢
  exact ⟨h k hk.1, hk.2⟩
/-- append of a slice -/
theorem app_refs {w : World} {κ : Value → World → Prop} {base : Nat} {v u : Value} {A B : List (Int × Int)} (ho : OwnL refR base 44 2 w v A) (hB : RefsAt w u B) (hl : A.length + B.length ≤ 10000000) (hcap : ∃ a n c, u = .slice a n c ∧ n ≤ c ∧ (a = none → c = 0)) (hb : base ≤ w.heap.size)
    (h : ∀ v' w', OwnL refR base 44 2 w' v' (A ++ B) → (∀ w0, Ext w0 w → w0.heap.size ≤ base → Ext w0 w') → κ v' w') :
    RunV Try.prog w κ (Builtin.append_ #[24, 24] 24 #[v, u]) := by
  rcases hB with ⟨⟨a, c, rfl⟩, hB⟩ | ⟨b, off, cap, rfl, hB⟩
  · obtain rfl : B = [] := by simpa using hB
    obtain ⟨a', n', c', e, h1, h2⟩ := hcap
    simp only [Value.slice.injEq] at e
    obtain ⟨rfl, rfl, rfl⟩ := e
    rw [List.append_nil] at h
    cases a with
    | none =>
      obtain rfl := h2 rfl
      exact rV_append_nil (ty := 24) T.el24 T.sz44 ho (h v w ho fun _ hE _ => hE)
    | some a =>
      refine rV_append (ty := 24) T.el24 T.sz44 T.by44 T.zr44 rfl (by omega) ho (news := []) (by simp) (by simp) (by simp) (by unfold maxLen; simp only [List.length_nil] at hl; omega) (by simp only [List.length_nil] at hl; omega) hb ?_
      intro v' w' ho' hg' _
      rw [List.append_nil, Nat.add_zero] at ho'
      exact h v' w' ho' (fun w0 hE hb0 => hE.grownO ho hb0 hg')
  · have hfl : (B.map refR).flatten.length = B.length * 2 := by
      have := flatten_length 2 (B.map refR) (fun r hr => by obtain ⟨x, hx, rfl⟩ := List.mem_map.1 hr; rfl)
      rwa [List.length_map] at this
    rw [List.length_map]
    refine rV_append (ty := 24) T.el24 T.sz44 T.by44 T.zr44 rfl (by omega) ho (news := (B.map refR).flatten) hfl ?_ ?_ (by unfold maxLen; omega) (by omega) hb ?_
    · intro j x hx
      have hj := (List.getElem?_eq_some_iff.1 hx).1
      have hi : j / 2 < B.length := by omega
      have hr : (B.map refR)[j / 2]? = some (refR B[j / 2]) := by simp [hi]
      have hfg := flatten_get 2 (B.map refR) (fun r hr => by obtain ⟨x, hx, rfl⟩ := List.mem_map.1 hr; rfl) _ _ hr
      obtain ⟨cs, e, fz, q1, q2, q3⟩ := rd_obj (hB _ _ hr)
      rw [add_mk, cell_mk, q1]
      have h1 : (refR B[j / 2])[j % 2]? = some x := by
        rw [← hfg, List.getElem?_take_of_lt (by omega), List.getElem?_drop, show j / 2 * 2 + j % 2 = j by omega]
        exact hx
      have h2 := congrArg (fun a : Array Value => a[j % 2]?) q3
      simp only [Array.getElem?_extract] at h2
      rw [if_pos (by omega), show off + j / 2 * 2 + j % 2 = off + j by omega] at h2
      simp only []
      rw [h2]
      simpa using h1
    · intro x hx
      obtain ⟨r, hr, hx⟩ := List.mem_flatten.1 hx
      obtain ⟨q, hq, rfl⟩ := List.mem_map.1 hr
      simp only [refR, List.mem_cons, List.not_mem_nil, or_false] at hx
      rcases hx with rfl | rfl <;> rfl
    · intro v' w' ho' hg' _
      refine h v' w' ?_ (fun w0 hE hb0 => hE.grownO ho hb0 hg')
      have e5 : (A ++ B).length = A.length + B.length := by simp
      have e6 : ((A ++ B).map refR).flatten = (A.map refR).flatten ++ (B.map refR).flatten := by simp
      unfold OwnL
      rw [e5, e6]
      exact ho'
set_option maxRecDepth 100000 in
theorem PersistMore_spec (s y l : Int) (lv : Value) (L : List (Int × Int)) (mv : Value) (M : List (Int × Int)) (w : World) (h : RefsAt w lv L) (hm : RefsAt w mv M) (hcl : ∃ a n c, lv = .slice a n c ∧ n ≤ c ∧ (a = none → c = 0)) (hcm : ∃ a n c, mv = .slice a n c ∧ n ≤ c ∧ (a = none → c = 0)) (hlL : L.length ≤ 1048576) (hlM : M.length ≤ 1048576) :
    VRet Try.prog 4 #[cfgV s y l, lv, mv] w fun v w' => v = .bool true ∧ Ext w w' := by
  obtain ⟨la, lc, rfl⟩ := h.form
  obtain ⟨ma, mc, rfl⟩ := hm.form
  refine VRet_start T.mo ok4 rfl fun Ψ hΨ => ?_; simp only [vc4, rs4]
  simp only [VS, VD, SV, SL, T, Nat.reduceEqDiff, Nat.reduceAdd, Nat.reduceSub, Nat.reduceMul, Nat.reduceLeDiff, Nat.reduceLT, reduceIte, cfgV]
  refine (awake_spec _).mono ?_
  rintro _ w1 ⟨rfl, hE⟩
  replace hE := ((Ext.refl w).alloc tomb).trans hE
  simp only [VS, VD, SV, SL, T, Nat.reduceEqDiff, Nat.reduceAdd, Nat.reduceSub, Nat.reduceMul, Nat.reduceLeDiff, Nat.reduceLT, reduceIte]
  have ho : OwnL refR w1.heap.size 44 2 (w1.alloc (Obj.cells #[] 44)) (.slice (some ⟨w1.heap.size, 0, none⟩) 0 0) [] := World.ownsRow_made w1 #[] 0 (Nat.le_refl _) (Nat.zero_le _) (by simp)
  have hE2 := (Ext.refl w1).alloc (Obj.cells #[] 44)
  generalize hw2 : w1.alloc (Obj.cells #[] 44) = w2 at *
  refine app_refs ho ((h.ext hE).ext hE2) (by simp only [List.length_nil]; omega) hcl hE2.size ?_
  intro v3 w3 ho3 hx3
  rw [List.nil_append] at ho3
  have hE3 := hx3 w1 hE2 (Nat.le_refl _)
  simp only [VS, VD, SV, SL, T, Nat.reduceEqDiff, Nat.reduceAdd, Nat.reduceSub, Nat.reduceMul, Nat.reduceLeDiff, Nat.reduceLT, reduceIte]
  refine app_refs ho3 ((hm.ext hE).ext hE3) (by omega) hcm hE3.size ?_
  intro v4 w4 ho4 hx4
  have hE4 := hE.trans (hx4 w1 hE3 (Nat.le_refl _))
  have hR : RefsAt w4 v4 (L ++ M) := ho4.sl (fun _ => rfl)
  obtain ⟨aa, ac, rfl⟩ := hR.form
  clear hx4 hx3 ho4 ho3 ho hE2 hE3
  simp only [VS, VD, SV, SL, T, Nat.reduceEqDiff, Nat.reduceAdd, Nat.reduceSub, Nat.reduceMul, Nat.reduceLeDiff, Nat.reduceLT, reduceIte]
  refine (usable_spec s y l _ (L ++ M) none 0 0 w4 hR).mono ?_
  rintro _ w5 ⟨rfl, hE5⟩
  replace hR := hR.ext hE5
  replace hE := hE4.trans hE5
  by_cases hu : usb s y l (L ++ M) 0 = true
  case neg =>
    have hu' : usb s y l (L ++ M) 0 = false := by simpa using hu
    simp only [VS, VD, SV, SL, T, Nat.reduceEqDiff, Nat.reduceAdd, Nat.reduceSub, Nat.reduceMul, Nat.reduceLeDiff, Nat.reduceLT, reduceIte, hu', Bool.not_false]
    exact hΨ _ _ ⟨rfl, hE⟩
  obtain ⟨hg, h12, _, _⟩ := usb_spec hu
  have hp := Geo_spec hg
  have hLl : L.length ≤ 12 := by rw [List.length_append] at h12; omega
  have ec1 : confI s y l L = cnts L s := by rw [confI, if_pos hg]
  have ec2 : confI s y l (L ++ M) = cnts (L ++ M) s := by rw [confI, if_pos hg]
  have ep1 : persI s y l L = pers L s y := by rw [persI, if_pos hg]
  have ep2 : persI s y l (L ++ M) = pers (L ++ M) s y := by rw [persI, if_pos hg]
  have hsub : ∀ n, acd L n = true → acd (L ++ M) n = true := fun n hn => by rw [acd_append, hn]; rfl
  have hmono := cnt_mono hsub s
  have hn1 : (cnts L s).length = s.toNat := by rw [cnts, List.length_map, List.length_range]
  have hn2 : (cnts (L ++ M) s).length = s.toNat := by rw [cnts, List.length_map, List.length_range]
  simp only [VS, VD, SV, SL, T, Nat.reduceEqDiff, Nat.reduceAdd, Nat.reduceSub, Nat.reduceMul, Nat.reduceLeDiff, Nat.reduceLT, reduceIte, hu, Bool.not_true]
  refine DW_intro (fun _ _ v w' => IntsAt w' v (cnts L s)) ?_
  simp only [VS, VD, SV, SL, T, Nat.reduceEqDiff, Nat.reduceAdd, Nat.reduceSub, Nat.reduceMul, Nat.reduceLeDiff, Nat.reduceLT, reduceIte]
  refine rY_ph rfl rfl (fun v w w' h hE => IntsAt.ext h hE) (fun wx hEx _ => ?_) (fun v hv => ?_)
  · simp only [VS, VD, SV, SL, T, Nat.reduceEqDiff, Nat.reduceAdd, Nat.reduceSub, Nat.reduceMul, Nat.reduceLeDiff, Nat.reduceLT, reduceIte]
    exact (Conflicts_spec s y l _ L (by omega) wx ((h.ext hE).ext hEx)).mono fun v w ⟨h1, h2⟩ => ⟨h2, ec1 ▸ h1⟩
  simp only [VS, VD, SV, SL, T, Nat.reduceEqDiff, Nat.reduceAdd, Nat.reduceSub, Nat.reduceMul, Nat.reduceLeDiff, Nat.reduceLT, reduceIte]
  intro w6 hE6 hF
  have hI1 := FA_head hF
  replace hE := hE.trans hE6
  replace hR := hR.ext hE6
  simp only [VS, VD, SV, SL, T, Nat.reduceEqDiff, Nat.reduceAdd, Nat.reduceSub, Nat.reduceMul, Nat.reduceLeDiff, Nat.reduceLT, reduceIte]
  refine (Conflicts_spec s y l _ _ (by omega) w6 hR).mono ?_
  rintro v7 w7 ⟨hI2, hE7⟩
  rw [ec2] at hI2
  replace hI1 := hI1.ext hE7
  replace hE := hE.trans hE7
  replace hR := hR.ext hE7
  obtain ⟨a1, c1, rfl⟩ := hI1.form
  obtain ⟨a2, c2, rfl⟩ := hI2.form
  have d1 : decide (¬ (s.toNat : Int) = s) = false := decide_eq_false (by omega)
  rw [hn1] at *
  rw [hn2] at *
  simp only [VS, VD, SV, SL, T, Nat.reduceEqDiff, Nat.reduceAdd, Nat.reduceSub, Nat.reduceMul, Nat.reduceLeDiff, Nat.reduceLT, reduceIte, d1]
  refine loop_cB (fun f' w' => f' 1 = .slice la L.length lc ∧ f' 3 = .agg #[.int .i64 s, .int .i64 y, .int .i64 l] ∧ f' 7 = .slice aa (L ++ M).length ac ∧ Ext w w' ∧ Ext w7 w') ?_ ?_
  · refine LoopP_intro (α := Nat) (fun i f' w' => f' 1 = .slice la L.length lc ∧ f' 3 = .agg #[.int .i64 s, .int .i64 y, .int .i64 l] ∧ f' 7 = .slice aa (L ++ M).length ac ∧ f' 8 = .slice a1 s.toNat c1 ∧ f' 9 = .slice a2 s.toNat c2 ∧ f' 44 = .int .i64 s.toNat ∧ f' 45 = .int .i64 i ∧ i ≤ s.toNat ∧ Ext w7 w') (fun i => s.toNat - i) 0 ?_ ?_
    · simp only [VS, VD, SV, SL, T, Nat.reduceEqDiff, Nat.reduceAdd, Nat.reduceSub, Nat.reduceMul, Nat.reduceLeDiff, Nat.reduceLT, reduceIte]
      exact ⟨rfl, Nat.zero_le _, Ext.refl _⟩
    · rintro i f' w' ⟨f1, f3, f7, f8, f9, f44, f45, hi, hE'⟩
      simp only [VS, VD, SV, SL, T, Nat.reduceEqDiff, Nat.reduceAdd, Nat.reduceSub, Nat.reduceMul, Nat.reduceLeDiff, Nat.reduceLT, reduceIte, f44, f45]
      by_cases hlt : (i : Int) < s.toNat
      · rw [decide_eq_true hlt]
        have hi' : i < s.toNat := by omega
        obtain ⟨b1, o1, cs1, e1, fz1, rfl, _, hb1, hc1⟩ := (hI1.ext hE').get (i := i) (x := (cnt L s i : Int)) (by simp [cnts, List.getElem?_range hi'])
        obtain ⟨b2, o2, cs2, e2, fz2, rfl, _, hb2, hc2⟩ := (hI2.ext hE').get (i := i) (x := (cnt (L ++ M) s i : Int)) (by simp [cnts, List.getElem?_range hi'])
        have hle := hmono i
        simp only [VS, VD, SV, SL, T, Nat.reduceEqDiff, Nat.reduceAdd, Nat.reduceSub, Nat.reduceMul, Nat.reduceLeDiff, Nat.reduceLT, reduceIte, f45]
        refine DW_intro (fun _ _ _ _ => True) ?_
        simp only [VS, VD, SV, SL, T, Nat.reduceEqDiff, Nat.reduceAdd, Nat.reduceSub, Nat.reduceMul, Nat.reduceLeDiff, Nat.reduceLT, reduceIte, f8, f9, f45, hb1, hb2, hc1, hc2, Int.toNat_natCast]
        refine ⟨by omega, by omega, ?_⟩
        intro w8 hE8 _
        have d2 : decide ((cnt (L ++ M) s i : Int) < cnt L s i) = false := decide_eq_false (by omega)
        simp only [VS, VD, SV, SL, T, Nat.reduceEqDiff, Nat.reduceAdd, Nat.reduceSub, Nat.reduceMul, Nat.reduceLeDiff, Nat.reduceLT, reduceIte, d2, f1, f3, f7, f8, f9, f44, f45]
        exact ⟨by omega, i + 1, ⟨by simp, by omega, hE'.trans hE8⟩, by omega⟩
      · rw [decide_eq_false hlt]
        simp only [VS, VD, SV, SL, T, Nat.reduceEqDiff, Nat.reduceAdd, Nat.reduceSub, Nat.reduceMul, Nat.reduceLeDiff, Nat.reduceLT, reduceIte, f1, f3, f7]
        exact ⟨hE.trans hE', hE'⟩
  · rintro f8 w8 ⟨g1, g3, g7, hE8, hE78⟩
    replace hR := hR.ext hE78
    simp only [VS, VD, SV, SL, T, Nat.reduceEqDiff, Nat.reduceAdd, Nat.reduceSub, Nat.reduceMul, Nat.reduceLeDiff, Nat.reduceLT, reduceIte, g1, g3]
    refine (Persistent_spec s y l _ L (by omega) w8 (h.ext hE8)).mono ?_
    rintro v9 w9 ⟨hI9, hE9⟩
    rw [ep1] at hI9
    have hpl := pers_len L s y
    simp only [VS, VD, SV, SL, T, Nat.reduceEqDiff, Nat.reduceAdd, Nat.reduceSub, Nat.reduceMul, Nat.reduceLeDiff, Nat.reduceLT, reduceIte]
    refine (contains_spec v9 (pers L s y) (by omega) w9 hI9).mono ?_
    rintro fv w10 ⟨hf, hE10⟩
    replace hE := hE8.trans (hE9.trans hE10)
    replace hR := hR.ext (hE9.trans hE10)
    simp only [VS, VD, SV, SL, T, Nat.reduceEqDiff, Nat.reduceAdd, Nat.reduceSub, Nat.reduceMul, Nat.reduceLeDiff, Nat.reduceLT, reduceIte, g3, g7]
    refine (Persistent_spec s y l _ _ (by omega) w10 hR).mono ?_
    rintro v11 w11 ⟨hI11, hE11⟩
    rw [ep2] at hI11
    have hpl2 := pers_len (L ++ M) s y
    replace hf := hf.ext hE11
    replace hE := hE.trans hE11
    obtain ⟨pa, pc, rfl⟩ := hI11.form
    simp only [VS, VD, SV, SL, T, Nat.reduceEqDiff, Nat.reduceAdd, Nat.reduceSub, Nat.reduceMul, Nat.reduceLeDiff, Nat.reduceLT, reduceIte]
    refine LoopP_intro (α := Nat) (fun i f' w' => f' 1 = .slice la L.length lc ∧ f' 11 = fv ∧ f' 64 = .slice pa (pers (L ++ M) s y).length pc ∧ f' 65 = .int .i64 (pers (L ++ M) s y).length ∧ f' 66 = .int .i64 i ∧ i ≤ (pers (L ++ M) s y).length ∧ Ext w11 w') (fun i => (pers (L ++ M) s y).length - i) 0 ?_ ?_
    · simp only [VS, VD, SV, SL, T, Nat.reduceEqDiff, Nat.reduceAdd, Nat.reduceSub, Nat.reduceMul, Nat.reduceLeDiff, Nat.reduceLT, reduceIte, g1]
      exact ⟨rfl, Nat.zero_le _, Ext.refl _⟩
    · rintro i f' w' ⟨f1, f11, f64, f65, f66, hi, hE'⟩
      simp only [VS, VD, SV, SL, T, Nat.reduceEqDiff, Nat.reduceAdd, Nat.reduceSub, Nat.reduceMul, Nat.reduceLeDiff, Nat.reduceLT, reduceIte, f65, f66]
      by_cases hlt : (i : Int) < (pers (L ++ M) s y).length
      · rw [decide_eq_true hlt]
        have hi' : i < (pers (L ++ M) s y).length := by omega
        obtain ⟨b1, o1, cs1, e1, fz1, rfl, _, hb1, hc1⟩ := (hI11.ext hE').get (i := i) (x := (pers (L ++ M) s y)[i]) (by simp [hi'])
        have hk := pers_mem.1 (List.getElem_mem hi')
        generalize (pers (L ++ M) s y)[i] = k at *
        simp only [VS, VD, SV, SL, T, Nat.reduceEqDiff, Nat.reduceAdd, Nat.reduceSub, Nat.reduceMul, Nat.reduceLeDiff, Nat.reduceLT, reduceIte, f1, f64, f66, hb1, hc1, Int.toNat_natCast]
        refine ⟨by omega, ?_⟩
        refine (plain_spec _ L (by omega) w' (h.ext (hE.trans hE'))).mono ?_
        rintro v12 w12 ⟨hR12, hE12⟩
        simp only [VS, VD, SV, SL, T, Nat.reduceEqDiff, Nat.reduceAdd, Nat.reduceSub, Nat.reduceMul, Nat.reduceLeDiff, Nat.reduceLT, reduceIte]
        refine (Accessed_spec _ L (by omega) k w12 hR12).mono ?_
        rintro _ w13 ⟨rfl, hE13⟩
        have hE' := hE'.trans (hE12.trans hE13)
        cases ha : acd L k with
        | true =>
          simp only [VS, VD, SV, SL, T, Nat.reduceEqDiff, Nat.reduceAdd, Nat.reduceSub, Nat.reduceMul, Nat.reduceLeDiff, Nat.reduceLT, reduceIte]
          refine (hf.ext hE').call (n := k) (by simp only [VS, VD, SV, SL, T, Nat.reduceEqDiff, Nat.reduceAdd, Nat.reduceSub, Nat.reduceMul, Nat.reduceLeDiff, Nat.reduceLT, reduceIte, f11]) (by simp only [VS, VD, SV, SL, T, Nat.reduceEqDiff, Nat.reduceAdd, Nat.reduceSub, Nat.reduceMul, Nat.reduceLeDiff, Nat.reduceLT, reduceIte]) ?_
          intro w14 hE14
          have hin : k ∈ pers L s y := pers_mem.2 ⟨ha, by have := hmono (k % s).toNat; omega⟩
          rw [decide_eq_true hin]
          simp only [VS, VD, SV, SL, T, Nat.reduceEqDiff, Nat.reduceAdd, Nat.reduceSub, Nat.reduceMul, Nat.reduceLeDiff, Nat.reduceLT, reduceIte, Bool.not_true, f1, f11, f64, f65, f66]
          exact ⟨by omega, i + 1, ⟨by simp, by omega, hE'.trans hE14⟩, by omega⟩
        | false =>
          simp only [VS, VD, SV, SL, T, Nat.reduceEqDiff, Nat.reduceAdd, Nat.reduceSub, Nat.reduceMul, Nat.reduceLeDiff, Nat.reduceLT, reduceIte, f1, f11, f64, f65, f66]
          exact ⟨by omega, i + 1, ⟨by simp, by omega, hE'⟩, by omega⟩
      · rw [decide_eq_false hlt]
        simp only [VS, VD, SV, SL, T, Nat.reduceEqDiff, Nat.reduceAdd, Nat.reduceSub, Nat.reduceMul, Nat.reduceLeDiff, Nat.reduceLT, reduceIte]
        exact hΨ _ _ ⟨rfl, hE.trans hE'⟩
end Go.Proofs.Ytneipineehichaa
