/-
  MustDescribes.
-/
import Derived.Test.YtehmbpkcbmnfnaaZCW0
import Derived.Test.YtehmbpkcbmnfnaaZCW1
set_option linter.unusedSimpArgs false
set_option linter.unusedVariables false
namespace Go.Proofs.Ytehmbpkcbmnfnaa
open Go.W Go.RowKit
theorem rOk_iff (li : List Int) (k a : Int) : rOk li k a ↔ 0 ≤ C.idxI li k ∧ C.idxI li k ≤ a := by
  unfold rOk C.idxI
  cases h : li.idxOf? k with
  | none =>
    rw [List.idxOf?_eq_none_iff] at h
    simp only []
    constructor
    · rintro ⟨j, _, hj⟩; exact (h (List.mem_of_getElem? hj)).elim
    · intro hc; omega
  | some i =>
    rw [List.idxOf?, List.findIdx?_eq_some_iff_getElem] at h
    obtain ⟨hi, he, hmin⟩ := h
    simp only [beq_iff_eq] at he
    simp only []
    constructor
    · rintro ⟨j, hja, hj⟩
      refine ⟨by omega, ?_⟩
      have : ¬ j < i := by
        intro hlt
        have hm := hmin j hlt
        have hjl := (List.getElem?_eq_some_iff.1 hj).2
        simp [hjl] at hm
      omega
    · rintro ⟨_, hia⟩
      exact ⟨i, hia, by rw [List.getElem?_eq_getElem hi, he]⟩
/-- the reference's list of a state, from its lines -/
def lst (m : Bnd) (Ks : List Int) : List (Int × Int) := Ks.map fun k => (k, (ageU m k).1)
theorem lst_mem {y : Int} {m : Bnd} (hb : Bd y m) {Ks : List Int} (hK : KeysOf m Ks) (j b : Int) : (j, b) ∈ lst m Ks ↔ m j = some b := by
  unfold lst
  rw [List.mem_map]
  constructor
  · rintro ⟨k, hk, e⟩
    simp only [Prod.mk.injEq] at e
    obtain ⟨rfl, rfl⟩ := e
    have := (hK.mem k).2 hk
    cases hm : m k with
    | none => exact (this hm).elim
    | some c => 
      have := hb k c hm
      unfold ageU; rw [if_neg (by omega), hm]
  · intro hm
    refine ⟨j, (hK.mem j).1 (by rw [hm]; simp), ?_⟩
    have := hb j b hm
    unfold ageU; rw [if_neg (by omega), hm]
theorem lst_abs {y : Int} {m : Bnd} (hb : Bd y m) {Ks : List Int} (hK : KeysOf m Ks) : AbsB (lst m Ks) m := ⟨by
  have : (lst m Ks).map (·.1) = Ks := by unfold lst; rw [List.map_map]; exact (List.map_congr_left (fun _ _ => rfl)).trans (List.map_id Ks)
  rw [this]; exact hK.nodup, lst_mem hb hK⟩
theorem rDes_iff {y s : Int} {m : Bnd} (hb : Bd y m) {Ks : List Int} (hK : KeysOf m Ks) (ll : List (List Int)) : rDes s (lst m Ks) ll ↔ DesQ m s ll := by
  unfold rDes DesQ
  refine and_congr_right fun _ => ⟨fun h k b hk => ?_, fun h x hx => ?_⟩
  · exact (rOk_iff _ _ _).1 (h (k, b) ((lst_mem hb hK k b).2 hk))
  · exact (rOk_iff _ _ _).2 (h x.1 x.2 ((lst_mem hb hK x.1 x.2).1 hx))
set_option maxHeartbeats 1000000 in
set_option maxRecDepth 10000 in
theorem MustDescribes_spec (s y l : Int) (lv : Value) (L : List Op) (llv : Value) (ll : List (List Int)) (w : World) (h : OpsAt w lv L) (hM : OpsOk L) (hl : IntssAt w llv ll) (hlM : ll.length ≤ maxLen ∧ ∀ l ∈ ll, l.length ≤ maxLen ∧ ∀ n ∈ l, i64ok n) :
    VRet Try.prog 5 #[cfgV s y l, lv, llv] w fun v w' => v = .bool true ∧ Ext w w' := by
  obtain ⟨la, lc, rfl⟩ := h.form
  obtain ⟨al, cl, rfl⟩ := hl.form
  have hll : ∀ l ∈ ll, l.length ≤ 9223372036854775807 := fun l hx => (hlM.2 l hx).1
  refine VRet_start T.mo ok5 rfl fun Ψ hΨ => ?_; simp only [vc5, rs5]
  simp only [VS, VD, SV, SL, T, Nat.reduceEqDiff, Nat.reduceAdd, Nat.reduceSub, Nat.reduceMul, Nat.reduceLeDiff, Nat.reduceLT, reduceIte, cfgV]
  refine (awake_spec _).mono ?_
  rintro _ w1 ⟨rfl, hE⟩
  replace hE := ((Ext.refl w).alloc tomb).trans hE
  simp only [VS, VD, SV, SL, T, Nat.reduceEqDiff, Nat.reduceAdd, Nat.reduceSub, Nat.reduceMul, Nat.reduceLeDiff, Nat.reduceLT, reduceIte]
  refine (states_spec s y l _ (.slice none 0 0) L [] hM.1 (by simp) _ (h.ext hE) (.inl ⟨⟨_, _, rfl⟩, rfl⟩)).mono ?_
  rintro _ w2 ⟨⟨va, vb, r, rfl, ⟨sa, na, ca, s1, y1, l1, rfl⟩, ⟨sb, nb, cb, s2, y2, l2, rfl⟩, hr, hm⟩, hE2⟩
  replace hE := hE.trans hE2
  simp only [VS, VD, SV, SL, T, Nat.reduceEqDiff, Nat.reduceAdd, Nat.reduceSub, Nat.reduceMul, Nat.reduceLeDiff, Nat.reduceLT, reduceIte, muV]
  replace hE := (hE.alloc tomb).alloc tomb
  cases r with
  | false =>
    simp only [VS, VD, SV, SL, T, Nat.reduceEqDiff, Nat.reduceAdd, Nat.reduceSub, Nat.reduceMul, Nat.reduceLeDiff, Nat.reduceLT, reduceIte]
    exact hΨ _ _ ⟨rfl, hE⟩
  | true =>
    obtain ⟨hv, hL, _⟩ := hr.1 rfl
    obtain ⟨hm, hm0⟩ := hm rfl
    have hp := Geo_spec hv
    replace hm := hm.ext (((Ext.refl w2).alloc tomb).alloc tomb)
    generalize (w2.alloc tomb).alloc tomb = w3 at *
    have hbd := runU_bd (s := s) hp.2.2.1 L (Bd_em y)
    have hlim := runU_lim (s := s) (y := y) L hL.2 Lim_em
    generalize runU s y emU L = M at *
    obtain ⟨b0, o0, c0, e0⟩ := hm.form
    simp only [muV, Value.agg.injEq] at e0
    simp only [Array.mk.injEq, List.cons.injEq, Value.int.injEq, true_and, and_true, Value.slice.injEq] at e0
    obtain ⟨rfl, rfl, rfl, rfl, rfl, rfl⟩ := e0
    simp only [VS, VD, SV, SL, T, Nat.reduceEqDiff, Nat.reduceAdd, Nat.reduceSub, Nat.reduceMul, Nat.reduceLeDiff, Nat.reduceLT, reduceIte]
    refine cnd_d (fun q1 => ?_) (fun q1 => ?_)
    · simp only [VS, VD, SV, SL, T, Nat.reduceEqDiff, Nat.reduceAdd, Nat.reduceSub, Nat.reduceMul, Nat.reduceLeDiff, Nat.reduceLT, reduceIte]
      exact hΨ _ _ ⟨rfl, hE⟩
    simp only [VS, VD, SV, SL, T, Nat.reduceEqDiff, Nat.reduceAdd, Nat.reduceSub, Nat.reduceMul, Nat.reduceLeDiff, Nat.reduceLT, reduceIte, muV]
    have hK := keysU_of hbd hlim
    generalize keysU M = Ks at *
    refine (Lines_spec _ _ _ hv M Ks hK _ _ hm).mono ?_
    rintro v7 w7 ⟨hE7, ho⟩
    obtain ⟨ak, ck, rfl⟩ := ho.ints.form
    have hints := ho.ints
    have hlen := hK.len
    replace hm := hm.ext hE7
    replace hE := hE.trans hE7
    simp only [VS, VD, SV, SL, T, Nat.reduceEqDiff, Nat.reduceAdd, Nat.reduceSub, Nat.reduceMul, Nat.reduceLeDiff, Nat.reduceLT, reduceIte]
    refine LoopP_intro (α := Nat) (fun i f' w' => f' 2 = .slice al ll.length cl ∧ f' 3 = .agg #[.int .i64 s1, .int .i64 y1, .int .i64 l1] ∧ f' 7 = muV s1 y1 l1 (.slice (some ⟨b0, o0, none⟩) s1.toNat ca) ∧ live (f' 8) = true ∧ f' 32 = .slice ak Ks.length ck ∧ f' 33 = .int .i64 Ks.length ∧ f' 34 = .int .i64 i ∧ i ≤ Ks.length ∧ LnO w7.heap.size w' (f' 10) (lst M (Ks.take i)) ∧ Ext w7 w') (fun i => Ks.length - i) 0 ?_ ?_
    · simp only [VS, VD, SV, SL, T, Nat.reduceEqDiff, Nat.reduceAdd, Nat.reduceSub, Nat.reduceMul, Nat.reduceLeDiff, Nat.reduceLT, reduceIte, muV]
      exact ⟨rfl, by omega, OwnL.nil _ _ _ _ _, Ext.refl _⟩
    rintro i f' w' ⟨f2, f3, f7, f8, f32, f33, f34, hile, hown, hEx⟩
    simp only [VS, VD, SV, SL, T, Nat.reduceEqDiff, Nat.reduceAdd, Nat.reduceSub, Nat.reduceMul, Nat.reduceLeDiff, Nat.reduceLT, reduceIte, f33, f34]
    refine cnd_d (fun hlt => ?_) (fun hlt => ?_)
    · have hi : i < Ks.length := by omega
      obtain ⟨bk, off, cs, e, fz, rfl, _, hbk, hck⟩ := (hints.ext hEx).get (i := i) (x := Ks[i]) (by simp [hi])
      have hst : lst M (Ks.take (i + 1)) = lst M (Ks.take i) ++ [(Ks[i], (ageU M Ks[i]).1)] := by
        unfold lst; rw [List.take_succ_eq_append_getElem hi, List.map_append]; rfl
      have hll1 : (lst M (Ks.take i)).length ≤ i := by simp [lst]; omega
      generalize Ks[i] = k at *
      simp only [VS, VD, SV, SL, T, Nat.reduceEqDiff, Nat.reduceAdd, Nat.reduceSub, Nat.reduceMul, Nat.reduceLeDiff, Nat.reduceLT, reduceIte, f32, f34, hbk, Int.toNat_natCast, hck, f7, muV]
      refine ⟨by omega, ?_⟩
      refine (Age_spec _ _ _ hv _ _ k _ (hm.ext hEx)).mono ?_
      rintro _ w8 ⟨rfl, hE8⟩
      replace hown := hown.ext hE8
      replace hEx := hEx.trans hE8
      obtain ⟨v10, f10⟩ : ∃ v, f' 10 = v := ⟨_, rfl⟩
      rw [f10] at hown
      simp only [VS, VD, SV, SL, T, Nat.reduceEqDiff, Nat.reduceAdd, Nat.reduceSub, Nat.reduceMul, Nat.reduceLeDiff, Nat.reduceLT, reduceIte, f10]
      refine app_line hown (by omega) hEx.size k _ ?_
      intro v' w9 ho9 hE9
      rw [← hst] at ho9
      simp only [VS, VD, SV, SL, T, Nat.reduceEqDiff, Nat.reduceAdd, Nat.reduceSub, Nat.reduceMul, Nat.reduceLeDiff, Nat.reduceLT, reduceIte, f34]
      exact ⟨by omega, i + 1, ⟨f2, f3, by rw [f7]; rfl, f8, f32, f33, by simp, by omega, ho9, hE9 w7 hEx (Nat.le_refl _)⟩, by omega⟩
    · rw [List.take_of_length_le (by omega)] at hown
      have hln : LnAt w' (f' 10) (lst M Ks) := hown.sl fun _ => rfl
      obtain ⟨a10, c10, f10⟩ := lnAt_form hln
      rw [f10] at hln
      have hiff := rDes_iff (s := s1) hbd hK ll
      have hll2 : (lst M Ks).length ≤ 1000000 := by simp [lst]; omega
      have hpos : ∀ x ∈ lst M Ks, 0 ≤ x.1 := fun x hx => (hbd _ _ ((lst_mem hbd hK x.1 x.2).1 hx)).1
      generalize lst M Ks = Ls at *
      simp only [VS, VD, SV, SL, T, Nat.reduceEqDiff, Nat.reduceAdd, Nat.reduceSub, Nat.reduceMul, Nat.reduceLeDiff, Nat.reduceLT, reduceIte, f7, muV]
      refine DW_intro (fun n _ v w' => ∃ r : Bool, v = .bool r ∧ (r = true ↔ DesQ M s1 ll)) ?_
      simp only [VS, VD, SV, SL, T, Nat.reduceEqDiff, Nat.reduceAdd, Nat.reduceSub, Nat.reduceMul, Nat.reduceLeDiff, Nat.reduceLT, reduceIte, f7, f2, f3, f10, muV]
      refine rY_ph rfl rfl (fun _ _ _ h _ => h) (fun w'' hE' _ => ?_) ?_
      · simp only [VS, VD, SV, SL, T, Nat.reduceEqDiff, Nat.reduceAdd, Nat.reduceSub, Nat.reduceMul, Nat.reduceLeDiff, Nat.reduceLT, reduceIte]
        refine (Describes_big s1 y1 l1 hv M hbd _ _ ll ⟨by omega, hll⟩ w'' ((hm.ext hEx).ext hE') (hl.ext ((hE.trans hEx).trans hE'))).mono ?_
        rintro _ w13 ⟨⟨r, rfl, hr⟩, hE13⟩
        exact ⟨hE13, r, rfl, hr⟩
      rintro v3 ⟨_, _, _, h3⟩
      obtain ⟨r1, rfl, hr1⟩ : ∃ r : Bool, v3 = .bool r ∧ (r = true ↔ DesQ M s1 ll) := h3
      simp only [VS, VD, SV, SL, T, Nat.reduceEqDiff, Nat.reduceAdd, Nat.reduceSub, Nat.reduceMul, Nat.reduceLeDiff, Nat.reduceLT, reduceIte, f7, f2, f3, f10, muV]
      intro w11 hE11 _
      simp only [VS, VD, SV, SL, T, Nat.reduceEqDiff, Nat.reduceAdd, Nat.reduceSub, Nat.reduceMul, Nat.reduceLeDiff, Nat.reduceLT, reduceIte]
      refine (rDescribes_spec s1 y1 l1 (by omega) Ls hll2 hpos _ _ ll hll w11 (hln.ext hE11) (hl.ext ((hE.trans hEx).trans hE11))).mono ?_
      rintro _ w12 ⟨⟨r, rfl, hr⟩, hE12⟩
      have he : r1 = r := by
        rw [hiff] at hr
        cases r1 <;> cases r <;> simp_all
      subst he
      simp only [VS, VD, SV, SL, T, Nat.reduceEqDiff, Nat.reduceAdd, Nat.reduceSub, Nat.reduceMul, Nat.reduceLeDiff, Nat.reduceLT, reduceIte]
      refine hΨ _ _ ⟨?_, ((hE.trans hEx).trans hE11).trans hE12⟩
      simp
end Go.Proofs.Ytehmbpkcbmnfnaa
