/-
  MaySound.
-/
import Derived.Test.YtndkadphpbnpeaaZCS1
import Derived.Test.YtndkadphpbnpeaaZU
set_option linter.unusedSimpArgs false
set_option linter.unusedVariables false
namespace Go.Proofs.Ytndkadphpbnpeaa
open Go.W Go.RowKit
open C (dst stS addH hitS ptr CacheAt Mv)
set_option maxRecDepth 10000 in
theorem line_spec (lo hi p : Int) (hb : -4000 ≤ lo ∧ lo ≤ 4000 ∧ -4000 ≤ hi ∧ hi ≤ 4000) (hp : 0 ≤ p ∧ p ≤ 255) (w : World) :
    VRet Try.prog 22 #[stpV lo hi p] w fun v w' => v = .tuple #[.int .i64 ((lineM lo hi p).getD 0), .bool (lineM lo hi p).isSome] ∧ Ext w w' := by
  refine VRet_start T.mo ok22 rfl fun Ψ hΨ => ?_; simp only [vc22, rs22]
  simp only [VS, VD, SV, SL, T, Nat.reduceEqDiff, Nat.reduceAdd, Nat.reduceSub, Nat.reduceMul, Nat.reduceLeDiff, Nat.reduceLT, reduceIte, stpV]
  have hEa := (Ext.refl w).alloc tomb
  refine cnd_d (fun hq => ?_) (fun hq => ?_)
  · simp only [VS, VD, SV, SL, T, Nat.reduceEqDiff, Nat.reduceAdd, Nat.reduceSub, Nat.reduceMul, Nat.reduceLeDiff, Nat.reduceLT, reduceIte]
    refine hΨ _ _ ⟨?_, hEa⟩
    have : lineM lo hi p = none := by unfold lineM; rw [if_pos hq]
    rw [this]; rfl
  · have hl : lineM lo hi p = some (max lo 0 + p % (hi - max lo 0 + 1)) := by unfold lineM; rw [if_neg hq]
    have h1 := Int.emod_nonneg p (show hi - max lo 0 + 1 ≠ 0 by omega)
    have h2 := Int.emod_lt_of_pos p (show 0 < hi - max lo 0 + 1 by omega)
    simp only [VS, VD, SV, SL, T, Nat.reduceEqDiff, Nat.reduceAdd, Nat.reduceSub, Nat.reduceMul, Nat.reduceLeDiff, Nat.reduceLT, reduceIte]
    refine ⟨by omega, by omega, by omega, by omega, by omega, ?_⟩
    refine hΨ _ _ ⟨?_, hEa⟩
    rw [hl]; rfl
set_option maxRecDepth 10000 in
theorem touch_spec {F : Nat → Prop} {p : Nat} {s y l : Int} {H : Nat → List Int} {w : World} (hg : Geo s y l = true) (h : CacheAt w F p s y l (stS s y H)) (n : Int) (hn : 0 ≤ n ∧ n ≤ 100000) :
    VRet Try.prog 25 #[ptr p, cfgV s y l, .int .i64 n] w fun v w' => ∃ F', CacheAt w' F' p s y l (stS s y (addH s l H (n * l))) ∧ Mv F w F' w' := by
  have hgs := Geo_spec hg
  have hnl : 0 ≤ n * l ∧ n * l ≤ 1600000 := ⟨Int.mul_nonneg hn.1 (by omega), Int.mul_le_mul hn.2 (show l ≤ 16 by omega) (by omega) (by omega)⟩
  refine VRet_start T.mo ok25 rfl fun Ψ hΨ => ?_; simp only [vc25, rs25]
  simp only [VS, VD, SV, SL, T, Nat.reduceEqDiff, Nat.reduceAdd, Nat.reduceSub, Nat.reduceMul, Nat.reduceLeDiff, Nat.reduceLT, reduceIte, cfgV]
  refine ⟨by omega, ?_⟩
  have hEa := (Ext.refl w).alloc tomb
  refine (C.Access_mv hg (h.ext hEa) (n * l) (by omega)).mono ?_
  rintro _ w1 ⟨rfl, F', hC, hm⟩
  simp only [VS, VD, SV, SL, T, Nat.reduceEqDiff, Nat.reduceAdd, Nat.reduceSub, Nat.reduceMul, Nat.reduceLeDiff, Nat.reduceLT, reduceIte]
  exact hΨ _ _ ⟨F', hC, (Mv.of_ext hEa).trans hm⟩
theorem MapAt.per {w w' : World} {v : Value} {m : Int → Option Int} (h : MapAt w v m) (hE : Per w w') : MapAt w' v m := by
  rcases h with h | ⟨r, l, c, h1, h2, h3⟩
  · exact .inl h
  · exact .inr ⟨r, l, c, h1, hE.map h2, h3⟩
theorem MayAt.per {w w' : World} {v : Value} {s y l : Int} {M : Option (Int → Option Int)} (h : MayAt w v s y l M) (hE : Per w w') : MayAt w' v s y l M := by
  cases M with
  | none => exact h
  | some m =>
    obtain ⟨b, off, cap, vs, h1, h2, h3⟩ := h
    exact ⟨b, off, cap, vs, h1, h2, fun i x hx => ⟨hE.cell (h3 i x hx).1, (h3 i x hx).2.per hE⟩⟩
theorem mv_hid {F F' : Nat → Prop} {w w' : World} (h : Mv F w F' w') : Per (hid F w) (hid F' w') := by
  intro b o hb ho
  obtain ⟨h1, h2⟩ := tombW_real hb ho
  have hlt := get_lt h2
  have hf := hidF_false.1 h1
  unfold hid
  rw [tombW_see (hidF_false.2 fun hf' => (h.2 b hf').elim hf (by omega)), h.1.get b hlt hf]
  exact h2
theorem flat_cell {w : World} {sz : Nat} (hsz : 0 < sz) {rows : List (List Value)} (hr : ∀ r ∈ rows, r.length = sz) {a : Addr} {n c : Nat} (h : SlAt w (.slice (some a) n c) sz rows) : ∀ (j : Nat) u, rows.flatten[j]? = some u → w.cell? (a.add j) = some u := by
  intro j u hu
  rcases h with ⟨_, h'⟩ | ⟨b, off, cap, h1, h2⟩
  · subst h'; simp at hu
  · simp only [Value.slice.injEq, Option.some.injEq] at h1
    obtain ⟨rfl, _, _⟩ := h1
    have hjl := (List.getElem?_eq_some_iff.1 hu).1
    rw [flatten_length sz rows hr] at hjl
    have hi : j / sz < rows.length := Nat.div_lt_of_lt_mul (by rw [Nat.mul_comm]; exact hjl)
    have hq : j % sz < sz := Nat.mod_lt _ hsz
    have hj : j = j / sz * sz + j % sz := by rw [Nat.mul_comm]; exact (Nat.div_add_mod j sz).symm
    obtain ⟨cs, e, fz, h3, h4, h5⟩ := rd_obj (h2 (j / sz) rows[j / sz] (by simp [hi]))
    have hf := flatten_get sz rows hr (j / sz) rows[j / sz] (by simp [hi])
    have hu2 : rows[j / sz][j % sz]? = some u := by
      rw [← hf, List.getElem?_take_of_lt hq, List.getElem?_drop, ← hj]; exact hu
    rw [add_mk, cell_mk, h3]
    have := congrArg (fun (x : Array Value) => x[j % sz]?) h5
    simp only [Array.getElem?_extract, List.getElem?_toArray, hu2] at this
    rw [if_pos (by omega)] at this
    rw [show off + j = off + j / sz * sz + j % sz by omega]
    exact this
abbrev StpO (base : Nat) (w : World) (v : Value) (L : List Stp) : Prop := OwnL stpR base 45 3 w v L
set_option maxRecDepth 10000 in
theorem app_steps {w : World} {κ : Value → World → Prop} {base : Nat} {v u : Value} {A L : List Stp} (hown : StpO base w v A) (hu : StpsAt w u L) (hnil : ∃ a n c, u = .slice a n c ∧ n ≤ c ∧ (a = none → c = 0)) (hn : A.length + L.length ≤ 1000) (hb : base ≤ w.heap.size)
    (h : ∀ v' w', StpO base w' v' (A ++ L) → w.grownBy w' v.ownBlock → κ v' w') :
    RunV Try.prog w κ (Builtin.append_ #[24, 24] 24 #[v, u]) := by
  obtain ⟨a, c, rfl⟩ := hu.form
  have hR : ∀ r ∈ L.map stpR, r.length = 3 := by
    intro r hr
    obtain ⟨x, _, rfl⟩ := List.mem_map.1 hr
    rfl
  cases a with
  | none =>
    obtain ⟨a, n, c', e, _, h0⟩ := hnil
    simp only [Value.slice.injEq] at e
    obtain ⟨rfl, rfl, rfl⟩ := e
    obtain rfl := h0 rfl
    obtain rfl : L = [] := by
      rcases hu with ⟨_, h'⟩ | ⟨b, off, cap, h1, _⟩
      · simpa using h'
      · simp at h1
    refine rV_append_nil T.el24 T.sz45 hown (h v w (by simpa using hown) ⟨rfl, rfl, rfl, Nat.le_refl _, fun _ _ _ => rfl⟩)
  | some a =>
    refine rV_append (ty := 24) T.el24 T.sz45 T.by45 T.zr45 rfl (by omega) hown (news := (L.map stpR).flatten) (by rw [flatten_length 3 _ hR]; simp) ?_ ?_ ?_ ?_ hb ?_
    · exact flat_cell (by omega) hR hu
    · intro x hx
      obtain ⟨r, hr, hx⟩ := List.mem_flatten.1 hx
      obtain ⟨q, _, rfl⟩ := List.mem_map.1 hr
      simp only [stpR, List.mem_cons, List.not_mem_nil, or_false] at hx
      rcases hx with rfl | rfl | rfl <;> rfl
    · unfold maxLen; omega
    · omega
    · intro v' w' ho hg _
      refine h v' w' ?_ hg
      have e5 : (A ++ L).length = A.length + L.length := by simp
      have e6 : ((A ++ L).map stpR).flatten = (A.map stpR).flatten ++ (L.map stpR).flatten := by simp
      show w'.ownsRow base _ 3 v' (A ++ L).length ((A ++ L).map stpR).flatten
      rw [e5, e6]
      exact ho
set_option maxHeartbeats 1000000 in
set_option maxRecDepth 100000 in
theorem MaySound_spec (s y l : Int) (av : Value) (A : List Stp) (lv : Value) (L : List Stp) (w : World) (ha : StpsAt w av A) (hAM : ∀ x ∈ A, 0 ≤ x.pick ∧ x.pick ≤ 255) (hcapa : ∃ a n c, av = .slice a n c ∧ n ≤ c ∧ (a = none → c = 0)) (h : StpsAt w lv L) (hLM : ∀ x ∈ L, 0 ≤ x.pick ∧ x.pick ≤ 255) (hcapl : ∃ a n c, lv = .slice a n c ∧ n ≤ c ∧ (a = none → c = 0)) :
    VRet Try.prog 5 #[cfgV s y l, av, lv] w fun v w' => v = .bool true ∧ Ext w w' := by
  obtain ⟨aa, ac, rfl⟩ := ha.form
  obtain ⟨la, lc, rfl⟩ := h.form
  refine VRet_start T.mo ok5 rfl fun Ψ hΨ => ?_; simp only [vc5, rs5]
  simp only [VS, VD, SV, SL, T, Nat.reduceEqDiff, Nat.reduceAdd, Nat.reduceSub, Nat.reduceMul, Nat.reduceLeDiff, Nat.reduceLT, reduceIte, cfgV]
  refine (awake_spec _).mono ?_
  rintro _ w1 ⟨rfl, hE⟩
  replace hE := ((Ext.refl w).alloc tomb).trans hE
  simp only [VS, VD, SV, SL, T, Nat.reduceEqDiff, Nat.reduceAdd, Nat.reduceSub, Nat.reduceMul, Nat.reduceLeDiff, Nat.reduceLT, reduceIte]
  refine (small_spec s y l _ A _ (ha.ext hE)).mono ?_
  rintro _ w2 ⟨⟨r, rfl, hr⟩, hE2⟩
  replace hE := hE.trans hE2
  cases r with
  | false =>
    simp only [VS, VD, SV, SL, T, Nat.reduceEqDiff, Nat.reduceAdd, Nat.reduceSub, Nat.reduceMul, Nat.reduceLeDiff, Nat.reduceLT, reduceIte]
    refine (awake_spec _).mono ?_
    rintro _ w3 ⟨rfl, hE3⟩
    simp only [VS, VD, SV, SL, T, Nat.reduceEqDiff, Nat.reduceAdd, Nat.reduceSub, Nat.reduceMul, Nat.reduceLeDiff, Nat.reduceLT, reduceIte]
    exact hΨ _ _ ⟨rfl, hE.trans hE3⟩
  | true =>
    have hsa := hr.1 rfl
    simp only [VS, VD, SV, SL, T, Nat.reduceEqDiff, Nat.reduceAdd, Nat.reduceSub, Nat.reduceMul, Nat.reduceLeDiff, Nat.reduceLT, reduceIte]
    refine (small_spec s y l _ L _ (h.ext hE)).mono ?_
    rintro _ w3 ⟨⟨r, rfl, hr⟩, hE3⟩
    replace hE := hE.trans hE3
    cases r with
    | false =>
      simp only [VS, VD, SV, SL, T, Nat.reduceEqDiff, Nat.reduceAdd, Nat.reduceSub, Nat.reduceMul, Nat.reduceLeDiff, Nat.reduceLT, reduceIte]
      refine (awake_spec _).mono ?_
      rintro _ w3 ⟨rfl, hE3⟩
      simp only [VS, VD, SV, SL, T, Nat.reduceEqDiff, Nat.reduceAdd, Nat.reduceSub, Nat.reduceMul, Nat.reduceLeDiff, Nat.reduceLT, reduceIte]
      exact hΨ _ _ ⟨rfl, hE.trans hE3⟩
    | true =>
      have hsl := hr.1 rfl
      have hv := hsl.1
      have hp := Geo_spec hv
      simp only [VS, VD, SV, SL, T, Nat.reduceEqDiff, Nat.reduceAdd, Nat.reduceSub, Nat.reduceMul, Nat.reduceLeDiff, Nat.reduceLT, reduceIte]
      refine (C.New_spec s y l _).mono ?_
      rintro v4 w4 (⟨hg, _⟩ | ⟨_, p, rfl, hC, hE4⟩)
      · rw [hv] at hg; cases hg
      have hF4 : ∀ b, (w3.heap.size ≤ b ∧ b < w4.heap.size) → w.heap.size ≤ b := fun b hb => Nat.le_trans hE.size hb.1
      replace hE := hE.trans hE4
      simp only [VS, VD, SV, SL, T, Nat.reduceEqDiff, Nat.reduceAdd, Nat.reduceSub, Nat.reduceMul, Nat.reduceLeDiff, Nat.reduceLT, reduceIte]
      refine (VRet.hid (F := fun b => w3.heap.size ≤ b ∧ b < w4.heap.size) (fun b hb => hb.2) (New_spec s y l hv _)).mono ?_
      rintro _ w5 ⟨w1h, ⟨⟨st, rfl, hm⟩, hEh⟩, hper, _, _, hEE⟩
      have hE5 := hEE hEh
      replace hm := hm.per hper
      replace hE := hE.trans hE5
      obtain ⟨u0, a0, n0, c0, rfl⟩ := hm.form
      simp only [VS, VD, SV, SL, T, Nat.reduceEqDiff, Nat.reduceAdd, Nat.reduceSub, Nat.reduceMul, Nat.reduceLeDiff, Nat.reduceLT, reduceIte, stV, ne_eq, not_true_eq_false, decide_false]
      have hE6 := (Ext.refl w5).alloc tomb
      replace hE := hE.trans hE6
      replace hm := hm.per (hid_ext hE6)
      have hsz6 : (w5.alloc tomb).heap.size = w5.heap.size + 1 := alloc_size _ _
      replace hC := hC.ext (hE5.trans hE6)
      have hE46 := hE5.trans hE6
      generalize w5.alloc tomb = w6 at *
      have hown : StpO w6.heap.size (w6.alloc (Obj.cells #[] 45)) (.slice (some ⟨w6.heap.size, 0, none⟩) 0 0) [] :=
        World.ownsRow_made w6 #[] 0 (Nat.le_refl _) (Nat.zero_le _) (by simp)
      have hEa := (Ext.refl w6).alloc (Obj.cells #[] 45)
      rw [← hsz6]
      refine app_steps (A := []) (base := w6.heap.size) hown (ha.ext (hE.trans hEa)) hcapa (by have := hsa.2.2.1; simp only [List.length_nil]; omega) (by rw [alloc_size]; omega) ?_
      intro v7 w7 ho7 hg7
      rw [List.nil_append] at ho7
      have hE7 : Ext w6 w7 := hEa.grownO hown (Nat.le_refl _) hg7
      simp only [VS, VD, SV, SL, T, Nat.reduceEqDiff, Nat.reduceAdd, Nat.reduceSub, Nat.reduceMul, Nat.reduceLeDiff, Nat.reduceLT, reduceIte]
      refine app_steps ho7 (h.ext (hE.trans hE7)) hcapl (by have := hsa.2.2.1; have := hsl.2.2.1; omega) hE7.size ?_
      intro v8 w8 ho8 hg8
      have hE8 : Ext w6 w8 := hE7.grownO ho7 (Nat.le_refl _) hg8
      have hST : StpsAt w8 v8 (A ++ L) := ho8.sl fun _ => rfl
      have hall : ∀ x ∈ A ++ L, near x ∧ 0 ≤ x.pick ∧ x.pick ≤ 255 := by
        intro x hx
        rcases List.mem_append.1 hx with hx | hx
        · exact ⟨hsa.2.2.2 x hx, hAM x hx⟩
        · exact ⟨hsl.2.2.2 x hx, hLM x hx⟩
      have hlenT : (A ++ L).length ≤ 80 := by have := hsa.2.2.1; have := hsl.2.2.1; simp; omega
      generalize A ++ L = Q at *
      obtain ⟨ta, tc, rfl⟩ := hST.form
      replace hE := hE.trans hE8
      have hmh := hm.per (hid_ext hE8)
      replace hC := hC.ext hE8
      rw [show List.replicate s.toNat [] = stS s y fun _ => [] from C.emp_stS s y] at hC
      have hF8 : ∀ b, (w3.heap.size ≤ b ∧ b < w4.heap.size) → b < w6.heap.size := fun b hb => by have := hE46.size; omega
      have hSTh : StpsAt (hid (fun b => w3.heap.size ≤ b ∧ b < w4.heap.size) w8) (.slice ta Q.length tc) Q := by
        have : StpO w6.heap.size (hid (fun b => w3.heap.size ≤ b ∧ b < w4.heap.size) w8) (.slice ta Q.length tc) Q := tomb_own ho8 (fun b hb => hidF_false.2 fun hf => by have := (ho8.lt b hb).1; have := hF8 b hf; omega)
        exact OwnL.sl this fun _ => rfl
      simp only [VS, VD, SV, SL, T, Nat.reduceEqDiff, Nat.reduceAdd, Nat.reduceSub, Nat.reduceMul, Nat.reduceLeDiff, Nat.reduceLT, reduceIte]
      refine LoopP_intro (α := Nat) (fun i f' w' => f' 3 = .agg #[.int .i64 s, .int .i64 y, .int .i64 l] ∧ f' 7 = ptr p ∧ f' 52 = .slice ta Q.length tc ∧ f' 53 = .int .i64 Q.length ∧ f' 54 = .int .i64 i ∧ i ≤ Q.length ∧ Ext w w' ∧
        ∃ M F H, StpsAt (hid F w') (.slice ta Q.length tc) Q ∧ MayAt (hid F w') (f' 9) s y l M ∧ BdS y M ∧ CacheAt w' F p s y l (stS s y H) ∧ (∀ b, F b → w.heap.size ≤ b) ∧ Hok s H ∧ DesP M s (stS s y H)) (fun i => Q.length - i) 0 ?_ ?_
      · simp only [VS, VD, SV, SL, T, Nat.reduceEqDiff, Nat.reduceAdd, Nat.reduceSub, Nat.reduceMul, Nat.reduceLeDiff, Nat.reduceLT, reduceIte, stV]
        refine ⟨rfl, Nat.zero_le _, hE, _, _, fun _ => [], hSTh, hmh, BdS_empty y, hC, hF4, fun i k hk => by simp at hk, ?_⟩
        refine (DesP_iff hv (fun i k hk => by simp at hk)).2 fun i hi j k hk => ?_
        simp [dst] at hk
      · clear hSTh hmh hC hm
        rintro i f' wo ⟨f3, f7, f52, f53, f54, hi, hEx, M, F, H, hTs, hM, hbd, hC, hF, hH, hD⟩
        simp only [VS, VD, SV, SL, T, Nat.reduceEqDiff, Nat.reduceAdd, Nat.reduceSub, Nat.reduceMul, Nat.reduceLeDiff, Nat.reduceLT, reduceIte, f54, f53]
        refine cnd_d (fun hlt => ?_) (fun hlt => ?_)
        · have hi' : i < Q.length := by omega
          obtain ⟨b, off, cs, e, fz, rfl, hb, hle2, hext⟩ := StpsAt.get (w := wo) (hTs.per (hid_per F wo)) hi'
          obtain ⟨hnr, hpk⟩ := hall _ (List.getElem_mem hi')
          unfold near at hnr
          generalize Q[i] = q at *
          obtain ⟨u9, a9, n9, c9, f9⟩ := hM.form
          rw [f9] at hM
          simp only [VS, VD, SV, SL, T, Nat.reduceEqDiff, Nat.reduceAdd, Nat.reduceSub, Nat.reduceMul, Nat.reduceLeDiff, Nat.reduceLT, reduceIte, f52, f54, Int.toNat_natCast, hb, hle2, hext]
          refine ⟨by omega, ?_⟩
          have hEb := (Ext.refl wo).alloc tomb
          refine (line_spec q.lo q.hi q.pick hnr hpk _).mono ?_
          rintro _ w9 ⟨rfl, hE9⟩
          replace hE9 := hEb.trans hE9
          have hC9 := hC.ext hE9
          have hM9 := hM.per (hid_ext (F := F) hE9)
          have hTs9 : StpsAt (hid F w9) _ Q := SlAt.per hTs (hid_ext (F := F) hE9)
          have hEw9 := hEx.trans hE9
          obtain ⟨hD', hH'⟩ := sound_step hv hH hD (lo := q.lo) (hi := q.hi) hpk.1
          simp only [VS, VD, SV, SL, T, Nat.reduceEqDiff, Nat.reduceAdd, Nat.reduceSub, Nat.reduceMul, Nat.reduceLeDiff, Nat.reduceLT, reduceIte]
          refine cnd_c (fun g wx => g 3 = .agg #[.int .i64 s, .int .i64 y, .int .i64 l] ∧ g 7 = ptr p ∧ g 9 = stV s y l u9 (.slice a9 n9 c9) ∧ g 12 = .agg #[.int .i64 q.lo, .int .i64 q.hi, .int .u8 q.pick] ∧ g 52 = .slice (some ⟨b, off, none⟩) Q.length tc ∧ g 53 = .int .i64 Q.length ∧ g 54 = .int .i64 i ∧ Ext w wx ∧
            ∃ F', StpsAt (hid F' wx) (.slice (some ⟨b, off, none⟩) Q.length tc) Q ∧ MayAt (hid F' wx) (stV s y l u9 (.slice a9 n9 c9)) s y l M ∧ CacheAt wx F' p s y l (stS s y (accH s l H (lineM q.lo q.hi q.pick))) ∧ ∀ b, F' b → w.heap.size ≤ b) ?_ ?_
          · cases hln : lineM q.lo q.hi q.pick with
            | none =>
              simp only [VS, VD, SV, SL, T, Nat.reduceEqDiff, Nat.reduceAdd, Nat.reduceSub, Nat.reduceMul, Nat.reduceLeDiff, Nat.reduceLT, reduceIte, Option.isSome_none, f3, f7, f9, f52, f53, f54]
              exact ⟨hEw9, F, hTs9, hM9, hC9, hF⟩
            | some n =>
              have hn := lineM_in hpk.1 hln
              have hn0 : 0 ≤ n ∧ n ≤ 4000 := by omega
              have hnl : 0 ≤ n * l ∧ n * l ≤ 1600000 := ⟨Int.mul_nonneg hn0.1 (by omega), Int.mul_le_mul (show n ≤ 100000 by omega) (show l ≤ 16 by omega) (by omega) (by omega)⟩
              simp only [VS, VD, SV, SL, T, Nat.reduceEqDiff, Nat.reduceAdd, Nat.reduceSub, Nat.reduceMul, Nat.reduceLeDiff, Nat.reduceLT, reduceIte, Option.isSome_some, Option.getD_some, f9, stV]
              refine (Age_spec s y l hv M _ n w9 (hM9.per (hid_per F w9))).mono ?_
              rintro _ w10 ⟨rfl, hE10⟩
              have hfin : ∀ wy, Ext w10 wy → VRet Try.prog 25 #[ptr p, cfgV s y l, .int .i64 n] wy fun _ w' => Ext w w' ∧ ∃ F', StpsAt (hid F' w') (.slice (some ⟨b, off, none⟩) Q.length tc) Q ∧ MayAt (hid F' w') (stV s y l u9 (.slice a9 n9 c9)) s y l M ∧ CacheAt w' F' p s y l (stS s y (addH s l H (n * l))) ∧ ∀ b, F' b → w.heap.size ≤ b := by
                intro wy hEy
                have hE9y := hE10.trans hEy
                refine (touch_spec hv (hC9.ext hE9y) n (by omega)).mono ?_
                rintro _ w11 ⟨F', hC11, hm11⟩
                have hpm := mv_hid hm11
                exact ⟨hm11.ext (hEw9.trans hE9y) hF, F', SlAt.per hTs9 ((hid_ext (F := F) hE9y).trans hpm), hM9.per ((hid_ext (F := F) hE9y).trans hpm), hC11, hm11.above (hEw9.trans hE9y).size hF⟩
              cases hin : (ageM M n).2 with
              | true =>
                simp only [VS, VD, SV, SL, T, Nat.reduceEqDiff, Nat.reduceAdd, Nat.reduceSub, Nat.reduceMul, Nat.reduceLeDiff, Nat.reduceLT, reduceIte, Bool.not_true, f7, f3]
                refine (hfin w10 (Ext.refl _)).mono ?_
                rintro _ w11 ⟨hE11, F', k1, k2, k3, k4⟩
                simp only [VS, VD, SV, SL, T, Nat.reduceEqDiff, Nat.reduceAdd, Nat.reduceSub, Nat.reduceMul, Nat.reduceLeDiff, Nat.reduceLT, reduceIte, f3, f7, f9, f52, f53, f54, stV]
                exact ⟨hE11, F', k1, k2, k3, k4⟩
              | false =>
                simp only [VS, VD, SV, SL, T, Nat.reduceEqDiff, Nat.reduceAdd, Nat.reduceSub, Nat.reduceMul, Nat.reduceLeDiff, Nat.reduceLT, reduceIte, Bool.not_false, f7, f3]
                refine ⟨by omega, ?_⟩
                refine (C.Probe_spec (hC9.ext hE10) (n * l) (by omega)).mono ?_
                rintro _ w11 ⟨rfl, hE11⟩
                rw [sound_hit hv hH hD hn0.1 hin]
                simp only [VS, VD, SV, SL, T, Nat.reduceEqDiff, Nat.reduceAdd, Nat.reduceSub, Nat.reduceMul, Nat.reduceLeDiff, Nat.reduceLT, reduceIte, f7, f3]
                refine (hfin w11 hE11).mono ?_
                rintro _ w12 ⟨hE12, F', k1, k2, k3, k4⟩
                simp only [VS, VD, SV, SL, T, Nat.reduceEqDiff, Nat.reduceAdd, Nat.reduceSub, Nat.reduceMul, Nat.reduceLeDiff, Nat.reduceLT, reduceIte, f3, f7, f9, f52, f53, f54, stV]
                exact ⟨hE12, F', k1, k2, k3, k4⟩
          · clear hTs hM hC hF hTs9 hM9 hC9 hEw9 hE9 f3 f7 f9 f52 f53 f54
            rintro g wx ⟨g3, g7, g9, g12, g52, g53, g54, hEx', F, hTs, hM, hC, hF⟩
            generalize accH s l H (lineM q.lo q.hi q.pick) = H' at *
            simp only [VS, VD, SV, SL, T, Nat.reduceEqDiff, Nat.reduceAdd, Nat.reduceSub, Nat.reduceMul, Nat.reduceLeDiff, Nat.reduceLT, reduceIte, g9, g12, stV]
            refine (VRet.hid (fun b hb => hC.lt b hb) (step_spec s y l hv M hbd _ q.lo q.hi q.pick (by omega) (by omega) _ hM)).mono ?_
            rintro v10 w10 ⟨w1h, ⟨hm10, hEh⟩, hper, _, hFget, hEE⟩
            have hE10 := hEE hEh
            have hM10 := hm10.per hper
            have hC10 := hC.ext hE10
            obtain ⟨u1, a1, n1, c1, rfl⟩ := hm10.form
            have hbd' := hbd.step (s := s) (lo := q.lo) (hi := q.hi) hp.2.2.1
            have hTs10 : StpsAt (hid F w10) (.slice (some ⟨b, off, none⟩) Q.length tc) Q := SlAt.per hTs (hid_ext (F := F) hE10)
            simp only [VS, VD, SV, SL, T, Nat.reduceEqDiff, Nat.reduceAdd, Nat.reduceSub, Nat.reduceMul, Nat.reduceLeDiff, Nat.reduceLT, reduceIte, g9, stV]
            refine DW_intro (fun _ _ v w' => IntssAt w' v (stS s y H')) ?_
            simp only [VS, VD, SV, SL, T, Nat.reduceEqDiff, Nat.reduceAdd, Nat.reduceSub, Nat.reduceMul, Nat.reduceLeDiff, Nat.reduceLT, reduceIte, g7, stV]
            refine rY_ph rfl rfl (fun _ _ _ h hE => IntssAt.ext h hE) (fun w' hE' _ => ?_) ?_
            · simp only [VS, VD, SV, SL, T, Nat.reduceEqDiff, Nat.reduceAdd, Nat.reduceSub, Nat.reduceMul, Nat.reduceLeDiff, Nat.reduceLT, reduceIte]
              refine (C.Lines_spec (hC10.ext hE')).mono ?_
              rintro v12 w13 ⟨hL13, hE13⟩
              exact ⟨hE13, hL13⟩
            rintro v12 _
            simp only [VS, VD, SV, SL, T, Nat.reduceEqDiff, Nat.reduceAdd, Nat.reduceSub, Nat.reduceMul, Nat.reduceLeDiff, Nat.reduceLT, reduceIte, stV]
            intro w11 hE11 hF11
            have hL11 : IntssAt w11 v12 (stS s y H') := FA_head hF11
            simp only [VS, VD, SV, SL, T, Nat.reduceEqDiff, Nat.reduceAdd, Nat.reduceSub, Nat.reduceMul, Nat.reduceLeDiff, Nat.reduceLT, reduceIte]
            refine (Describes_spec s y l hv _ _ _ (stS s y H') ?_ w11 ((hM10.per (hid_per F w10)).ext hE11) hL11).mono ?_
            · rw [C.stS_len]
              refine ⟨by omega, fun li hli => ?_⟩
              obtain ⟨j, hj, e⟩ := List.getElem_of_mem hli
              have := (C.stS_some (show (stS s y H')[j]? = some li by rw [List.getElem?_eq_getElem hj, e])).2
              rw [this]
              have : ((dst (H' j)).take y.toNat).length ≤ y.toNat := List.length_take_le ..
              omega
            rintro _ w12 ⟨⟨r, rfl, hr⟩, hE12⟩
            obtain rfl : r = true := hr.2 hD'
            simp only [VS, VD, SV, SL, T, Nat.reduceEqDiff, Nat.reduceAdd, Nat.reduceSub, Nat.reduceMul, Nat.reduceLeDiff, Nat.reduceLT, reduceIte, Bool.not_true, g54]
            have hE1112 := hE11.trans hE12
            exact ⟨by omega, i + 1, ⟨g3, g7, g52, g53, by simp, by omega, (hEx'.trans hE10).trans hE1112, _, F, H', SlAt.per hTs10 (hid_ext (F := F) hE1112), hM10.per (hid_ext (F := F) hE1112), hbd', hC10.ext hE1112, hF, hH', hD'⟩, by omega⟩
        · simp only [VS, VD, SV, SL, T, Nat.reduceEqDiff, Nat.reduceAdd, Nat.reduceSub, Nat.reduceMul, Nat.reduceLeDiff, Nat.reduceLT, reduceIte]
          exact hΨ _ _ ⟨rfl, hEx⟩
end Go.Proofs.Ytndkadphpbnpeaa
