/-
  MustExact.
-/
import Derived.Test.YtehmbpkcbmnfnaaZCV5
set_option linter.unusedSimpArgs false
set_option linter.unusedVariables false
namespace Go.Proofs.Ytehmbpkcbmnfnaa
open Go.W Go.RowKit
open C (dst stS addH hitS ptr CacheAt Mv mem_dst set_lt stS_get)
theorem Exa.age {s y : Int} {m : Bnd} {H : Nat → List Int} (h : Exa s y m H) (hH : Hok s H) {i j : Nat} {k : Int} (hi : i < s.toNat) (hk : ((dst (H i)).take y.toNat)[j]? = some k) : ageU m k = ((j : Int), true) := by
  have hj : j < y.toNat := by have := (List.getElem?_eq_some_iff.1 hk).1; simp only [List.length_take] at this; omega
  rw [List.getElem?_take_of_lt hj] at hk
  have h1 := h.fw i hi j k hj hk
  have h2 := (hH i k (mem_dst.1 (List.mem_of_getElem? hk))).1
  unfold ageU
  rw [if_neg (by omega), h1]
/-- all lines of the cache -/
theorem Exa.keys {s y l : Int} (hg : Geo s y l = true) {m : Bnd} {H : Nat → List Int} (h : Exa s y m H) (hH : Hok s H) : ∃ Ks, KeysOf m Ks ∧ Ks.length = (stS s y H).flatten.length := by
  have hp := Geo_spec hg
  have hmemf : ∀ k, k ∈ (stS s y H).flatten ↔ m k ≠ none := by
    intro k
    rw [List.mem_flatten]
    constructor
    · rintro ⟨li, hli, hk⟩
      obtain ⟨i, hi, e⟩ := List.getElem_of_mem hli
      obtain ⟨hi', rfl⟩ := C.stS_some (show (stS s y H)[i]? = some li by rw [List.getElem?_eq_getElem hi, e])
      obtain ⟨j, hj, e2⟩ := List.getElem_of_mem hk
      have hk' : ((dst (H i)).take y.toNat)[j]? = some k := by rw [List.getElem?_eq_getElem hj, e2]
      have hjy : j < y.toNat := by simp only [List.length_take] at hj; omega
      rw [List.getElem?_take_of_lt hjy] at hk'
      rw [h.fw i hi' j k hjy hk']
      simp
    · intro hne
      obtain ⟨b, hb⟩ := Option.ne_none_iff_exists'.1 hne
      obtain ⟨hk0, j, rfl, hj, hk⟩ := h.bw k b hb
      have hlt : (k % s).toNat < s.toNat := set_lt (y := y) (l := l) hg
      refine ⟨(dst (H (k % s).toNat)).take y.toNat, List.mem_of_getElem? (stS_get hlt), ?_⟩
      exact List.mem_of_getElem? (i := j) (by rw [List.getElem?_take_of_lt hj]; exact hk)
  have hnd : (stS s y H).flatten.Nodup := by
    rw [List.Nodup, List.pairwise_flatten]
    refine ⟨fun li hli => ?_, ?_⟩
    · obtain ⟨i, hi, e⟩ := List.getElem_of_mem hli
      obtain ⟨hi', rfl⟩ := C.stS_some (show (stS s y H)[i]? = some li by rw [List.getElem?_eq_getElem hi, e])
      exact C.nodup_take _ _
    · rw [List.pairwise_iff_getElem]
      intro i j hi hj hij a ha b hb e
      subst e
      have q1 := C.stS_some (List.getElem?_eq_getElem hi)
      have q2 := C.stS_some (List.getElem?_eq_getElem hj)
      rw [q1.2] at ha
      rw [q2.2] at hb
      have h1 := (hH i a (mem_dst.1 (List.mem_of_mem_take ha))).2
      have h2 := (hH j a (mem_dst.1 (List.mem_of_mem_take hb))).2
      omega
  have hperm := List.mergeSort_perm (stS s y H).flatten (fun x y => decide (x ≤ y))
  have hsrt : ((stS s y H).flatten.mergeSort fun x y => decide (x ≤ y)).Pairwise (fun x y => decide (x ≤ y) = true) := List.pairwise_mergeSort (by intro a b c; simp; omega) (by intro a b; simp; omega) _
  refine ⟨(stS s y H).flatten.mergeSort fun x y => decide (x ≤ y), ⟨?_, fun k => ?_, fun k hk => ?_, ?_⟩, List.length_mergeSort _⟩
  · have hn2 := hperm.nodup_iff.2 hnd
    exact (hsrt.and hn2).imp (by rintro a b ⟨h1, h2⟩; simp only [decide_eq_true_eq] at h1; omega)
  · rw [← hmemf, hperm.mem_iff]
  · rw [hperm.mem_iff, hmemf] at hk
    obtain ⟨b, hb⟩ := Option.ne_none_iff_exists'.1 hk
    exact (h.bw k b hb).1
  · rw [List.length_mergeSort]
    have : ∀ (L : List (List Int)), (∀ li ∈ L, li.length ≤ 8) → L.flatten.length ≤ 8 * L.length := by
      intro L
      induction L with
      | nil => intro _; simp
      | cons x L ih =>
        intro hL
        have h1 := hL x (by simp)
        have h2 := ih fun li hli => hL li (by simp [hli])
        simp only [List.flatten_cons, List.length_append, List.length_cons]
        omega
    have h1 := this (stS s y H) (fun li hli => by
      obtain ⟨i, hi, e⟩ := List.getElem_of_mem hli
      obtain ⟨hi', rfl⟩ := C.stS_some (show (stS s y H)[i]? = some li by rw [List.getElem?_eq_getElem hi, e])
      have : ((dst (H i)).take y.toNat).length ≤ y.toNat := List.length_take_le ..
      omega)
    rw [C.stS_len] at h1
    omega
/-- an element of a slice whose elements take one cell each -/
theorem sl_get1 {α : Type} {w : World} {a : Option Addr} {n c : Nat} {L : List α} {g : α → Value} (h : SlAt w (.slice a n c) 1 (L.map fun x => [g x])) {i : Nat} (hi : i < L.length) :
    ∃ b off cs e fz, a = some ⟨b, off, none⟩ ∧ w.heap[b]? = some (.cells cs e fz) ∧ cs[off + i]? = some (g L[i]) := by
  obtain ⟨b, off, cs, e, fz, h1, _, h3, h4, h5⟩ := h.get (i := i) (r := [g L[i]]) (by simp [hi])
  refine ⟨b, off, cs, e, fz, h1, h3, ?_⟩
  rw [Nat.mul_one] at h4 h5
  have := congrArg (fun (x : Array Value) => x[0]?) h5
  simp only [Array.getElem?_extract, List.getElem?_toArray, List.getElem?_cons_zero] at this
  rw [if_pos (by omega)] at this
  simpa using this
set_option maxHeartbeats 2000000 in
set_option maxRecDepth 100000 in
theorem MustExact_spec (s y l : Int) (lv : Value) (Q : List Int) (w : World) (h : SlAt w lv 1 (Q.map fun n => [.int .u8 n])) (hM : Q.length ≤ maxLen ∧ ∀ n ∈ Q, 0 ≤ n ∧ n ≤ 255) :
    VRet Try.prog 8 #[cfgV s y l, lv] w fun v w' => v = .bool true ∧ Ext w w' := by
  obtain ⟨la, lc, rfl⟩ := h.form
  rw [List.length_map] at h ⊢
  refine VRet_start T.mo ok8 rfl fun Ψ hΨ => ?_; simp only [vc8, rs8]
  simp only [VS, VD, SV, SL, T, Nat.reduceEqDiff, Nat.reduceAdd, Nat.reduceSub, Nat.reduceMul, Nat.reduceLeDiff, Nat.reduceLT, reduceIte, cfgV]
  refine (awake_spec _).mono ?_
  rintro _ w1 ⟨rfl, hE⟩
  replace hE := ((Ext.refl w).alloc tomb).trans hE
  simp only [VS, VD, SV, SL, T, Nat.reduceEqDiff, Nat.reduceAdd, Nat.reduceSub, Nat.reduceMul, Nat.reduceLeDiff, Nat.reduceLT, reduceIte]
  refine (C.New_spec s y l _).mono ?_
  have z0 : decide (¬ (0 : Int) = 0) = false := rfl
  have z1 : decide (¬ (1 : Int) = 0) = true := rfl
  rintro v4 w4 (⟨hv, rfl, hE4⟩ | ⟨hv, p, rfl, hC, hE4⟩)
  · simp only [VS, VD, SV, SL, T, Nat.reduceEqDiff, Nat.reduceAdd, Nat.reduceSub, Nat.reduceMul, Nat.reduceLeDiff, Nat.reduceLT, reduceIte]
    refine (New_bad s y l hv _).mono ?_
    rintro _ w5 ⟨rfl, hE5⟩
    simp only [VS, VD, SV, SL, T, Nat.reduceEqDiff, Nat.reduceAdd, Nat.reduceSub, Nat.reduceMul, Nat.reduceLeDiff, Nat.reduceLT, reduceIte, muV, z1]
    exact hΨ _ _ ⟨rfl, ((hE.trans hE4).trans hE5).alloc tomb⟩
  have hp := Geo_spec hv
  have hF4 : ∀ b, (w1.heap.size ≤ b ∧ b < w4.heap.size) → w.heap.size ≤ b := fun b hb => Nat.le_trans hE.size hb.1
  replace hE := hE.trans hE4
  simp only [VS, VD, SV, SL, T, Nat.reduceEqDiff, Nat.reduceAdd, Nat.reduceSub, Nat.reduceMul, Nat.reduceLeDiff, Nat.reduceLT, reduceIte]
  refine (VRet.hid (F := fun b => w1.heap.size ≤ b ∧ b < w4.heap.size) (fun b hb => hb.2) (New_spec s y l hv _)).mono ?_
  rintro _ w5 ⟨w1h, ⟨⟨st, rfl, hm⟩, hEh⟩, hper, _, _, hEE⟩
  have hE5 := hEE hEh
  replace hm := hm.per hper
  replace hE := hE.trans hE5
  obtain ⟨b0, o0, c0, rfl⟩ := hm.form
  simp only [VS, VD, SV, SL, T, Nat.reduceEqDiff, Nat.reduceAdd, Nat.reduceSub, Nat.reduceMul, Nat.reduceLeDiff, Nat.reduceLT, reduceIte, muV, z0]
  have hE6 := (Ext.refl w5).alloc tomb
  replace hE := hE.trans hE6
  replace hm := hm.per (hid_ext hE6)
  replace hC := hC.ext (hE5.trans hE6)
  generalize w5.alloc tomb = w6 at *
  rw [show List.replicate s.toNat [] = stS s y fun _ => [] from C.emp_stS s y] at hC
  refine cnd_d (fun hl => ?_) (fun hl => ?_)
  · simp only [VS, VD, SV, SL, T, Nat.reduceEqDiff, Nat.reduceAdd, Nat.reduceSub, Nat.reduceMul, Nat.reduceLeDiff, Nat.reduceLT, reduceIte]
    exact hΨ _ _ ⟨rfl, hE⟩
  simp only [VS, VD, SV, SL, T, Nat.reduceEqDiff, Nat.reduceAdd, Nat.reduceSub, Nat.reduceMul, Nat.reduceLeDiff, Nat.reduceLT, reduceIte]
  refine LoopP_intro (α := Nat) (fun i f' w' => f' 2 = .agg #[.int .i64 s, .int .i64 y, .int .i64 l] ∧ f' 5 = ptr p ∧ f' 9 = .int .i64 0 ∧ f' 41 = .slice la Q.length lc ∧ f' 42 = .int .i64 Q.length ∧ f' 43 = .int .i64 i ∧ i ≤ Q.length ∧ Ext w w' ∧
    ∃ m F H, MuK (hid F w') (f' 7) s y l m ∧ Bd y m ∧ CacheAt w' F p s y l (stS s y H) ∧ (∀ b, F b → w.heap.size ≤ b) ∧ Hok s H ∧ Exa s y m H) (fun i => Q.length - i) 0 ?_ ?_
  · simp only [VS, VD, SV, SL, T, Nat.reduceEqDiff, Nat.reduceAdd, Nat.reduceSub, Nat.reduceMul, Nat.reduceLeDiff, Nat.reduceLT, reduceIte, muV]
    exact ⟨rfl, Nat.zero_le _, hE, _, _, fun _ => [], hm, Bd_em y, hC, hF4, fun i k hk => by simp at hk, Exa_empty s y⟩
  clear hm hC
  rintro i f' wo ⟨f2, f5, f9, f41, f42, f43, hi, hEx, m, F, H, hm, hbd, hC, hF, hH, hX⟩
  obtain ⟨b9, o9, c9, f7⟩ := hm.form
  rw [f7] at hm
  simp only [VS, VD, SV, SL, T, Nat.reduceEqDiff, Nat.reduceAdd, Nat.reduceSub, Nat.reduceMul, Nat.reduceLeDiff, Nat.reduceLT, reduceIte, f43, f42]
  refine cnd_d (fun hlt => ?_) (fun hlt => ?_)
  · have hi' : i < Q.length := by omega
    obtain ⟨b, off, cs, e, fz, rfl, hb, hcs⟩ := sl_get1 (h.ext hEx) hi'
    have hn := hM.2 _ (List.getElem_mem hi')
    generalize Q[i] = n at *
    have hnl : 0 ≤ n * l ∧ n * l ≤ 1600000 := ⟨Int.mul_nonneg hn.1 (by omega), Int.mul_le_mul (show n ≤ 100000 by omega) (show l ≤ 16 by omega) (by omega) (by omega)⟩
    simp only [VS, VD, SV, SL, T, Nat.reduceEqDiff, Nat.reduceAdd, Nat.reduceSub, Nat.reduceMul, Nat.reduceLeDiff, Nat.reduceLT, reduceIte, f41, f43, Int.toNat_natCast, hb, hcs, f5, f2]
    refine ⟨by omega, by omega, by omega, ?_⟩
    refine (C.Access_mv hv hC (n * l) (by omega)).mono ?_
    rintro _ w7 ⟨rfl, F7, hC7, hm7⟩
    have hE7 := hm7.ext hEx hF
    have hF7 := hm7.above hEx.size hF
    have hM7 := hm.per (mv_hid hm7)
    simp only [VS, VD, SV, SL, T, Nat.reduceEqDiff, Nat.reduceAdd, Nat.reduceSub, Nat.reduceMul, Nat.reduceLeDiff, Nat.reduceLT, reduceIte, f7, muV]
    refine ⟨by omega, ?_⟩
    refine (VRet.hid (fun b hb => hC7.lt b hb) (Access_spec s y l hv m hbd _ n _ hM7)).mono ?_
    rintro v8 w8 ⟨w1h, ⟨hm8, hEh⟩, hper, _, _, hEE⟩
    have hE8 := hEE hEh
    have hM8 := hm8.per hper
    have e1 : accX s y m n = accU s y m n := by unfold accX; rw [if_neg (by omega)]
    rw [e1] at hM8
    obtain ⟨b1, o1, c1, rfl⟩ := hm8.form
    simp only [VS, VD, SV, SL, T, Nat.reduceEqDiff, Nat.reduceAdd, Nat.reduceSub, Nat.reduceMul, Nat.reduceLeDiff, Nat.reduceLT, reduceIte, f7, f43, muV]
    exact ⟨by omega, i + 1, ⟨f2, f5, f9, f41, f42, by simp, by omega, hE7.trans hE8, _, F7, _, hM8, hbd.acc hp.2.2.1 hn.1, hC7.ext hE8, hF7, hH.add (by omega) _, hX.acc hv hH hn.1⟩, by omega⟩
  · have hmo := hm.per (hid_per F wo)
    simp only [VS, VD, SV, SL, T, Nat.reduceEqDiff, Nat.reduceAdd, Nat.reduceSub, Nat.reduceMul, Nat.reduceLeDiff, Nat.reduceLT, reduceIte, f5]
    refine (C.Lines_spec hC).mono ?_
    rintro v4 w7 ⟨hL, hE7⟩
    obtain ⟨a4, c4, rfl⟩ := hL.form
    rw [C.stS_len]
    rw [C.stS_len] at hL
    have hm7 := hmo.ext hE7
    simp only [VS, VD, SV, SL, T, Nat.reduceEqDiff, Nat.reduceAdd, Nat.reduceSub, Nat.reduceMul, Nat.reduceLeDiff, Nat.reduceLT, reduceIte]
    refine LoopP_intro (α := Nat) (fun i g w' => g 7 = muV s y l (.slice (some ⟨b9, o9, none⟩) s.toNat c9) ∧ g 60 = .slice a4 s.toNat c4 ∧ g 61 = .int .i64 s.toNat ∧ g 62 = .int .i64 i ∧ i ≤ s.toNat ∧ g 9 = .int .i64 ((stS s y H).take i).flatten.length ∧ ((stS s y H).take i).flatten.length ≤ 8 * i ∧ Ext w7 w') (fun i => s.toNat - i) 0 ?_ ?_
    · simp only [VS, VD, SV, SL, T, Nat.reduceEqDiff, Nat.reduceAdd, Nat.reduceSub, Nat.reduceMul, Nat.reduceLeDiff, Nat.reduceLT, reduceIte, f7, f9, muV]
      exact ⟨rfl, Nat.zero_le _, by simp, by simp, Ext.refl _⟩
    · rintro i g wp ⟨g7, g60, g61, g62, hi, g9, hcnt, hE8⟩
      simp only [VS, VD, SV, SL, T, Nat.reduceEqDiff, Nat.reduceAdd, Nat.reduceSub, Nat.reduceMul, Nat.reduceLeDiff, Nat.reduceLT, reduceIte, g62, g61]
      refine cnd_d (fun hlt2 => ?_) (fun hlt2 => ?_)
      · have hi' : i < s.toNat := by omega
        obtain ⟨b5, off5, cs5, e5, fz5, u5, rfl, _, hb5, hc5, hu5⟩ := (hL.ext hE8).get (C.stS_get (H := H) (y := y) hi')
        obtain ⟨a6, c6, rfl⟩ := hu5.form
        have hDl : ((dst (H i)).take y.toNat).length ≤ 8 := by have : ((dst (H i)).take y.toNat).length ≤ y.toNat := List.length_take_le ..; omega
        have htk : (stS s y H).take (i + 1) = (stS s y H).take i ++ [(dst (H i)).take y.toNat] := by
          have hil : i < (stS s y H).length := by rw [C.stS_len]; exact hi'
          rw [List.take_succ_eq_append_getElem hil]
          have := C.stS_get (H := H) (y := y) hi'
          rw [List.getElem?_eq_getElem hil, Option.some.injEq] at this
          rw [this]
        generalize hD : (dst (H i)).take y.toNat = D at *
        simp only [VS, VD, SV, SL, T, Nat.reduceEqDiff, Nat.reduceAdd, Nat.reduceSub, Nat.reduceMul, Nat.reduceLeDiff, Nat.reduceLT, reduceIte, g62, g60, hb5, Int.toNat_natCast, hc5]
        refine ⟨by omega, ?_⟩
        refine LoopP_intro (α := Nat) (fun j g w' => g 7 = muV s y l (.slice (some ⟨b9, o9, none⟩) s.toNat c9) ∧ g 60 = .slice (some ⟨b5, off5, none⟩) s.toNat c4 ∧ g 61 = .int .i64 s.toNat ∧ g 62 = .int .i64 i ∧ g 66 = .slice a6 D.length c6 ∧ g 67 = .int .i64 D.length ∧ g 68 = .int .i64 j ∧ j ≤ D.length ∧ g 9 = .int .i64 (((stS s y H).take i).flatten.length + j) ∧ Ext wp w') (fun j => D.length - j) 0 ?_ ?_
        · simp only [VS, VD, SV, SL, T, Nat.reduceEqDiff, Nat.reduceAdd, Nat.reduceSub, Nat.reduceMul, Nat.reduceLeDiff, Nat.reduceLT, reduceIte, g7, g60, g61, g62, g9]
          exact ⟨rfl, Nat.zero_le _, by simp, Ext.refl _⟩
        · clear g7 g60 g61 g62 g9
          rintro j g wq ⟨g7, g60, g61, g62, g66, g67, g68, hj, g9, hE9⟩
          simp only [VS, VD, SV, SL, T, Nat.reduceEqDiff, Nat.reduceAdd, Nat.reduceSub, Nat.reduceMul, Nat.reduceLeDiff, Nat.reduceLT, reduceIte, g68, g67]
          refine cnd_d (fun hlt3 => ?_) (fun hlt3 => ?_)
          · have hj' : j < D.length := by omega
            obtain ⟨b7, off7, cs7, e7, fz7, rfl, _, hb7, hc7⟩ := (hu5.ext hE9).get (i := j) (x := D[j]) (by simp [hj'])
            have hage := hX.age hH hi' (j := j) (k := D[j]) (by rw [hD]; simp [hj'])
            simp only [VS, VD, SV, SL, T, Nat.reduceEqDiff, Nat.reduceAdd, Nat.reduceSub, Nat.reduceMul, Nat.reduceLeDiff, Nat.reduceLT, reduceIte, g68, g66, hb7, Int.toNat_natCast, hc7, g7, muV]
            refine ⟨by omega, ?_⟩
            refine (Age_spec s y l hv m _ D[j] wq (hm7.ext (hE8.trans hE9))).mono ?_
            rintro _ w10 ⟨rfl, hE10⟩
            rw [hage]
            simp only [VS, VD, SV, SL, T, Nat.reduceEqDiff, Nat.reduceAdd, Nat.reduceSub, Nat.reduceMul, Nat.reduceLeDiff, Nat.reduceLT, reduceIte, Bool.not_true, ne_eq, not_true_eq_false, decide_false, g68, g9]
            exact ⟨by omega, by omega, j + 1, ⟨by rw [g7]; rfl, g60, g61, g62, g66, g67, by simp, by omega, by simp only [Int.natCast_add, Int.add_assoc]; rfl, hE9.trans hE10⟩, by omega⟩
          · simp only [VS, VD, SV, SL, T, Nat.reduceEqDiff, Nat.reduceAdd, Nat.reduceSub, Nat.reduceMul, Nat.reduceLeDiff, Nat.reduceLT, reduceIte, g62]
            have hl2 : ((stS s y H).take (i + 1)).flatten.length = ((stS s y H).take i).flatten.length + D.length := by rw [htk]; simp
            refine ⟨by omega, i + 1, ⟨g7, g60, g61, by simp, by omega, ?_, by omega, hE8.trans hE9⟩, by omega⟩
            rw [g9, hl2, show j = D.length by omega]
            simp
      · rw [List.take_of_length_le (by rw [C.stS_len]; omega)] at g9
        obtain ⟨Ks, hKs, hKl⟩ := hX.keys hv hH
        simp only [VS, VD, SV, SL, T, Nat.reduceEqDiff, Nat.reduceAdd, Nat.reduceSub, Nat.reduceMul, Nat.reduceLeDiff, Nat.reduceLT, reduceIte, g7, muV]
        refine (Lines_spec s y l hv m Ks hKs _ wp (hm7.ext hE8)).mono ?_
        rintro _ w10 ⟨hE10, ho⟩
        obtain ⟨al, cl, rfl⟩ := ho.ints.form
        simp only [VS, VD, SV, SL, T, Nat.reduceEqDiff, Nat.reduceAdd, Nat.reduceSub, Nat.reduceMul, Nat.reduceLeDiff, Nat.reduceLT, reduceIte, g9]
        refine hΨ _ _ ⟨?_, ((hEx.trans hE7).trans hE8).trans hE10⟩
        rw [hKl, decide_eq_true rfl]
end Go.Proofs.Ytehmbpkcbmnfnaa
