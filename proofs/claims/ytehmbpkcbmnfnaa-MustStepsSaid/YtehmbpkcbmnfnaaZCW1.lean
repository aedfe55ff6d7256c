/-
  The reference for must: Find, Describes; lists of bounds.
-/
import Derived.Test.YtehmbpkcbmnfnaaZCV3
set_option linter.unusedSimpArgs false
set_option linter.unusedVariables false
namespace Go.Proofs.Ytehmbpkcbmnfnaa
open Go.W Go.RowKit
def lnR (p : Int × Int) : List Value := [.int .i64 p.1, .int .i64 p.2]
abbrev LnAt (w : World) (v : Value) (L : List (Int × Int)) : Prop := SlAt w v 2 (L.map lnR)
theorem lnAt_form {w : World} {v : Value} {L : List (Int × Int)} (h : LnAt w v L) : ∃ a c, v = .slice a L.length c := by
  obtain ⟨a, c, h⟩ := SlAt.form h; exact ⟨a, c, by rw [h]; simp⟩
theorem lnAt_get {w : World} {L : List (Int × Int)} {a : Option Addr} {n c : Nat} (h : LnAt w (.slice a n c) L) {i : Nat} (hi : i < L.length) :
    ∃ b off cs e fz, a = some ⟨b, off, none⟩ ∧ w.heap[b]? = some (.cells cs e fz) ∧ off + (i * 2 + 2) ≤ cs.size ∧ cs.extract (off + i * 2) (off + (i * 2 + 2)) = #[.int .i64 L[i].1, .int .i64 L[i].2] ∧
      cs[off + i * 2]? = some (.int .i64 L[i].1) ∧ cs[off + (i * 2 + 1)]? = some (.int .i64 L[i].2) := by
  obtain ⟨b, off, cs, e, fz, h1, _, h3, h4, h5⟩ := SlAt.get h (i := i) (r := lnR L[i]) (by simp [hi])
  refine ⟨b, off, cs, e, fz, h1, h3, h4, h5, ?_, ?_⟩
  · have := congrArg (fun a : Array Value => a[0]?) h5
    simp only [Array.getElem?_extract, lnR] at this
    rw [if_pos (by omega)] at this
    simpa using this
  · have := congrArg (fun a : Array Value => a[1]?) h5
    simp only [Array.getElem?_extract, lnR] at this
    rw [if_pos (by omega)] at this
    simpa [Nat.add_assoc] using this
set_option maxRecDepth 10000 in
theorem rFind_spec (L : List (Int × Int)) (hL : L.length ≤ 1000000) (v : Value) (k : Int) (w : World) (h : LnAt w v L) :
    VRet Try.prog 19 #[v, .int .i64 k] w fun v w' => v = .int .i64 (rFind L k) ∧ Ext w w' := by
  obtain ⟨a, c, rfl⟩ := lnAt_form h
  refine VRet_start T.mo ok19 rfl fun Ψ hΨ => ?_; simp only [vc19, rs19]
  simp only [VS, VD, SV, SL, T, Nat.reduceEqDiff, Nat.reduceAdd, Nat.reduceSub, Nat.reduceMul, Nat.reduceLeDiff, Nat.reduceLT, reduceIte]
  refine LoopP_intro (α := Nat) (fun i f' w' => f' 0 = .slice a L.length c ∧ f' 1 = .int .i64 k ∧ f' 5 = .int .i64 i ∧ i ≤ L.length ∧ Ext w w' ∧
    (L.take i).find? (·.1 == k) = none) (fun i => L.length - i) 0 ?_ ?_
  · simp only [VS, VD, SV, SL, T, Nat.reduceEqDiff, Nat.reduceAdd, Nat.reduceSub, Nat.reduceMul, Nat.reduceLeDiff, Nat.reduceLT, reduceIte]
    exact ⟨rfl, by omega, Ext.refl w, rfl⟩
  · rintro i f' w' ⟨f0, f1, f5, hile, hEx, hnone⟩
    simp only [VS, VD, SV, SL, T, Nat.reduceEqDiff, Nat.reduceAdd, Nat.reduceSub, Nat.reduceMul, Nat.reduceLeDiff, Nat.reduceLT, reduceIte, f5, f0]
    refine cnd_d (fun hlt => ?_) (fun hlt => ?_)
    · have hi : i < L.length := by omega
      obtain ⟨b, off, cs, e, fz, rfl, hb, hle, hext, hc0, hc1⟩ := lnAt_get (h.ext hEx) hi
      simp only [VS, VD, SV, SL, T, Nat.reduceEqDiff, Nat.reduceAdd, Nat.reduceSub, Nat.reduceMul, Nat.reduceLeDiff, Nat.reduceLT, reduceIte, f5, f0, f1, hb, Int.toNat_natCast, hc0]
      refine ⟨by omega, cnd_d (fun hq => ?_) (fun hq => ?_)⟩
      · simp only [VS, VD, SV, SL, T, Nat.reduceEqDiff, Nat.reduceAdd, Nat.reduceSub, Nat.reduceMul, Nat.reduceLeDiff, Nat.reduceLT, reduceIte, f5, f0, hb, Int.toNat_natCast, hc1]
        refine ⟨by omega, hΨ _ _ ⟨?_, hEx⟩⟩
        have : L.find? (·.1 == k) = some L[i] := by
          rw [show L.find? (·.1 == k) = (L.take i ++ L.drop i).find? (·.1 == k) by rw [List.take_append_drop], List.find?_append, hnone, Option.none_or, List.drop_eq_getElem_cons hi, List.find?_cons]
          have e2 : (L[i].1 == k) = true := by simp [hq]
          rw [e2]
        simp [rFind, this]
      · simp only [VS, VD, SV, SL, T, Nat.reduceEqDiff, Nat.reduceAdd, Nat.reduceSub, Nat.reduceMul, Nat.reduceLeDiff, Nat.reduceLT, reduceIte, f5]
        refine ⟨by omega, i + 1, ⟨f0, f1, by simp, by omega, hEx, ?_⟩, by omega⟩
        rw [List.take_succ_eq_append_getElem hi, List.find?_append, hnone]
        simp [hq]
    · simp only [VS, VD, SV, SL, T, Nat.reduceEqDiff, Nat.reduceAdd, Nat.reduceSub, Nat.reduceMul, Nat.reduceLeDiff, Nat.reduceLT, reduceIte]
      refine hΨ _ _ ⟨?_, hEx⟩
      have : L.find? (·.1 == k) = none := by rw [List.take_of_length_le (by omega)] at hnone; exact hnone
      simp [rFind, this]
abbrev LnO (base : Nat) (w : World) (v : Value) (L : List (Int × Int)) : Prop := OwnL lnR base 55 2 w v L
set_option maxRecDepth 10000 in
theorem app_line {w : World} {κ : Value → World → Prop} {base : Nat} {v : Value} {L : List (Int × Int)} (hown : LnO base w v L) (hn : L.length + 1 ≤ 1000000) (hb : base ≤ w.heap.size) (a b : Int)
    (h : ∀ v' w', LnO base w' v' (L ++ [(a, b)]) → (∀ w0, Ext w0 w → w0.heap.size ≤ base → Ext w0 w') → κ v' w') :
    RunV Try.prog (w.alloc (.cells #[.int .i64 a, .int .i64 b] 55 (0, 0))) κ (Builtin.append_ #[34, 34] 34 #[v, .slice (some ⟨w.heap.size, 0, none⟩) 1 1]) :=
  OwnL.app1 T.el34 T.sz55 T.by55 T.zr55 rfl (by omega) hown (a, b) rfl rfl hn (by omega) hb fun v' w' h1 h2 _ => h v' w' h1 h2
/-- one line's test of the reference's Describes -/
def rOk (li : List Int) (k a : Int) : Prop := ∃ j : Nat, (j : Int) ≤ a ∧ li[j]? = some k
def rDes (s : Int) (L : List (Int × Int)) (ll : List (List Int)) : Prop := (ll.length : Int) = s ∧ ∀ x ∈ L, rOk (ll.getD (x.1 % s).toNat []) x.1 x.2
set_option maxHeartbeats 1000000 in
set_option maxRecDepth 10000 in
theorem rDescribes_spec (s y l : Int) (hs : 1 ≤ s) (L : List (Int × Int)) (hL : L.length ≤ 1000000) (hpos : ∀ x ∈ L, 0 ≤ x.1) (v : Value) (lv : Value) (ll : List (List Int)) (hll : ∀ l ∈ ll, l.length ≤ 9223372036854775807) (w : World) (h : LnAt w v L) (hlv : IntssAt w lv ll) :
    VRet Try.prog 28 #[cfgV s y l, v, lv] w fun v w' => (∃ r : Bool, v = .bool r ∧ (r = true ↔ rDes s L ll)) ∧ Ext w w' := by
  obtain ⟨a, c, rfl⟩ := lnAt_form h
  obtain ⟨al, cl, rfl⟩ := hlv.form
  refine VRet_start T.mo ok28 rfl fun Ψ hΨ => ?_; simp only [vc28, rs28]
  simp only [VS, VD, SV, SL, T, Nat.reduceEqDiff, Nat.reduceAdd, Nat.reduceSub, Nat.reduceMul, Nat.reduceLeDiff, Nat.reduceLT, reduceIte, cfgV]
  have hE := (Ext.refl w).alloc tomb
  refine cnd_d (fun hq => ?_) (fun hq => ?_)
  · simp only [VS, VD, SV, SL, T, Nat.reduceEqDiff, Nat.reduceAdd, Nat.reduceSub, Nat.reduceMul, Nat.reduceLeDiff, Nat.reduceLT, reduceIte]
    exact hΨ _ _ ⟨⟨false, rfl, fun h => (by cases h), fun h => (hq h.1).elim⟩, hE⟩
  have hlen : (ll.length : Int) = s := Classical.not_not.1 hq
  simp only [VS, VD, SV, SL, T, Nat.reduceEqDiff, Nat.reduceAdd, Nat.reduceSub, Nat.reduceMul, Nat.reduceLeDiff, Nat.reduceLT, reduceIte]
  refine LoopP_intro (α := Nat) (fun i f' w' => f' 1 = .slice a L.length c ∧ f' 2 = .slice al ll.length cl ∧ f' 3 = .agg #[.int .i64 s, .int .i64 y, .int .i64 l] ∧ f' 7 = .int .i64 i ∧ i ≤ L.length ∧ Ext w w' ∧
    ∀ (j : Nat) x, j < i → L[j]? = some x → rOk (ll.getD (x.1 % s).toNat []) x.1 x.2) (fun i => L.length - i) 0 ?_ ?_
  · simp only [VS, VD, SV, SL, T, Nat.reduceEqDiff, Nat.reduceAdd, Nat.reduceSub, Nat.reduceMul, Nat.reduceLeDiff, Nat.reduceLT, reduceIte]
    exact ⟨rfl, by omega, hE, by simp⟩
  · rintro i f' w' ⟨f1, f2, f3, f7, hile, hEx, hok⟩
    simp only [VS, VD, SV, SL, T, Nat.reduceEqDiff, Nat.reduceAdd, Nat.reduceSub, Nat.reduceMul, Nat.reduceLeDiff, Nat.reduceLT, reduceIte, f7, f1]
    refine cnd_d (fun hlt => ?_) (fun hlt => ?_)
    · have hi : i < L.length := by omega
      obtain ⟨b, off, cs, e, fz, rfl, hb, hle, hext, hc0, hc1⟩ := lnAt_get (h.ext hEx) hi
      have hx0 := hpos _ (List.getElem_mem hi)
      have hm0 := Int.emod_nonneg L[i].1 (show s ≠ 0 by omega)
      have hm1 := Int.emod_lt_of_pos L[i].1 (show 0 < s by omega)
      obtain ⟨n, hn⟩ := Int.eq_ofNat_of_zero_le hm0
      have hnl : n < ll.length := by omega
      have hfin : ∀ x, L[i]? = some x → x = L[i] := fun x hx => by rw [List.getElem?_eq_getElem hi] at hx; simp only [Option.some.injEq] at hx; exact hx.symm
      have hmem := List.getElem_mem hi
      obtain ⟨b5, off5, cs5, e5, fz5, u5, rfl, _, hb5, hc5, hu5⟩ := (hlv.ext hEx).get (i := n) (l := ll[n]) (by simp [hnl])
      have hll' := hll _ (List.getElem_mem hnl)
      obtain ⟨au, cu, rfl⟩ := hu5.form
      have htm : L[i].1.tmod s = n := by rw [Int.tmod_eq_emod_of_nonneg hx0]; exact hn
      generalize hX : L[i] = X at *
      simp only [VS, VD, SV, SL, T, Nat.reduceEqDiff, Nat.reduceAdd, Nat.reduceSub, Nat.reduceMul, Nat.reduceLeDiff, Nat.reduceLT, reduceIte, f7, f1, f3, f2]
      refine DW_intro (fun _ _ _ _ => True) ?_
      simp only [VS, VD, SV, SL, T, Nat.reduceEqDiff, Nat.reduceAdd, Nat.reduceSub, Nat.reduceMul, Nat.reduceLeDiff, Nat.reduceLT, reduceIte, f7, f1, f3, f2, hb, Int.toNat_natCast, hc0]
      refine ⟨by omega, by omega, ?_⟩
      intro w1 hE1 _
      have hb51 := hE1.obj hb5
      simp only [VS, VD, SV, SL, T, Nat.reduceEqDiff, Nat.reduceAdd, Nat.reduceSub, Nat.reduceMul, Nat.reduceLeDiff, Nat.reduceLT, reduceIte, hn, hb51, Int.toNat_natCast, hc5]
      refine ⟨by omega, ?_⟩
      have hb1 := hE1.obj hb
      replace hEx := hEx.trans hE1
      have hu1 := hu5.ext hE1
      have hgd : ll.getD (X.1 % s).toNat [] = ll[n] := by rw [hn, Int.toNat_natCast, List.getD_eq_getElem?_getD, List.getElem?_eq_getElem hnl]; rfl
      generalize hli : ll[n] = li at *
      refine loop_cB (fun g w2 => g 1 = .slice (some ⟨b, off, none⟩) L.length c ∧ g 2 = .slice (some ⟨b5, off5, none⟩) ll.length cl ∧ g 3 = .agg #[.int .i64 s, .int .i64 y, .int .i64 l] ∧ g 7 = .int .i64 i ∧ (∃ fd : Bool, g 9 = .bool fd ∧ (fd = true ↔ rOk li X.1 X.2)) ∧ Ext w1 w2) ?_ ?_
      · refine LoopP_intro (α := Nat) (fun j g w2 => g 1 = .slice (some ⟨b, off, none⟩) L.length c ∧ g 2 = .slice (some ⟨b5, off5, none⟩) ll.length cl ∧ g 3 = .agg #[.int .i64 s, .int .i64 y, .int .i64 l] ∧ g 7 = .int .i64 i ∧ g 8 = .slice au li.length cu ∧ g 10 = .int .i64 j ∧ j ≤ li.length ∧ (∃ fd : Bool, g 9 = .bool fd ∧ (fd = true ↔ ∃ q : Nat, q < j ∧ li[q]? = some X.1)) ∧ (∀ q : Nat, q < j → (q : Int) ≤ X.2) ∧ Ext w1 w2) (fun j => li.length - j) 0 ?_ ?_
        · simp only [VS, VD, SV, SL, T, Nat.reduceEqDiff, Nat.reduceAdd, Nat.reduceSub, Nat.reduceMul, Nat.reduceLeDiff, Nat.reduceLT, reduceIte, f1, f2, f3, f7]
          exact ⟨rfl, Nat.zero_le _, ⟨false, rfl, fun h => (by cases h), fun ⟨q, h1, _⟩ => by omega⟩, fun q h => by omega, Ext.refl _⟩
        · clear f1 f2 f3 f7
          rintro j g w2 ⟨f1, f2, f3, f7, f8, f10, hj, ⟨fd, f9, hfd⟩, hall, hE2⟩
          have hb2 := hE2.obj hb1
          simp only [VS, VD, SV, SL, T, Nat.reduceEqDiff, Nat.reduceAdd, Nat.reduceSub, Nat.reduceMul, Nat.reduceLeDiff, Nat.reduceLT, reduceIte, f10, f8]
          by_cases hjl : (j : Int) < li.length
          · rw [decide_eq_true hjl]
            simp only [VS, VD, SV, SL, T, Nat.reduceEqDiff, Nat.reduceAdd, Nat.reduceSub, Nat.reduceMul, Nat.reduceLeDiff, Nat.reduceLT, reduceIte, f10, f1, f7, hb2, Int.toNat_natCast, hc1]
            refine ⟨by omega, ?_⟩
            refine cnd_d (fun hle' => ?_) (fun hle' => ?_)
            · have hj' : j < li.length := by omega
              obtain ⟨b7, off7, cs7, e7, fz7, rfl, _, hb7, hc7⟩ := (hu1.ext hE2).get (i := j) (x := li[j]) (by simp [hj'])
              simp only [VS, VD, SV, SL, T, Nat.reduceEqDiff, Nat.reduceAdd, Nat.reduceSub, Nat.reduceMul, Nat.reduceLeDiff, Nat.reduceLT, reduceIte, f8, f10, f1, f7]
              refine DW_intro (fun _ _ _ _ => True) ?_
              simp only [VS, VD, SV, SL, T, Nat.reduceEqDiff, Nat.reduceAdd, Nat.reduceSub, Nat.reduceMul, Nat.reduceLeDiff, Nat.reduceLT, reduceIte, f8, f10, f1, f7, hb7, hb2, Int.toNat_natCast, hc7, hc0]
              refine ⟨by omega, by omega, ?_⟩
              intro w3 hE3 _
              simp only [VS, VD, SV, SL, T, Nat.reduceEqDiff, Nat.reduceAdd, Nat.reduceSub, Nat.reduceMul, Nat.reduceLeDiff, Nat.reduceLT, reduceIte]
              have hall' : ∀ q : Nat, q < j + 1 → (q : Int) ≤ X.2 := by
                intro q hq
                by_cases hqj : q < j
                · exact hall q hqj
                · have : q = j := by omega
                  subst this; exact hle'
              refine cnd_d (fun he => ?_) (fun he => ?_)
              · simp only [VS, VD, SV, SL, T, Nat.reduceEqDiff, Nat.reduceAdd, Nat.reduceSub, Nat.reduceMul, Nat.reduceLeDiff, Nat.reduceLT, reduceIte, f10]
                exact ⟨by omega, j + 1, ⟨f1, f2, f3, f7, f8, by simp, by omega, ⟨true, rfl, fun _ => ⟨j, by omega, by rw [List.getElem?_eq_getElem hj', he]⟩, fun _ => rfl⟩, hall', hE2.trans hE3⟩, by omega⟩
              · simp only [VS, VD, SV, SL, T, Nat.reduceEqDiff, Nat.reduceAdd, Nat.reduceSub, Nat.reduceMul, Nat.reduceLeDiff, Nat.reduceLT, reduceIte, f10]
                refine ⟨by omega, j + 1, ⟨f1, f2, f3, f7, f8, by simp, by omega, ⟨fd, f9, fun h => ?_, fun h => ?_⟩, hall', hE2.trans hE3⟩, by omega⟩
                · obtain ⟨q, h1, h2⟩ := hfd.1 h; exact ⟨q, by omega, h2⟩
                · obtain ⟨q, h1, h2⟩ := h
                  by_cases hqj : q = j
                  · subst hqj; rw [List.getElem?_eq_getElem hj'] at h2; simp only [Option.some.injEq] at h2; exact (he h2).elim
                  · exact hfd.2 ⟨q, by omega, h2⟩
            · simp only [VS, VD, SV, SL, T, Nat.reduceEqDiff, Nat.reduceAdd, Nat.reduceSub, Nat.reduceMul, Nat.reduceLeDiff, Nat.reduceLT, reduceIte]
              refine ⟨f1, f2, f3, f7, ⟨fd, f9, fun h => ?_, fun h => ?_⟩, hE2⟩
              · obtain ⟨q, h1, h2⟩ := hfd.1 h; exact ⟨q, hall q h1, h2⟩
              · obtain ⟨q, h1, h2⟩ := h; exact hfd.2 ⟨q, by omega, h2⟩
          · rw [decide_eq_false hjl]
            simp only [VS, VD, SV, SL, T, Nat.reduceEqDiff, Nat.reduceAdd, Nat.reduceSub, Nat.reduceMul, Nat.reduceLeDiff, Nat.reduceLT, reduceIte]
            refine ⟨f1, f2, f3, f7, ⟨fd, f9, fun h => ?_, fun h => ?_⟩, hE2⟩
            · obtain ⟨q, h1, h2⟩ := hfd.1 h; exact ⟨q, hall q h1, h2⟩
            · obtain ⟨q, h1, h2⟩ := h; exact hfd.2 ⟨q, by have := (List.getElem?_eq_some_iff.1 h2).1; omega, h2⟩
      clear f1 f2 f3 f7
      rintro g w2 ⟨f1, f2, f3, f7, ⟨fd, f9, hfd⟩, hE2⟩
      cases fd with
      | false =>
        simp only [VS, VD, SV, SL, T, Nat.reduceEqDiff, Nat.reduceAdd, Nat.reduceSub, Nat.reduceMul, Nat.reduceLeDiff, Nat.reduceLT, reduceIte, f9]
        refine hΨ _ _ ⟨⟨false, rfl, fun h => (by cases h), fun h => ?_⟩, hEx.trans hE2⟩
        have := h.2 X hmem
        rw [hgd] at this
        exact hfd.2 this
      | true =>
        simp only [VS, VD, SV, SL, T, Nat.reduceEqDiff, Nat.reduceAdd, Nat.reduceSub, Nat.reduceMul, Nat.reduceLeDiff, Nat.reduceLT, reduceIte, f9, f7]
        refine ⟨by omega, i + 1, ⟨f1, f2, f3, by simp, by omega, hEx.trans hE2, fun j x hj hx => ?_⟩, by omega⟩
        by_cases hji : j < i
        · exact hok j x hji hx
        · obtain rfl : j = i := by omega
          obtain rfl := hfin x hx
          rw [hgd]
          exact hfd.1 rfl
    · simp only [VS, VD, SV, SL, T, Nat.reduceEqDiff, Nat.reduceAdd, Nat.reduceSub, Nat.reduceMul, Nat.reduceLeDiff, Nat.reduceLT, reduceIte]
      refine hΨ _ _ ⟨⟨true, rfl, fun _ => ⟨hlen, fun x hx => ?_⟩, fun _ => rfl⟩, hEx⟩
      obtain ⟨j, hj, rfl⟩ := List.getElem_of_mem hx
      exact hok j _ (by omega) (List.getElem?_eq_getElem hj)
end Go.Proofs.Ytehmbpkcbmnfnaa
