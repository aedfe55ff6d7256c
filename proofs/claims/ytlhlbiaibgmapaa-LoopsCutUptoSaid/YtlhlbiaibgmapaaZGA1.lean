/-
  Graphs in memory; Equal, EqualFunc, Ints, Valid.
-/
import Derived.Test.YtlhlbiaibgmapaaZGA0
set_option linter.unusedSimpArgs false
set_option linter.unusedVariables false
namespace Go.Proofs.Ytlhlbiaibgmapaa
open Go.W Go.RowKit
/-! ### plain -/
/-- a block: From, To, Next -/
abbrev Blk := Int × Int × List Int
/-- row n gets k for each n in the list -/
def addP (PL : List (List Int)) (k : Int) : List Int → List (List Int)
  | [] => PL
  | n :: l => addP (PL.set n.toNat (PL.getD n.toNat [] ++ [k])) k l
/-- the predecessors after the blocks from number k on -/
def prevs (PL : List (List Int)) : Nat → List (List Int) → List (List Int)
  | _, [] => PL
  | k, l :: N => prevs (addP PL k l) (k + 1) N
def prevOf (N : List (List Int)) : List (List Int) := prevs (List.replicate N.length []) 0 N
def nx (B : List Blk) : List (List Int) := B.map (·.2.2)
/-- the blocks are in form, the first one beginning at least at e: the last one's end -/
def BOkE (n : Int) : Int → List Blk → Option Int
  | e, [] => some e
  | e, b :: B => if e ≤ b.1 ∧ b.1 < b.2.1 ∧ b.2.2.length ≤ 2 ∧ (∀ m ∈ b.2.2, 0 ≤ m ∧ m < n) ∧ (b.2.2.length = 2 → b.2.2[0]? ≠ b.2.2[1]?) then BOkE n b.2.1 B else none
def VG (B : List Blk) (PV : List (List Int)) : Bool := decide (B ≠ []) && (decide (PV.length = B.length) && ((BOkE B.length 0 B).isSome && decide (prevOf (nx B) = PV)))
/-! ### in memory -/
def BlksAt (w : World) (v : Value) (B : List Blk) : Prop :=
  ((∃ a c, v = .slice a 0 c) ∧ B = []) ∨ ∃ b off cap, v = .slice (some ⟨b, off, none⟩) B.length cap ∧ ∀ i x, B[i]? = some x → ∃ u, rd w ⟨b, off + i * 3, none⟩ 3 = some #[.int .i64 x.1, .int .i64 x.2.1, u] ∧ IntsAt w u x.2.2
theorem BlksAt.ext {w w' : World} {v : Value} {B : List Blk} (h : BlksAt w v B) (hE : Ext w w') : BlksAt w' v B := by
  rcases h with h | ⟨b, off, cap, h1, h2⟩
  · exact .inl h
  · exact .inr ⟨b, off, cap, h1, fun i x hx => let ⟨u, q1, q2⟩ := h2 i x hx; ⟨u, rd_ext hE q1, q2.ext hE⟩⟩
theorem BlksAt.form {w : World} {v : Value} {B : List Blk} (h : BlksAt w v B) : ∃ a c, v = .slice a B.length c := by
  rcases h with ⟨⟨a, c, h⟩, h'⟩ | ⟨b, off, cap, h1, h2⟩
  · exact ⟨a, c, by rw [h, h']; rfl⟩
  · exact ⟨_, _, h1⟩
theorem BlksAt.get {w : World} {B : List Blk} {a : Option Addr} {n c : Nat} (h : BlksAt w (.slice a n c) B) {i : Nat} (hi : i < B.length) :
    ∃ b off cs e fz u, a = some ⟨b, off, none⟩ ∧ w.heap[b]? = some (.cells cs e fz) ∧ off + (i * 3 + 3) ≤ cs.size ∧ cs.extract (off + i * 3) (off + (i * 3 + 3)) = #[.int .i64 B[i].1, .int .i64 B[i].2.1, u] ∧ cs[off + (i * 3 + 2)]? = some u ∧ IntsAt w u B[i].2.2 := by
  rcases h with ⟨h, h'⟩ | ⟨b, off, cap, h1, h2⟩
  · subst h'; simp at hi
  · simp only [Value.slice.injEq] at h1
    obtain ⟨rfl, rfl, rfl⟩ := h1
    obtain ⟨u, q1, q2⟩ := h2 i B[i] (by simp)
    obtain ⟨cs, e, fz, h3, h4, h5⟩ := rd_obj q1
    refine ⟨b, off, cs, e, fz, u, rfl, h3, by omega, by rw [← Nat.add_assoc]; exact h5, ?_, q2⟩
    have h6 := congrArg (fun a : Array Value => a[2]?) h5
    simp only [Array.getElem?_extract] at h6
    rw [if_pos (by omega)] at h6
    simpa [Nat.add_assoc] using h6
def GrAt (w : World) (v : Value) (B : List Blk) (PV : List (List Int)) : Prop := ∃ bs pv, v = .agg #[bs, pv] ∧ BlksAt w bs B ∧ IntssAt w pv PV
theorem GrAt.ext {w w' : World} {v : Value} {B : List Blk} {PV : List (List Int)} (h : GrAt w v B PV) (hE : Ext w w') : GrAt w' v B PV := by
  obtain ⟨bs, pv, h1, h2, h3⟩ := h
  exact ⟨bs, pv, h1, h2.ext hE, h3.ext hE⟩
theorem _root_.Go.W.IntssAt.form' {w : World} {v : Value} {ll : List (List Int)} (h : IntssAt w v ll) : ∃ a c, v = .slice a ll.length c := by
  rcases h with ⟨⟨a, c, h⟩, h'⟩ | ⟨b, off, cap, h1, h2⟩
  · exact ⟨a, c, by rw [h, h']; rfl⟩
  · exact ⟨_, _, h1⟩
theorem _root_.Go.W.IntssAt.get' {w : World} {ll : List (List Int)} {a : Option Addr} {n c : Nat} (h : IntssAt w (.slice a n c) ll) {i : Nat} (hi : i < ll.length) :
    ∃ b off cs e fz u, a = some ⟨b, off, none⟩ ∧ w.heap[b]? = some (.cells cs e fz) ∧ cs[off + i]? = some u ∧ IntsAt w u ll[i] := by
  rcases h with ⟨h, h'⟩ | ⟨b, off, cap, h1, h2⟩
  · subst h'; simp at hi
  · simp only [Value.slice.injEq] at h1
    obtain ⟨rfl, rfl, rfl⟩ := h1
    obtain ⟨u, hu, q⟩ := h2 i ll[i] (by simp)
    obtain ⟨cs, e, fz, h3, h4⟩ := cell_obj hu
    exact ⟨b, off, cs, e, fz, u, rfl, h3, h4, q⟩
set_option maxRecDepth 10000 in
theorem Equal_spec (u v : Value) (l m : List Int) (hl : l.length ≤ 100000000) (w : World) (hu : IntsAt w u l) (hv : IntsAt w v m) : VRet Try.prog 46 #[u, v] w fun v w' => v = .bool (decide (l = m)) ∧ Ext w w' := by
  obtain ⟨a, c, rfl⟩ := hu.form
  obtain ⟨a', c', rfl⟩ := hv.form
  refine VRet_start T.mo ok46 rfl fun Ψ hΨ => ?_; simp only [vc46, rs46]
  simp only [VS, VD, SV, SL, T, Nat.reduceEqDiff, Nat.reduceAdd, Nat.reduceSub, Nat.reduceMul, Nat.reduceLeDiff, Nat.reduceLT, reduceIte]
  refine cnd_d (fun hq => ?_) (fun hq => ?_)
  · simp only [VS, VD, SV, SL, T, Nat.reduceEqDiff, Nat.reduceAdd, Nat.reduceSub, Nat.reduceMul, Nat.reduceLeDiff, Nat.reduceLT, reduceIte]
    refine hΨ _ _ ⟨?_, Ext.refl _⟩
    rw [decide_eq_false]
    rintro rfl
    exact hq rfl
  · have hlm : l.length = m.length := by
      apply Classical.byContradiction
      intro hne
      apply hq
      omega
    simp only [VS, VD, SV, SL, T, Nat.reduceEqDiff, Nat.reduceAdd, Nat.reduceSub, Nat.reduceMul, Nat.reduceLeDiff, Nat.reduceLT, reduceIte]
    refine LoopP_intro (α := Nat) (fun i f' w' => f' 0 = .slice a l.length c ∧ f' 1 = .slice a' m.length c' ∧ f' 12 = .int .i64 l.length ∧ f' 13 = .int .i64 i ∧ i ≤ l.length ∧ Ext w w' ∧ l.take i = m.take i) (fun i => l.length - i) 0 ?_ ?_
    · simp only [VS, VD, SV, SL, T, Nat.reduceEqDiff, Nat.reduceAdd, Nat.reduceSub, Nat.reduceMul, Nat.reduceLeDiff, Nat.reduceLT, reduceIte]
      exact ⟨rfl, Nat.zero_le _, Ext.refl _, rfl⟩
    · rintro i f' w' ⟨f0, f1, f12, f13, hi, hE, htk⟩
      simp only [VS, VD, SV, SL, T, Nat.reduceEqDiff, Nat.reduceAdd, Nat.reduceSub, Nat.reduceMul, Nat.reduceLeDiff, Nat.reduceLT, reduceIte, f12, f13]
      refine cnd_d (fun hlt => ?_) (fun hlt => ?_)
      · have hi1 : i < l.length := by omega
        have hi2 : i < m.length := by omega
        obtain ⟨b, off, cs, e, fz, rfl, _, hb, hc⟩ := (hu.ext hE).get (i := i) (x := l[i]) (by simp [hi1])
        obtain ⟨b', off', cs', e', fz', rfl, _, hb', hc'⟩ := (hv.ext hE).get (i := i) (x := m[i]) (by simp [hi2])
        simp only [VS, VD, SV, SL, T, Nat.reduceEqDiff, Nat.reduceAdd, Nat.reduceSub, Nat.reduceMul, Nat.reduceLeDiff, Nat.reduceLT, reduceIte, f13, f0, f1]
        refine DW_intro (fun _ _ _ _ => True) ?_
        simp only [VS, VD, SV, SL, T, Nat.reduceEqDiff, Nat.reduceAdd, Nat.reduceSub, Nat.reduceMul, Nat.reduceLeDiff, Nat.reduceLT, reduceIte, f13, f0, f1, hb, hb', hc, hc', Int.toNat_natCast]
        refine ⟨by omega, by omega, ?_⟩
        intro w2 hE2 _
        simp only [VS, VD, SV, SL, T, Nat.reduceEqDiff, Nat.reduceAdd, Nat.reduceSub, Nat.reduceMul, Nat.reduceLeDiff, Nat.reduceLT, reduceIte]
        refine cnd_d (fun hq2 => ?_) (fun hq2 => ?_)
        · simp only [VS, VD, SV, SL, T, Nat.reduceEqDiff, Nat.reduceAdd, Nat.reduceSub, Nat.reduceMul, Nat.reduceLeDiff, Nat.reduceLT, reduceIte]
          refine hΨ _ _ ⟨?_, hE.trans hE2⟩
          rw [decide_eq_false]
          rintro rfl
          exact hq2 rfl
        · have hq3 : l[i] = m[i] := Classical.not_not.1 hq2
          simp only [VS, VD, SV, SL, T, Nat.reduceEqDiff, Nat.reduceAdd, Nat.reduceSub, Nat.reduceMul, Nat.reduceLeDiff, Nat.reduceLT, reduceIte, f13]
          refine ⟨by omega, i + 1, ⟨f0, f1, f12, by simp, by omega, hE.trans hE2, ?_⟩, by omega⟩
          rw [List.take_succ_eq_append_getElem hi1, List.take_succ_eq_append_getElem hi2, htk, hq3]
      · simp only [VS, VD, SV, SL, T, Nat.reduceEqDiff, Nat.reduceAdd, Nat.reduceSub, Nat.reduceMul, Nat.reduceLeDiff, Nat.reduceLT, reduceIte]
        refine hΨ _ _ ⟨?_, hE⟩
        rw [decide_eq_true]
        rw [List.take_of_length_le (by omega), List.take_of_length_le (by omega)] at htk
        exact htk
set_option maxRecDepth 10000 in
theorem Ints_spec (u v : Value) (l m : List Int) (hl : l.length ≤ 100000000) (w : World) (hu : IntsAt w u l) (hv : IntsAt w v m) : VRet Try.prog 16 #[u, v] w fun v w' => v = .bool (decide (l = m)) ∧ Ext w w' := by
  obtain ⟨a, c, rfl⟩ := hu.form
  obtain ⟨a', c', rfl⟩ := hv.form
  refine VRet_start T.mo ok16 rfl fun Ψ hΨ => ?_; simp only [vc16, rs16]
  simp only [VS, VD, SV, SL, T, Nat.reduceEqDiff, Nat.reduceAdd, Nat.reduceSub, Nat.reduceMul, Nat.reduceLeDiff, Nat.reduceLT, reduceIte]
  refine cnd_d (fun hq => ?_) (fun hq => ?_)
  · simp only [VS, VD, SV, SL, T, Nat.reduceEqDiff, Nat.reduceAdd, Nat.reduceSub, Nat.reduceMul, Nat.reduceLeDiff, Nat.reduceLT, reduceIte]
    refine hΨ _ _ ⟨?_, Ext.refl _⟩
    rw [decide_eq_false]
    rintro rfl
    exact hq rfl
  · have hlm : l.length = m.length := by
      apply Classical.byContradiction
      intro hne
      apply hq
      omega
    simp only [VS, VD, SV, SL, T, Nat.reduceEqDiff, Nat.reduceAdd, Nat.reduceSub, Nat.reduceMul, Nat.reduceLeDiff, Nat.reduceLT, reduceIte]
    refine LoopP_intro (α := Nat) (fun i f' w' => f' 0 = .slice a l.length c ∧ f' 1 = .slice a' m.length c' ∧ f' 5 = .int .i64 i ∧ i ≤ l.length ∧ Ext w w' ∧ l.take i = m.take i) (fun i => l.length - i) 0 ?_ ?_
    · simp only [VS, VD, SV, SL, T, Nat.reduceEqDiff, Nat.reduceAdd, Nat.reduceSub, Nat.reduceMul, Nat.reduceLeDiff, Nat.reduceLT, reduceIte]
      exact ⟨rfl, Nat.zero_le _, Ext.refl _, rfl⟩
    · rintro i f' w' ⟨f0, f1, f5, hi, hE, htk⟩
      simp only [VS, VD, SV, SL, T, Nat.reduceEqDiff, Nat.reduceAdd, Nat.reduceSub, Nat.reduceMul, Nat.reduceLeDiff, Nat.reduceLT, reduceIte, f5, f0]
      refine cnd_d (fun hlt => ?_) (fun hlt => ?_)
      · have hi1 : i < l.length := by omega
        have hi2 : i < m.length := by omega
        obtain ⟨b, off, cs, e, fz, rfl, _, hb, hc⟩ := (hu.ext hE).get (i := i) (x := l[i]) (by simp [hi1])
        obtain ⟨b', off', cs', e', fz', rfl, _, hb', hc'⟩ := (hv.ext hE).get (i := i) (x := m[i]) (by simp [hi2])
        simp only [VS, VD, SV, SL, T, Nat.reduceEqDiff, Nat.reduceAdd, Nat.reduceSub, Nat.reduceMul, Nat.reduceLeDiff, Nat.reduceLT, reduceIte, f5, f0, f1]
        refine DW_intro (fun _ _ _ _ => True) ?_
        simp only [VS, VD, SV, SL, T, Nat.reduceEqDiff, Nat.reduceAdd, Nat.reduceSub, Nat.reduceMul, Nat.reduceLeDiff, Nat.reduceLT, reduceIte, f5, f0, f1, hb, hb', hc, hc', Int.toNat_natCast]
        refine ⟨by omega, by omega, ?_⟩
        intro w2 hE2 _
        simp only [VS, VD, SV, SL, T, Nat.reduceEqDiff, Nat.reduceAdd, Nat.reduceSub, Nat.reduceMul, Nat.reduceLeDiff, Nat.reduceLT, reduceIte]
        refine cnd_d (fun hq2 => ?_) (fun hq2 => ?_)
        · simp only [VS, VD, SV, SL, T, Nat.reduceEqDiff, Nat.reduceAdd, Nat.reduceSub, Nat.reduceMul, Nat.reduceLeDiff, Nat.reduceLT, reduceIte]
          refine hΨ _ _ ⟨?_, hE.trans hE2⟩
          rw [decide_eq_false]
          rintro rfl
          exact hq2 rfl
        · have hq3 : l[i] = m[i] := Classical.not_not.1 hq2
          simp only [VS, VD, SV, SL, T, Nat.reduceEqDiff, Nat.reduceAdd, Nat.reduceSub, Nat.reduceMul, Nat.reduceLeDiff, Nat.reduceLT, reduceIte, f5]
          refine ⟨by omega, i + 1, ⟨f0, f1, by simp, by omega, hE.trans hE2, ?_⟩, by omega⟩
          rw [List.take_succ_eq_append_getElem hi1, List.take_succ_eq_append_getElem hi2, htk, hq3]
      · simp only [VS, VD, SV, SL, T, Nat.reduceEqDiff, Nat.reduceAdd, Nat.reduceSub, Nat.reduceMul, Nat.reduceLeDiff, Nat.reduceLT, reduceIte]
        refine hΨ _ _ ⟨?_, hE⟩
        rw [decide_eq_true]
        rw [List.take_of_length_le (by omega), List.take_of_length_le (by omega)] at htk
        exact htk
set_option maxRecDepth 10000 in
theorem EqualFunc_spec (u v : Value) (L M : List (List Int)) (hL : L.length ≤ 100000000) (hl : ∀ l ∈ L, l.length ≤ 100000000) (w : World) (hu : IntssAt w u L) (hv : IntssAt w v M) :
    VRet Try.prog 45 #[u, v, .func (.func 46) #[] #[]] w fun v w' => v = .bool (decide (L = M)) ∧ Ext w w' := by
  obtain ⟨a, c, rfl⟩ := hu.form'
  obtain ⟨a', c', rfl⟩ := hv.form'
  refine VRet_start T.mo ok45 rfl fun Ψ hΨ => ?_; simp only [vc45, rs45]
  simp only [VS, VD, SV, SL, T, Nat.reduceEqDiff, Nat.reduceAdd, Nat.reduceSub, Nat.reduceMul, Nat.reduceLeDiff, Nat.reduceLT, reduceIte]
  refine cnd_d (fun hq => ?_) (fun hq => ?_)
  · simp only [VS, VD, SV, SL, T, Nat.reduceEqDiff, Nat.reduceAdd, Nat.reduceSub, Nat.reduceMul, Nat.reduceLeDiff, Nat.reduceLT, reduceIte]
    refine hΨ _ _ ⟨?_, Ext.refl _⟩
    rw [decide_eq_false]
    rintro rfl
    exact hq rfl
  · have hlm : L.length = M.length := by
      apply Classical.byContradiction
      intro hne
      apply hq
      omega
    simp only [VS, VD, SV, SL, T, Nat.reduceEqDiff, Nat.reduceAdd, Nat.reduceSub, Nat.reduceMul, Nat.reduceLeDiff, Nat.reduceLT, reduceIte]
    refine LoopP_intro (α := Nat) (fun i f' w' => f' 1 = .slice a' M.length c' ∧ f' 2 = .func (.func 46) #[] #[] ∧ f' 15 = .slice a L.length c ∧ f' 16 = .int .i64 L.length ∧ f' 17 = .int .i64 i ∧ i ≤ L.length ∧ Ext w w' ∧ L.take i = M.take i) (fun i => L.length - i) 0 ?_ ?_
    · simp only [VS, VD, SV, SL, T, Nat.reduceEqDiff, Nat.reduceAdd, Nat.reduceSub, Nat.reduceMul, Nat.reduceLeDiff, Nat.reduceLT, reduceIte]
      exact ⟨rfl, Nat.zero_le _, Ext.refl _, rfl⟩
    · rintro i f' w' ⟨f1, f2, f15, f16, f17, hi, hE, htk⟩
      simp only [VS, VD, SV, SL, T, Nat.reduceEqDiff, Nat.reduceAdd, Nat.reduceSub, Nat.reduceMul, Nat.reduceLeDiff, Nat.reduceLT, reduceIte, f16, f17]
      refine cnd_d (fun hlt => ?_) (fun hlt => ?_)
      · have hi1 : i < L.length := by omega
        have hi2 : i < M.length := by omega
        obtain ⟨b, off, cs, e, fz, x, rfl, hb, hc, hx⟩ := (hu.ext hE).get' hi1
        obtain ⟨b', off', cs', e', fz', x', rfl, hb', hc', hx'⟩ := (hv.ext hE).get' hi2
        simp only [VS, VD, SV, SL, T, Nat.reduceEqDiff, Nat.reduceAdd, Nat.reduceSub, Nat.reduceMul, Nat.reduceLeDiff, Nat.reduceLT, reduceIte, f1, f15, f17, hb, hb', hc, hc', Int.toNat_natCast]
        refine ⟨by omega, by omega, ?_⟩
        refine oV_clo (xs := [.tmp 27, .tmp 28]) (g := 46) (caps := #[]) (by simp only [VS, VD, SV, SL, T, Nat.reduceEqDiff, Nat.reduceAdd, Nat.reduceSub, Nat.reduceMul, Nat.reduceLeDiff, Nat.reduceLT, reduceIte, f2]) T.en46 ?_
        simp only [VS, VD, SV, SL, T, Nat.reduceEqDiff, Nat.reduceAdd, Nat.reduceSub, Nat.reduceMul, Nat.reduceLeDiff, Nat.reduceLT, reduceIte, Array.append_empty]
        refine (Equal_spec _ _ _ _ (hl _ (List.getElem_mem _)) w' hx hx').mono ?_
        rintro _ w2 ⟨rfl, hE2⟩
        by_cases hq2 : L[i] = M[i]
        · rw [decide_eq_true hq2]
          simp only [VS, VD, SV, SL, T, Nat.reduceEqDiff, Nat.reduceAdd, Nat.reduceSub, Nat.reduceMul, Nat.reduceLeDiff, Nat.reduceLT, reduceIte, Bool.not_true, f1, f2, f15, f16, f17]
          refine ⟨by omega, i + 1, ⟨by simp, by omega, hE.trans hE2, ?_⟩, by omega⟩
          rw [List.take_succ_eq_append_getElem hi1, List.take_succ_eq_append_getElem hi2, htk, hq2]
        · rw [decide_eq_false hq2]
          simp only [VS, VD, SV, SL, T, Nat.reduceEqDiff, Nat.reduceAdd, Nat.reduceSub, Nat.reduceMul, Nat.reduceLeDiff, Nat.reduceLT, reduceIte, Bool.not_false]
          refine hΨ _ _ ⟨?_, hE.trans hE2⟩
          rw [decide_eq_false]
          rintro rfl
          exact hq2 rfl
      · simp only [VS, VD, SV, SL, T, Nat.reduceEqDiff, Nat.reduceAdd, Nat.reduceSub, Nat.reduceMul, Nat.reduceLeDiff, Nat.reduceLT, reduceIte]
        refine hΨ _ _ ⟨?_, hE⟩
        rw [decide_eq_true]
        rw [List.take_of_length_le (by omega), List.take_of_length_le (by omega)] at htk
        exact htk
end Go.Proofs.Ytlhlbiaibgmapaa
