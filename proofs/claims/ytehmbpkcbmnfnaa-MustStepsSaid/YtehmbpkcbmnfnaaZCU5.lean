/-
  Must: Equal, Describes.
-/
import Derived.Test.YtehmbpkcbmnfnaaZCU4
set_option linter.unusedSimpArgs false
set_option linter.unusedVariables false
namespace Go.Proofs.Ytehmbpkcbmnfnaa
open Go.W Go.RowKit
set_option maxRecDepth 10000 in
theorem Equal_zero (s y l : Int) (hs : 1 ≤ s) (a : Option Addr) (n c : Nat) (w : World) : VRet Try.prog 25 #[muV s y l (.slice a n c), muZ] w fun v w' => v = .bool false ∧ Ext w w' := by
  have hs0 : ¬ s = 0 := by omega
  have hE := ((Ext.refl w).alloc tomb).alloc tomb
  refine VRet_start T.mo ok25 rfl fun Ψ hΨ => ?_; simp only [vc25, rs25]
  simp only [VS, VD, SV, SL, T, Nat.reduceEqDiff, Nat.reduceAdd, Nat.reduceSub, Nat.reduceMul, Nat.reduceLeDiff, Nat.reduceLT, reduceIte, muV, hs0, decide_false, Bool.false_and, Bool.not_false, decide_true]
  exact hΨ _ _ ⟨rfl, hE⟩
set_option maxRecDepth 10000 in
theorem Equal_zz (w : World) : VRet Try.prog 25 #[muZ, muZ] w fun v w' => v = .bool true ∧ Ext w w' := by
  have hE := ((Ext.refl w).alloc tomb).alloc tomb
  refine VRet_start T.mo ok25 rfl fun Ψ hΨ => ?_; simp only [vc25, rs25]
  simp only [VS, VD, SV, SL, T, Nat.reduceEqDiff, Nat.reduceAdd, Nat.reduceSub, Nat.reduceMul, Nat.reduceLeDiff, Nat.reduceLT, reduceIte, muV, ne_eq, not_true_eq_false, decide_false]
  refine LoopP_intro (α := Unit) (fun _ f' w' => f' 27 = .int .i64 (0 : Nat) ∧ f' 28 = .int .i64 0 ∧ w' = (w.alloc tomb).alloc tomb) (fun _ => 0) () ?_ ?_
  · simp only [VS, VD, SV, SL, T, Nat.reduceEqDiff, Nat.reduceAdd, Nat.reduceSub, Nat.reduceMul, Nat.reduceLeDiff, Nat.reduceLT, reduceIte]
  · rintro _ f' _ ⟨f27, f28, rfl⟩
    simp only [VS, VD, SV, SL, T, Nat.reduceEqDiff, Nat.reduceAdd, Nat.reduceSub, Nat.reduceMul, Nat.reduceLeDiff, Nat.reduceLT, reduceIte, f27, f28]
    refine cnd_d (fun h => by exfalso; omega) (fun _ => ?_)
    simp only [VS, VD, SV, SL, T, Nat.reduceEqDiff, Nat.reduceAdd, Nat.reduceSub, Nat.reduceMul, Nat.reduceLeDiff, Nat.reduceLT, reduceIte]
    exact hΨ _ _ ⟨rfl, hE⟩
theorem keys_eq {la lb : List Ent} {ca cb : Nat} (ha : MWF la ca) (hb : MWF lb cb) (hl : la.length = lb.length) (hs : ∀ k v, mget la k = some v → mget lb k = some v) : ∀ k, mget la k = mget lb k := by
  intro k
  cases h : mget la k with
  | some v => exact (hs k v h).symm
  | none =>
    cases h2 : mget lb k with
    | none => rfl
    | some v =>
      exfalso
      have hk : ∀ (q : List Ent) (k : Int), k ∈ q.map (·.1) ↔ mget q k ≠ none := by
        intro q k
        rw [ne_eq, mget_none]
        simp only [List.mem_map, ne_eq, Classical.not_forall, Classical.not_not, exists_prop]
      have h3 : (k :: la.map (·.1)).Nodup := by
        rw [List.nodup_cons]
        exact ⟨fun hm => (hk la k).1 hm h, ha.keys⟩
      have h4 := List.Nodup.length_le_of_subset h3 (l₂ := lb.map (·.1)) (by
        intro j hj
        rcases List.mem_cons.1 hj with rfl | hj
        · rw [hk, h2]; simp
        · rw [hk] at hj ⊢
          obtain ⟨v', hv'⟩ := Option.ne_none_iff_exists'.1 hj
          rw [hs j v' hv']; simp)
      simp only [List.length_cons, List.length_map] at h4
      omega
set_option maxHeartbeats 1000000 in
set_option maxRecDepth 10000 in
theorem Equal_spec (s y l : Int) (hv : Geo s y l = true) (m n : Bnd) (hbm : Bd y m) (hbn : Bd y n) (a b : Value) (w : World) (ha : MuK w a s y l m) (hb : MuK w b s y l n) :
    VRet Try.prog 25 #[a, b] w fun v w' => (∃ r : Bool, v = .bool r ∧ (r = true ↔ m = n)) ∧ Ext w w' := by
  have hp := Geo_spec hv
  obtain ⟨ba, oa, ca, rfl⟩ := ha.form
  obtain ⟨bb, ob, cb, rfl⟩ := hb.form
  have hE := ((Ext.refl w).alloc tomb).alloc tomb
  refine VRet_start T.mo ok25 rfl fun Ψ hΨ => ?_; simp only [vc25, rs25]
  simp only [VS, VD, SV, SL, T, Nat.reduceEqDiff, Nat.reduceAdd, Nat.reduceSub, Nat.reduceMul, Nat.reduceLeDiff, Nat.reduceLT, reduceIte, muV, ne_eq, not_true_eq_false, decide_false]
  generalize (w.alloc tomb).alloc tomb = w0 at *
  refine LoopP_intro (α := Nat) (fun i f' w' => f' 3 = muV s y l (.slice (some ⟨bb, ob, none⟩) s.toNat cb) ∧ f' 26 = .slice (some ⟨ba, oa, none⟩) s.toNat ca ∧ f' 27 = .int .i64 s.toNat ∧ f' 28 = .int .i64 i ∧ i ≤ s.toNat ∧ Ext w w' ∧ ∀ j, j < i → ∀ k, restr s j m k = restr s j n k) (fun i => s.toNat - i) 0 ?_ ?_
  · simp only [VS, VD, SV, SL, T, Nat.reduceEqDiff, Nat.reduceAdd, Nat.reduceSub, Nat.reduceMul, Nat.reduceLeDiff, Nat.reduceLT, reduceIte, muV]
    exact ⟨rfl, Nat.zero_le _, hE, fun j hj => by omega⟩
  · rintro i f' wo ⟨f3, f26, f27, f28, hi, hEx, hsame⟩
    simp only [VS, VD, SV, SL, T, Nat.reduceEqDiff, Nat.reduceAdd, Nat.reduceSub, Nat.reduceMul, Nat.reduceLeDiff, Nat.reduceLT, reduceIte, f28, f27]
    refine cnd_d (fun hlt => ?_) (fun hlt => ?_)
    · have hi' : i < s.toNat := by omega
      obtain ⟨x, csa, ea, fza, hba, hxa, hma⟩ := ha.at hi'
      obtain ⟨z, csb, eb, fzb, hbb, hzb, hmb⟩ := hb.at hi'
      obtain ⟨l0, c0, hML, hmg⟩ := hma.list
      obtain ⟨l1, c1, hNL, hng⟩ := hmb.list
      have hba' := hEx.obj hba
      have hbb' := hEx.obj hbb
      have hla : ∀ w', Ext w w' → sLen Try.prog 76 x w' = some (.int .i64 l0.length, w') := fun w' hE' => sLenM T.mp76 (hML.ext hE')
      have hlb : ∀ w', Ext w w' → sLen Try.prog 76 z w' = some (.int .i64 l1.length, w') := fun w' hE' => sLenM T.mp76 (hNL.ext hE')
      simp only [VS, VD, SV, SL, T, Nat.reduceEqDiff, Nat.reduceAdd, Nat.reduceSub, Nat.reduceMul, Nat.reduceLeDiff, Nat.reduceLT, reduceIte, f28, f26, hba', Int.toNat_natCast, hxa]
      refine ⟨by omega, ?_⟩
      refine DW_intro (fun _ _ _ _ => True) ?_
      have hla1 := hla wo hEx
      simp only [VS, VD, SV, SL, T, Nat.reduceEqDiff, Nat.reduceAdd, Nat.reduceSub, Nat.reduceMul, Nat.reduceLeDiff, Nat.reduceLT, reduceIte, hla1, f3, muV, f28, hbb', hzb, Int.toNat_natCast]
      refine ⟨by omega, ?_⟩
      intro w2 hE2 _
      have hEx2 := hEx.trans hE2
      have hlb1 := hlb w2 hEx2
      simp only [VS, VD, SV, SL, T, Nat.reduceEqDiff, Nat.reduceAdd, Nat.reduceSub, Nat.reduceMul, Nat.reduceLeDiff, Nat.reduceLT, reduceIte, hlb1]
      refine cnd_d (fun hq => ?_) (fun hq => ?_)
      · simp only [VS, VD, SV, SL, T, Nat.reduceEqDiff, Nat.reduceAdd, Nat.reduceSub, Nat.reduceMul, Nat.reduceLeDiff, Nat.reduceLT, reduceIte]
        refine hΨ _ _ ⟨⟨false, rfl, ?_⟩, hEx2⟩
        refine ⟨fun h => (by cases h), fun e => ?_⟩
        subst e
        exfalso
        apply hq
        have := mlen_eq hML.wf hNL.wf (fun k => by rw [hmg, hng])
        rw [this]
      · have hq' : l0.length = l1.length := by have := Classical.not_not.1 hq; omega
        simp only [VS, VD, SV, SL, T, Nat.reduceEqDiff, Nat.reduceAdd, Nat.reduceSub, Nat.reduceMul, Nat.reduceLeDiff, Nat.reduceLT, reduceIte]
        refine rV_rangeM T.mp76 (hML.ext hEx2) ?_
        intro w4 hs4 hit4 hh4 hE4
        have hitw : w.heap.size ≤ w2.heap.size := hEx2.size
        generalize w2.heap.size = it at *
        simp only [VS, VD, SV, SL, T, Nat.reduceEqDiff, Nat.reduceAdd, Nat.reduceSub, Nat.reduceMul, Nat.reduceLeDiff, Nat.reduceLT, reduceIte]
        refine LoopP_intro (α := Array Nat) (fun seen q w' => q 3 = muV s y l (.slice (some ⟨bb, ob, none⟩) s.toNat cb) ∧ q 5 = .int .i64 i ∧ q 26 = .slice (some ⟨ba, oa, none⟩) s.toNat ca ∧ q 27 = .int .i64 s.toNat ∧ q 28 = .int .i64 i ∧ q 43 = .pointer (some ⟨it, 0, none⟩) ∧ ItAt w' it x c0 seen ∧ Ext w w' ∧ ∀ p ∈ l0, p.2.2 ∈ seen → mget l1 p.1 = some p.2.1) (fun seen => (todo l0 seen).length) #[] ?_ ?_
        · simp only [VS, VD, SV, SL, T, Nat.reduceEqDiff, Nat.reduceAdd, Nat.reduceSub, Nat.reduceMul, Nat.reduceLeDiff, Nat.reduceLT, reduceIte, f3, f26, f27, f28, muV]
          exact ⟨hit4, hE4 w hEx2, fun p _ h => by simp at h⟩
        · clear f3 f26 f27 f28
          rintro seen q w5 ⟨g3, g5, g26, g27, g28, g43, hI, hE5, hseen⟩
          have hML5 := hML.ext hE5
          simp only [VS, VD, SV, SL, T, Nat.reduceEqDiff, Nat.reduceAdd, Nat.reduceSub, Nat.reduceMul, Nat.reduceLeDiff, Nat.reduceLT, reduceIte, g43]
          refine rV_nextM hI hML5 (fun hallp => ?_) (fun p hp hns w6 hI6 hh6 hE6 => ?_)
          · simp only [VS, VD, SV, SL, T, Nat.reduceEqDiff, Nat.reduceAdd, Nat.reduceSub, Nat.reduceMul, Nat.reduceLeDiff, Nat.reduceLT, reduceIte, g28]
            refine ⟨by omega, i + 1, ⟨g3, g26, g27, by simp, by omega, hE5, fun j hj k => ?_⟩, by omega⟩
            by_cases hji : j = i
            · subst hji
              have hke := keys_eq hML.wf hNL.wf hq' (fun k v hk => by
                obtain ⟨bo, hbo⟩ := mget_some_mem hk
                exact hseen _ hbo (hallp _ hbo)) k
              rw [hmg, hng] at hke
              cases h1 : restr s j m k <;> cases h2 : restr s j n k <;> rw [h1, h2] at hke <;> simp at hke
              rw [hke]
            · exact hsame j (by omega) k
          · have hEw6 := hE6 w hE5 hitw
            have hbb6 := hEw6.obj hbb
            obtain ⟨va, hva, hma1⟩ : ∃ va, p.2.1 = .int .i64 va ∧ restr s i m p.1 = some va := by
              have h3 := mget_mem hML.wf.keys hp
              rw [hmg] at h3
              obtain ⟨vb, q1, q2⟩ := Option.map_eq_some_iff.1 h3
              exact ⟨vb, q2.symm, q1⟩
            have hm := todo_lt hp hns
            simp only [VS, VD, SV, SL, T, Nat.reduceEqDiff, Nat.reduceAdd, Nat.reduceSub, Nat.reduceMul, Nat.reduceLeDiff, Nat.reduceLT, reduceIte, g43]
            refine rV_entryM hI6 (hML.ext hEw6) hp ?_
            simp only [VS, VD, SV, SL, T, Nat.reduceEqDiff, Nat.reduceAdd, Nat.reduceSub, Nat.reduceMul, Nat.reduceLeDiff, Nat.reduceLT, reduceIte, hva, g3, g5, muV, hbb6, hzb, Int.toNat_natCast]
            refine ⟨by omega, ?_⟩
            refine (hmb.ext hEw6).look p.1 ?_
            simp only [VS, VD, SV, SL, T, Nat.reduceEqDiff, Nat.reduceAdd, Nat.reduceSub, Nat.reduceMul, Nat.reduceLeDiff, Nat.reduceLT, reduceIte]
            cases hnb : restr s i n p.1 with
            | none =>
              simp only [VS, VD, SV, SL, T, Nat.reduceEqDiff, Nat.reduceAdd, Nat.reduceSub, Nat.reduceMul, Nat.reduceLeDiff, Nat.reduceLT, reduceIte, Option.isSome_none, Bool.not_false]
              refine hΨ _ _ ⟨⟨false, rfl, fun h => (by cases h), fun e => ?_⟩, hEw6⟩
              subst e
              rw [hma1] at hnb; cases hnb
            | some vb =>
              simp only [VS, VD, SV, SL, T, Nat.reduceEqDiff, Nat.reduceAdd, Nat.reduceSub, Nat.reduceMul, Nat.reduceLeDiff, Nat.reduceLT, reduceIte, Option.isSome_some, Option.getD_some, Bool.not_true]
              refine cnd_d (fun hne => ?_) (fun hne => ?_)
              · simp only [VS, VD, SV, SL, T, Nat.reduceEqDiff, Nat.reduceAdd, Nat.reduceSub, Nat.reduceMul, Nat.reduceLeDiff, Nat.reduceLT, reduceIte]
                refine hΨ _ _ ⟨⟨false, rfl, fun h => (by cases h), fun e => ?_⟩, hEw6⟩
                subst e
                rw [hma1] at hnb
                simp only [Option.some.injEq] at hnb
                exact (hne hnb).elim
              · have hev : va = vb := Classical.not_not.1 hne
                simp only [VS, VD, SV, SL, T, Nat.reduceEqDiff, Nat.reduceAdd, Nat.reduceSub, Nat.reduceMul, Nat.reduceLeDiff, Nat.reduceLT, reduceIte]
                refine ⟨seen.push p.2.2, ⟨g3, g5, g26, g27, g28, g43, hI6, hEw6, fun p' hp' hs' => ?_⟩, hm⟩
                rcases Array.mem_push.1 hs' with h | h
                · exact hseen p' hp' h
                · rw [Go.W.born_inj hML.wf.borns hp' hp h, hng, hnb, hva, hev]; rfl
    · simp only [VS, VD, SV, SL, T, Nat.reduceEqDiff, Nat.reduceAdd, Nat.reduceSub, Nat.reduceMul, Nat.reduceLeDiff, Nat.reduceLT, reduceIte]
      refine hΨ _ _ ⟨⟨true, rfl, fun _ => ?_, fun _ => rfl⟩, hEx⟩
      funext k
      by_cases hk : 0 ≤ k
      · have h1 := Int.emod_nonneg k (show s ≠ 0 by omega)
        have h2 := Int.emod_lt_of_pos k (show 0 < s by omega)
        have := hsame (k % s).toNat (by omega) k
        simp only [restr] at this
        rw [if_pos ⟨hk, by omega⟩, if_pos ⟨hk, by omega⟩] at this
        exact this
      · cases h1 : m k with
        | some v => have := (hbm k v h1).1; omega
        | none =>
          cases h2 : n k with
          | some v => have := (hbn k v h2).1; omega
          | none => rfl
/-- the contents that a state describes -/
def DesQ (m : Bnd) (s : Int) (ll : List (List Int)) : Prop := (ll.length : Int) = s ∧ ∀ k b, m k = some b → 0 ≤ C.idxI (ll.getD (k % s).toNat []) k ∧ C.idxI (ll.getD (k % s).toNat []) k ≤ b
set_option maxRecDepth 10000 in
theorem Describes_zero (v : Value) (w : World) : VRet Try.prog 27 #[muZ, v] w fun v w' => v = .bool false ∧ Ext w w' := by
  refine VRet_start T.mo ok27 rfl fun Ψ hΨ => ?_; simp only [vc27, rs27]
  simp only [VS, VD, SV, SL, T, Nat.reduceEqDiff, Nat.reduceAdd, Nat.reduceSub, Nat.reduceMul, Nat.reduceLeDiff, Nat.reduceLT, reduceIte, muV]
  refine (zero_spec 0 0 0 _ _ _ _).mono ?_
  rintro _ w1 ⟨rfl, hE1⟩
  have e0 : decide (((0 : Nat) : Int) = 0) = true := rfl
  rw [e0]
  simp only [VS, VD, SV, SL, T, Nat.reduceEqDiff, Nat.reduceAdd, Nat.reduceSub, Nat.reduceMul, Nat.reduceLeDiff, Nat.reduceLT, reduceIte]
  exact hΨ _ _ ⟨rfl, ((Ext.refl w).alloc tomb).trans hE1⟩
set_option maxHeartbeats 1000000 in
set_option maxRecDepth 10000 in
theorem Describes_spec (s y l : Int) (hv : Geo s y l = true) (m : Bnd) (hbm : Bd y m) (st lv : Value) (ll : List (List Int)) (hll : ll.length ≤ 1000000 ∧ ∀ l ∈ ll, l.length ≤ 1000000) (w : World) (h : MuK w st s y l m) (hlv : IntssAt w lv ll) :
    VRet Try.prog 27 #[st, lv] w fun v w' => (∃ r : Bool, v = .bool r ∧ (r = true ↔ DesQ m s ll)) ∧ Ext w w' := by
  have hp := Geo_spec hv
  obtain ⟨ba, oa, ca, rfl⟩ := h.form
  obtain ⟨al, cl, rfl⟩ := hlv.form
  refine VRet_start T.mo ok27 rfl fun Ψ hΨ => ?_; simp only [vc27, rs27]
  simp only [VS, VD, SV, SL, T, Nat.reduceEqDiff, Nat.reduceAdd, Nat.reduceSub, Nat.reduceMul, Nat.reduceLeDiff, Nat.reduceLT, reduceIte, muV]
  refine (zero_spec s y l _ _ _ _).mono ?_
  rintro _ w1 ⟨rfl, hE1⟩
  replace hE1 := ((Ext.refl w).alloc tomb).trans hE1
  rw [decide_eq_false (show ¬ (s.toNat : Int) = 0 by omega)]
  simp only [VS, VD, SV, SL, T, Nat.reduceEqDiff, Nat.reduceAdd, Nat.reduceSub, Nat.reduceMul, Nat.reduceLeDiff, Nat.reduceLT, reduceIte]
  by_cases hlen : ¬ (ll.length : Int) = (s.toNat : Int)
  · rw [decide_eq_true hlen]
    simp only [VS, VD, SV, SL, T, Nat.reduceEqDiff, Nat.reduceAdd, Nat.reduceSub, Nat.reduceMul, Nat.reduceLeDiff, Nat.reduceLT, reduceIte]
    exact hΨ _ _ ⟨⟨false, rfl, fun h => (by cases h), fun h => (by have := h.1; omega)⟩, hE1⟩
  have hls : ll.length = s.toNat := by have := Classical.not_not.1 hlen; omega
  rw [decide_eq_false hlen]
  simp only [VS, VD, SV, SL, T, Nat.reduceEqDiff, Nat.reduceAdd, Nat.reduceSub, Nat.reduceMul, Nat.reduceLeDiff, Nat.reduceLT, reduceIte, muV]
  refine LoopP_intro (α := Nat) (fun i f' w' => f' 1 = .slice al ll.length cl ∧ f' 21 = .slice (some ⟨ba, oa, none⟩) s.toNat ca ∧ f' 22 = .int .i64 s.toNat ∧ f' 23 = .int .i64 i ∧ i ≤ s.toNat ∧ Ext w w' ∧ ∀ k b, m k = some b → (k % s).toNat < i → 0 ≤ C.idxI (ll.getD (k % s).toNat []) k ∧ C.idxI (ll.getD (k % s).toNat []) k ≤ b) (fun i => s.toNat - i) 0 ?_ ?_
  · simp only [VS, VD, SV, SL, T, Nat.reduceEqDiff, Nat.reduceAdd, Nat.reduceSub, Nat.reduceMul, Nat.reduceLeDiff, Nat.reduceLT, reduceIte]
    exact ⟨rfl, Nat.zero_le _, hE1, fun k b _ hj => by omega⟩
  · rintro i f' wo ⟨f1, f21, f22, f23, hi, hEx, hok⟩
    simp only [VS, VD, SV, SL, T, Nat.reduceEqDiff, Nat.reduceAdd, Nat.reduceSub, Nat.reduceMul, Nat.reduceLeDiff, Nat.reduceLT, reduceIte, f23, f22]
    refine cnd_d (fun hlt => ?_) (fun hlt => ?_)
    · have hi' : i < s.toNat := by omega
      have hill : i < ll.length := by omega
      obtain ⟨x, csa, ea, fza, hba, hxa, hma⟩ := h.at hi'
      obtain ⟨l0, c0, hML, hmg⟩ := hma.list
      have hba' := hEx.obj hba
      have hgD : ll.getD i [] = ll[i] := by simp [List.getD_eq_getElem?_getD, hill]
      simp only [VS, VD, SV, SL, T, Nat.reduceEqDiff, Nat.reduceAdd, Nat.reduceSub, Nat.reduceMul, Nat.reduceLeDiff, Nat.reduceLT, reduceIte, f23, f21, hba', Int.toNat_natCast, hxa]
      refine ⟨by omega, ?_⟩
      refine rV_rangeM T.mp76 (hML.ext hEx) ?_
      intro w4 hs4 hit4 hh4 hE4
      have hitw : w.heap.size ≤ wo.heap.size := hEx.size
      generalize wo.heap.size = it at *
      simp only [VS, VD, SV, SL, T, Nat.reduceEqDiff, Nat.reduceAdd, Nat.reduceSub, Nat.reduceMul, Nat.reduceLeDiff, Nat.reduceLT, reduceIte]
      refine LoopP_intro (α := Array Nat) (fun seen q w' => q 1 = .slice al ll.length cl ∧ q 5 = .int .i64 i ∧ q 21 = .slice (some ⟨ba, oa, none⟩) s.toNat ca ∧ q 22 = .int .i64 s.toNat ∧ q 23 = .int .i64 i ∧ q 29 = .pointer (some ⟨it, 0, none⟩) ∧ ItAt w' it x c0 seen ∧ Ext w w' ∧ ∀ p ∈ l0, p.2.2 ∈ seen → ∃ b, p.2.1 = .int .i64 b ∧ 0 ≤ C.idxI ll[i] p.1 ∧ C.idxI ll[i] p.1 ≤ b) (fun seen => (todo l0 seen).length) #[] ?_ ?_
      · simp only [VS, VD, SV, SL, T, Nat.reduceEqDiff, Nat.reduceAdd, Nat.reduceSub, Nat.reduceMul, Nat.reduceLeDiff, Nat.reduceLT, reduceIte, f1, f21, f22, f23]
        exact ⟨hit4, hE4 w hEx, fun p _ h => by simp at h⟩
      · clear f1 f21 f22 f23
        rintro seen q w5 ⟨g1, g5, g21, g22, g23, g29, hI, hE5, hseen⟩
        have hML5 := hML.ext hE5
        simp only [VS, VD, SV, SL, T, Nat.reduceEqDiff, Nat.reduceAdd, Nat.reduceSub, Nat.reduceMul, Nat.reduceLeDiff, Nat.reduceLT, reduceIte, g29]
        refine rV_nextM hI hML5 (fun hallp => ?_) (fun p hp hns w6 hI6 hh6 hE6 => ?_)
        · simp only [VS, VD, SV, SL, T, Nat.reduceEqDiff, Nat.reduceAdd, Nat.reduceSub, Nat.reduceMul, Nat.reduceLeDiff, Nat.reduceLT, reduceIte, g23]
          refine ⟨by omega, i + 1, ⟨g1, g21, g22, by simp, by omega, hE5, fun k b hk hki => ?_⟩, by omega⟩
          by_cases hji : (k % s).toNat = i
          · have hk0 := (hbm k b hk).1
            have hks0 := Int.emod_nonneg k (show s ≠ 0 by omega)
            have hg1 : mget l0 k = some (.int .i64 b) := by
              rw [hmg]; simp only [restr]; rw [if_pos ⟨hk0, by omega⟩, hk]; rfl
            obtain ⟨bo, hbo⟩ := mget_some_mem hg1
            obtain ⟨b', e, q1, q2⟩ := hseen _ hbo (hallp _ hbo)
            simp only [Value.int.injEq, true_and] at e
            subst e
            rw [hji, hgD]
            exact ⟨q1, q2⟩
          · exact hok k b hk (by omega)
        · have hEw6 := hE6 w hE5 (by omega)
          obtain ⟨va, hva, hma1⟩ : ∃ va, p.2.1 = .int .i64 va ∧ restr s i m p.1 = some va := by
            have h3 := mget_mem hML.wf.keys hp
            rw [hmg] at h3
            obtain ⟨vb, q1, q2⟩ := Option.map_eq_some_iff.1 h3
            exact ⟨vb, q2.symm, q1⟩
          have hmp : m p.1 = some va ∧ (p.1 % s).toNat = i := by
            simp only [restr] at hma1
            split at hma1
            · rename_i hc; exact ⟨hma1, by omega⟩
            · cases hma1
          have hm := todo_lt hp hns
          obtain ⟨b5, off5, cs5, e5, fz5, u5, rfl, _, hb5, hc5, hu5⟩ := (hlv.ext hEw6).get (i := i) (l := ll[i]) (by simp [hill])
          simp only [VS, VD, SV, SL, T, Nat.reduceEqDiff, Nat.reduceAdd, Nat.reduceSub, Nat.reduceMul, Nat.reduceLeDiff, Nat.reduceLT, reduceIte, g29]
          refine rV_entryM hI6 (hML.ext hEw6) hp ?_
          simp only [VS, VD, SV, SL, T, Nat.reduceEqDiff, Nat.reduceAdd, Nat.reduceSub, Nat.reduceMul, Nat.reduceLeDiff, Nat.reduceLT, reduceIte, hva, g1, g5, hb5, hc5, Int.toNat_natCast]
          refine ⟨by omega, ?_⟩
          refine (C.Index_spec u5 ll[i] (hll.2 _ (List.getElem_mem hill)) p.1 w6 hu5).mono ?_
          rintro _ w7 ⟨rfl, hE7⟩
          have hEw7 := hEw6.trans hE7
          have hbad : ¬ (0 ≤ C.idxI ll[i] p.1 ∧ C.idxI ll[i] p.1 ≤ va) → ¬ DesQ m s ll := by
            intro hn hD
            have := hD.2 p.1 va hmp.1
            rw [hmp.2, hgD] at this
            exact hn this
          simp only [VS, VD, SV, SL, T, Nat.reduceEqDiff, Nat.reduceAdd, Nat.reduceSub, Nat.reduceMul, Nat.reduceLeDiff, Nat.reduceLT, reduceIte]
          by_cases h1 : C.idxI ll[i] p.1 < 0
          · rw [decide_eq_true h1]
            simp only [VS, VD, SV, SL, T, Nat.reduceEqDiff, Nat.reduceAdd, Nat.reduceSub, Nat.reduceMul, Nat.reduceLeDiff, Nat.reduceLT, reduceIte]
            exact hΨ _ _ ⟨⟨false, rfl, fun h => (by cases h), fun h => (hbad (by omega) h).elim⟩, hEw7⟩
          · rw [decide_eq_false h1]
            simp only [VS, VD, SV, SL, T, Nat.reduceEqDiff, Nat.reduceAdd, Nat.reduceSub, Nat.reduceMul, Nat.reduceLeDiff, Nat.reduceLT, reduceIte]
            refine cnd_d (fun h2 => ?_) (fun h2 => ?_)
            · simp only [VS, VD, SV, SL, T, Nat.reduceEqDiff, Nat.reduceAdd, Nat.reduceSub, Nat.reduceMul, Nat.reduceLeDiff, Nat.reduceLT, reduceIte]
              exact hΨ _ _ ⟨⟨false, rfl, fun h => (by cases h), fun h => (hbad (by omega) h).elim⟩, hEw7⟩
            · simp only [VS, VD, SV, SL, T, Nat.reduceEqDiff, Nat.reduceAdd, Nat.reduceSub, Nat.reduceMul, Nat.reduceLeDiff, Nat.reduceLT, reduceIte]
              refine ⟨seen.push p.2.2, ⟨g1, g5, g21, g22, g23, g29, hI6.heap (hE7.get _ hI6.lt), hEw7, fun p' hp' hs' => ?_⟩, hm⟩
              rcases Array.mem_push.1 hs' with h | h
              · exact hseen p' hp' h
              · rw [Go.W.born_inj hML.wf.borns hp' hp h]
                exact ⟨va, hva, by omega, by omega⟩
    · simp only [VS, VD, SV, SL, T, Nat.reduceEqDiff, Nat.reduceAdd, Nat.reduceSub, Nat.reduceMul, Nat.reduceLeDiff, Nat.reduceLT, reduceIte]
      refine hΨ _ _ ⟨⟨true, rfl, fun _ => ⟨by omega, fun k b hk => ?_⟩, fun _ => rfl⟩, hEx⟩
      have h2 := Int.emod_lt_of_pos k (show 0 < s by omega)
      exact hok k b hk (by omega)
end Go.Proofs.Ytehmbpkcbmnfnaa
