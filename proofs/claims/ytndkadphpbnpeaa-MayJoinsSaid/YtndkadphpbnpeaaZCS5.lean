/-
  MayJoins.
-/
import Derived.Test.YtndkadphpbnpeaaZCS4
set_option linter.unusedSimpArgs false
set_option linter.unusedVariables false
namespace Go.Proofs.Ytndkadphpbnpeaa
open Go.W Go.RowKit
open C (dst stS addH hitS ptr CacheAt Mv)
def jstep (A : List (Int × Int)) (x : Int × Int) : List (Int × Int) := if rAge A x.1 < 0 ∨ x.2 < rAge A x.1 then putF A x.1 x.2 else A
def rJn (A B : List (Int × Int)) : List (Int × Int) := B.foldl jstep A
theorem rJn_len (A : List (Int × Int)) : ∀ (B : List (Int × Int)) (A : List (Int × Int)), (rJn A B).length ≤ A.length + B.length
  | [], A => by simp [rJn]
  | x :: B, A => by
    have h1 := rJn_len A B (jstep A x)
    have h2 : (jstep A x).length ≤ A.length + 1 := by
      unfold jstep
      split
      · exact putF_len A x.1 x.2
      · omega
    simp only [rJn, List.foldl_cons, List.length_cons] at *
    omega
theorem AbsL.jn {y : Int} : ∀ (B : List (Int × Int)) {A : List (Int × Int)} {m : Int → Option Int}, AbsL A m → (∀ k b, m k = some b → 0 ≤ b) → Srt B → (∀ x ∈ B, 0 ≤ x.2) → AbsL (rJn A B) (fun k => Go.Proofs.Ytndkadphpbnpeaa.jn (m k) ((B.find? (·.1 == k)).map (·.2)))
  | [], A, m, h, _, _, _ => by
    have : (fun k => Go.Proofs.Ytndkadphpbnpeaa.jn (m k) ((([] : List (Int × Int)).find? (·.1 == k)).map (·.2))) = m := by
      funext k
      simp only [List.find?_nil, Option.map_none]
      cases m k <;> rfl
    rw [this]; exact h
  | x :: B, A, m, h, hm, hs, hb => by
    have hs' : Srt B := (List.pairwise_cons.1 hs).2
    have hx0 := hb x (by simp)
    have hxB : ∀ z ∈ B, x.1 < z.1 := (List.pairwise_cons.1 hs).1
    have hstep : AbsL (jstep A x) (fun k => if k = x.1 then Go.Proofs.Ytndkadphpbnpeaa.jn (m k) (some x.2) else m k) := by
      unfold jstep
      rw [h.age]
      split
      · rename_i hc
        have := h.put x.1 x.2
        have e : (fun j => if j = x.1 then some x.2 else m j) = (fun k => if k = x.1 then Go.Proofs.Ytndkadphpbnpeaa.jn (m k) (some x.2) else m k) := by
          funext k
          by_cases e : k = x.1
          · subst e
            simp only [if_true]
            cases hmk : m x.1 with
            | none => rfl
            | some v =>
              rw [hmk, Option.getD_some] at hc
              have := hm _ _ hmk
              simp only [Go.Proofs.Ytndkadphpbnpeaa.jn, Option.some.injEq]
              omega
          · simp [e]
        rw [← e]; exact this
      · rename_i hc
        have e : (fun k => if k = x.1 then Go.Proofs.Ytndkadphpbnpeaa.jn (m k) (some x.2) else m k) = m := by
          funext k
          by_cases e : k = x.1
          · subst e
            simp only [if_true]
            cases hmk : m x.1 with
            | none => rw [hmk, Option.getD_none] at hc; omega
            | some v =>
              rw [hmk, Option.getD_some] at hc
              simp only [Go.Proofs.Ytndkadphpbnpeaa.jn, Option.some.injEq]
              omega
          · simp [e]
        rw [e]; exact h
    have ih := AbsL.jn (y := y) B hstep (by
      intro k b hkb
      split at hkb
      · cases hmk : m k with
        | none => rw [hmk] at hkb; simp only [Go.Proofs.Ytndkadphpbnpeaa.jn, Option.some.injEq] at hkb; omega
        | some v => have := hm _ _ hmk; rw [hmk] at hkb; simp only [Go.Proofs.Ytndkadphpbnpeaa.jn, Option.some.injEq] at hkb; omega
      · exact hm k b hkb) hs' (fun z hz => hb z (by simp [hz]))
    have e : (fun k => Go.Proofs.Ytndkadphpbnpeaa.jn (if k = x.1 then Go.Proofs.Ytndkadphpbnpeaa.jn (m k) (some x.2) else m k) ((B.find? (·.1 == k)).map (·.2))) = (fun k => Go.Proofs.Ytndkadphpbnpeaa.jn (m k) (((x :: B).find? (·.1 == k)).map (·.2))) := by
      funext k
      rw [List.find?_cons]
      by_cases e : k = x.1
      · subst e
        have hnone : B.find? (·.1 == x.1) = none := by
          rw [List.find?_eq_none]
          intro z hz
          have := hxB z hz
          simp; omega
        simp only [if_true, beq_self_eq_true, hnone, Option.map_none, Option.map_some]
        cases m x.1 <;> rfl
      · have e2 : (x.1 == k) = false := by simp; omega
        simp only [e, if_false, e2]
    rw [← e]; exact ih
theorem AbsL.find {L : List (Int × Int)} {m : Int → Option Int} (h : AbsL L m) (k : Int) : (L.find? (·.1 == k)).map (·.2) = m k := by
  cases hf : L.find? (·.1 == k) with
  | none =>
    cases hm : m k with
    | none => rfl
    | some b =>
      rw [List.find?_eq_none] at hf
      have := hf _ ((h.mem k b).2 hm)
      simp at this
  | some p =>
    have h1 := List.mem_of_find?_eq_some hf
    have h2 := List.find?_some hf
    simp only [beq_iff_eq] at h2
    obtain ⟨j, b⟩ := p
    simp only [] at h2
    subst h2
    exact ((h.mem j b).1 h1).symm
def jnR (r q : Bool × List (Int × Int)) : Bool × List (Int × Int) := if r.1 = true ∨ q.1 = true then (true, []) else (false, rJn r.2 q.2)
theorem Same.join {y : Int} {M N : Option (Int → Option Int)} {r q : Bool × List (Int × Int)} (h : Same M r) (k : Same N q) (hM : BdS y M) (hN : BdS y N) : Same (joinS M N) (jnR r q) := by
  cases M with
  | none =>
    have : r.1 = true := h
    show Same none (jnR r q)
    unfold jnR; rw [if_pos (.inl this)]; exact rfl
  | some m =>
    cases N with
    | none =>
      have : q.1 = true := k
      show Same none (jnR r q)
      unfold jnR; rw [if_pos (.inr this)]; exact rfl
    | some n =>
      obtain ⟨h1, h2⟩ := h
      obtain ⟨k1, k2⟩ := k
      unfold jnR
      rw [h1, k1, if_neg (by simp)]
      refine ⟨rfl, ?_⟩
      have := AbsL.jn (y := y) q.2 h2 (fun k b hb => (hM m rfl k b hb).2.1) k2.srt (fun x hx => (hN n rfl x.1 x.2 ((k2.mem _ _).1 hx)).2.1)
      have e : (fun k => Go.Proofs.Ytndkadphpbnpeaa.jn (m k) ((q.2.find? (·.1 == k)).map (·.2))) = joinM m n := by
        funext j
        rw [k2.find]; rfl
      rw [e] at this
      exact this
set_option maxRecDepth 10000 in
theorem rJoin_spec (s y l : Int) (ua ub : Bool) (La Lb : List (Int × Int)) (hla : La.length ≤ 10000) (hlb : Lb.length ≤ 10000) (va vb : Value) (w : World) (ha : RefAt w va s y l ua La) (hb : RefAt w vb s y l ub Lb) :
    VRet Try.prog 32 #[va, vb] w fun v w' => RefAt w' v s y l (jnR (ua, La) (ub, Lb)).1 (jnR (ua, La) (ub, Lb)).2 ∧ Ext w w' := by
  obtain ⟨sa, rfl, hsa⟩ := ha
  obtain ⟨sb, rfl, hsb⟩ := hb
  obtain ⟨aa, ca, rfl⟩ := lnAt_form hsa
  obtain ⟨ab, cb, rfl⟩ := lnAt_form hsb
  have hE0 : Ext w (((w.alloc tomb).alloc tomb).alloc tomb) := (((Ext.refl w).alloc _).alloc _).alloc _
  refine VRet_start T.mo ok32 rfl fun Ψ hΨ => ?_; simp only [vc32, rs32]
  simp only [VS, VD, SV, SL, T, Nat.reduceEqDiff, Nat.reduceAdd, Nat.reduceSub, Nat.reduceMul, Nat.reduceLeDiff, Nat.reduceLT, reduceIte, stV]
  by_cases hu : ua = true ∨ ub = true
  · have hj : jnR (ua, La) (ub, Lb) = (true, []) := by unfold jnR; rw [if_pos hu]
    have hfin : RefAt (((w.alloc tomb).alloc tomb).alloc tomb) (stV s y l true (.slice none 0 0)) s y l true [] := ⟨_, rfl, .inl ⟨⟨_, _, rfl⟩, rfl⟩⟩
    cases ua with
    | true =>
      simp only [VS, VD, SV, SL, T, Nat.reduceEqDiff, Nat.reduceAdd, Nat.reduceSub, Nat.reduceMul, Nat.reduceLeDiff, Nat.reduceLT, reduceIte, stV]
      exact hΨ _ _ ⟨by rw [hj]; exact hfin, hE0⟩
    | false =>
      cases ub with
      | false => rcases hu with h | h <;> cases h
      | true =>
        simp only [VS, VD, SV, SL, T, Nat.reduceEqDiff, Nat.reduceAdd, Nat.reduceSub, Nat.reduceMul, Nat.reduceLeDiff, Nat.reduceLT, reduceIte, stV]
        exact hΨ _ _ ⟨by rw [hj]; exact hfin, hE0⟩
  · have e1 : ua = false := by cases ua <;> simp_all
    have e2 : ub = false := by cases ub <;> simp_all
    subst e1 e2
    have hj : jnR (false, La) (false, Lb) = (false, rJn La Lb) := by unfold jnR; rw [if_neg hu]
    simp only [VS, VD, SV, SL, T, Nat.reduceEqDiff, Nat.reduceAdd, Nat.reduceSub, Nat.reduceMul, Nat.reduceLeDiff, Nat.reduceLT, reduceIte, stV]
    refine LoopP_intro (α := Nat) (fun i f' w' => live (f' 4) = true ∧ f' 3 = stV s y l false (.slice ab Lb.length cb) ∧ f' 5 = .int .i64 i ∧ i ≤ Lb.length ∧ Ext w w' ∧ RefAt w' (f' 2) s y l false (rJn La (Lb.take i))) (fun i => Lb.length - i) 0 ?_ ?_
    · simp only [VS, VD, SV, SL, T, Nat.reduceEqDiff, Nat.reduceAdd, Nat.reduceSub, Nat.reduceMul, Nat.reduceLeDiff, Nat.reduceLT, reduceIte, stV]
      exact ⟨rfl, Nat.zero_le _, hE0, ⟨_, rfl, hsa.ext hE0⟩⟩
    · rintro i f' wo ⟨f4, f3, f5, hi, hEx, hr⟩
      simp only [VS, VD, SV, SL, T, Nat.reduceEqDiff, Nat.reduceAdd, Nat.reduceSub, Nat.reduceMul, Nat.reduceLeDiff, Nat.reduceLT, reduceIte, f5, f3, stV]
      refine cnd_d (fun hlt => ?_) (fun hlt => ?_)
      · have hi' : i < Lb.length := by omega
        obtain ⟨b, off, cs, e, fz, rfl, hb5, hle, hext, hc0, hc1⟩ := lnAt_get (hsb.ext hEx) hi'
        have htk : rJn La (Lb.take (i + 1)) = jstep (rJn La (Lb.take i)) Lb[i] := by
          rw [List.take_succ_eq_append_getElem hi', rJn, List.foldl_append]; rfl
        have hlen : (rJn La (Lb.take i)).length ≤ 20000 := by
          have := rJn_len La (Lb.take i) La
          simp only [List.length_take] at this
          omega
        obtain ⟨a2, c2, f2⟩ := hr.form
        rw [f2] at hr
        generalize Lb[i] = x at *
        generalize rJn La (Lb.take i) = A at *
        simp only [VS, VD, SV, SL, T, Nat.reduceEqDiff, Nat.reduceAdd, Nat.reduceSub, Nat.reduceMul, Nat.reduceLeDiff, Nat.reduceLT, reduceIte, f5, f3, hb5, hle, hext, Int.toNat_natCast, stV, f2]
        refine ⟨by omega, ?_⟩
        have hEb := (Ext.refl wo).alloc tomb
        refine (rAge_spec s y l false A (by omega) _ x.1 _ (hr.ext hEb)).mono ?_
        rintro _ w2 ⟨rfl, hE2⟩
        have hE3 := hEb.trans hE2
        have hr2 := hr.ext hE3
        simp only [VS, VD, SV, SL, T, Nat.reduceEqDiff, Nat.reduceAdd, Nat.reduceSub, Nat.reduceMul, Nat.reduceLeDiff, Nat.reduceLT, reduceIte]
        unfold jstep at htk
        by_cases h1 : rAge A x.1 < 0
        · rw [decide_eq_true h1]
          rw [if_pos (.inl h1)] at htk
          simp only [VS, VD, SV, SL, T, Nat.reduceEqDiff, Nat.reduceAdd, Nat.reduceSub, Nat.reduceMul, Nat.reduceLeDiff, Nat.reduceLT, reduceIte, f2, stV]
          refine (Put_spec s y l false A (by omega) _ x.1 x.2 w2 hr2).mono ?_
          rintro v3 w3 ⟨hr3, hE4⟩
          obtain ⟨a3, c3, rfl⟩ := hr3.form
          simp only [VS, VD, SV, SL, T, Nat.reduceEqDiff, Nat.reduceAdd, Nat.reduceSub, Nat.reduceMul, Nat.reduceLeDiff, Nat.reduceLT, reduceIte, f2, f5, stV]
          exact ⟨by omega, i + 1, ⟨f4, f3, by simp, by omega, (hEx.trans hE3).trans hE4, by rw [htk]; exact hr3⟩, by omega⟩
        · rw [decide_eq_false h1]
          simp only [VS, VD, SV, SL, T, Nat.reduceEqDiff, Nat.reduceAdd, Nat.reduceSub, Nat.reduceMul, Nat.reduceLeDiff, Nat.reduceLT, reduceIte]
          by_cases h2 : x.2 < rAge A x.1
          · rw [decide_eq_true h2]
            rw [if_pos (.inr h2)] at htk
            simp only [VS, VD, SV, SL, T, Nat.reduceEqDiff, Nat.reduceAdd, Nat.reduceSub, Nat.reduceMul, Nat.reduceLeDiff, Nat.reduceLT, reduceIte, f2, stV]
            refine (Put_spec s y l false A (by omega) _ x.1 x.2 w2 hr2).mono ?_
            rintro v3 w3 ⟨hr3, hE4⟩
            obtain ⟨a3, c3, rfl⟩ := hr3.form
            simp only [VS, VD, SV, SL, T, Nat.reduceEqDiff, Nat.reduceAdd, Nat.reduceSub, Nat.reduceMul, Nat.reduceLeDiff, Nat.reduceLT, reduceIte, f2, f5, stV]
            exact ⟨by omega, i + 1, ⟨f4, f3, by simp, by omega, (hEx.trans hE3).trans hE4, by rw [htk]; exact hr3⟩, by omega⟩
          · rw [decide_eq_false h2]
            rw [if_neg (by rintro (h | h) <;> omega)] at htk
            simp only [VS, VD, SV, SL, T, Nat.reduceEqDiff, Nat.reduceAdd, Nat.reduceSub, Nat.reduceMul, Nat.reduceLeDiff, Nat.reduceLT, reduceIte, f5]
            exact ⟨by omega, i + 1, ⟨f4, f3, by simp, by omega, hEx.trans hE3, by rw [htk, f2]; exact hr2⟩, by omega⟩
      · rw [List.take_of_length_le (by omega)] at hr
        obtain ⟨a2, c2, f2⟩ := hr.form
        rw [f2] at hr
        simp only [VS, VD, SV, SL, T, Nat.reduceEqDiff, Nat.reduceAdd, Nat.reduceSub, Nat.reduceMul, Nat.reduceLeDiff, Nat.reduceLT, reduceIte, f2, f4, stV]
        exact hΨ _ _ ⟨by rw [hj]; exact hr, hEx⟩
theorem jn_comm (a b : Option Int) : jn a b = jn b a := by
  cases a <;> cases b <;> simp only [jn, Option.some.injEq]
  omega
theorem joinS_comm (M N : Option (Int → Option Int)) : joinS M N = joinS N M := by
  cases M <;> cases N <;> simp only [joinS, Option.bind_some, Option.bind_none, Option.map_some, Option.map_none, Option.some.injEq]
  funext k
  exact jn_comm _ _
theorem joinS_idem (M : Option (Int → Option Int)) : joinS M M = M := by
  cases M with
  | none => rfl
  | some m =>
    simp only [joinS, Option.bind_some, Option.map_some, Option.some.injEq]
    funext k
    show jn (m k) (m k) = m k
    cases m k <;> simp [jn]
theorem joinS_abs (M N : Option (Int → Option Int)) : joinS (joinS M N) M = joinS M N := by
  cases M with
  | none => rfl
  | some m =>
    cases N with
    | none => rfl
    | some n =>
      simp only [joinS, Option.bind_some, Option.map_some, Option.some.injEq]
      funext k
      show jn (jn (m k) (n k)) (m k) = jn (m k) (n k)
      cases m k <;> cases n k <;> simp only [jn, Option.some.injEq]
      · omega
      · omega
theorem Lim_join {M N : Option (Int → Option Int)} (h : Lim M) (k : Lim N) : Lim (joinS M N) := by
  intro m' hm' j hj
  cases M with
  | none => cases hm'
  | some m =>
    cases N with
    | none => cases hm'
    | some n =>
      simp only [joinS, Option.bind_some, Option.map_some, Option.some.injEq] at hm'
      subst hm'
      simp only [joinM] at hj
      cases hm : m j with
      | some v => exact h m rfl j (by rw [hm]; simp)
      | none =>
        rw [hm] at hj
        exact k n rfl j hj
theorem DesP_join {M N : Option (Int → Option Int)} {s : Int} {ll : List (List Int)} (h : DesP M s ll ∨ DesP N s ll) : DesP (joinS M N) s ll := by
  have mono : ∀ (m n : Int → Option Int), (DesP (some m) s ll) → DesP (some (joinM m n)) s ll := by
    rintro m n ⟨h1, h2 | h2⟩
    · cases h2
    · refine ⟨h1, .inr fun i l hl j k hj hk => ?_⟩
      obtain ⟨q1, q2⟩ := h2 i l hl j k hj hk
      simp only [ageM, joinM] at q1 q2 ⊢
      by_cases hk0 : k < 0
      · rw [if_pos hk0] at q1; cases q1
      · rw [if_neg hk0] at q1 q2 ⊢
        cases hm : m k with
        | none => rw [hm] at q1; cases q1
        | some v =>
          rw [hm] at q2
          simp only [] at q2
          cases n k with
          | none => exact ⟨rfl, q2⟩
          | some v' => simp only [jn]; exact ⟨trivial, by omega⟩
  cases M with
  | none =>
    rcases h with ⟨h1, _⟩ | ⟨h1, _⟩ <;> exact ⟨h1, .inl rfl⟩
  | some m =>
    cases N with
    | none => rcases h with ⟨h1, _⟩ | ⟨h1, _⟩ <;> exact ⟨h1, .inl rfl⟩
    | some n =>
      rcases h with h | h
      · exact mono m n h
      · have := mono n m h
        have e : joinM n m = joinM m n := by funext k; exact jn_comm _ _
        rw [e] at this
        exact this
set_option maxHeartbeats 2000000 in
set_option maxRecDepth 100000 in
theorem MayJoins_spec (s y l : Int) (av : Value) (A : List Stp) (bv : Value) (B : List Stp) (lv : Value) (Q : List Int) (w : World) (ha : StpsAt w av A) (hb : StpsAt w bv B) (h : SlAt w lv 1 (Q.map fun n => [.int .u16 n])) (hM : Q.length ≤ maxLen ∧ ∀ n ∈ Q, 0 ≤ n ∧ n ≤ 65535) :
    VRet Try.prog 10 #[cfgV s y l, av, bv, lv] w fun v w' => v = .bool true ∧ Ext w w' := by
  obtain ⟨aa, ac, rfl⟩ := ha.form
  obtain ⟨ba, bc, rfl⟩ := hb.form
  obtain ⟨la, lc, rfl⟩ := h.form
  rw [List.length_map] at h ⊢
  refine VRet_start T.mo ok10 rfl fun Ψ hΨ => ?_; simp only [vc10, rs10]
  simp only [VS, VD, SV, SL, T, Nat.reduceEqDiff, Nat.reduceAdd, Nat.reduceSub, Nat.reduceMul, Nat.reduceLeDiff, Nat.reduceLT, reduceIte, cfgV]
  refine (awake_spec _).mono ?_
  rintro _ w1 ⟨rfl, hE⟩
  replace hE := ((Ext.refl w).alloc tomb).trans hE
  simp only [VS, VD, SV, SL, T, Nat.reduceEqDiff, Nat.reduceAdd, Nat.reduceSub, Nat.reduceMul, Nat.reduceLeDiff, Nat.reduceLT, reduceIte]
  refine (small_spec s y l _ A _ (ha.ext hE)).mono ?_
  rintro _ w2 ⟨⟨r, rfl, hr⟩, hE2⟩
  replace hE := hE.trans hE2
  cases r with
  | false =>
    simp only [VS, VD, SV, SL, T, Nat.reduceEqDiff, Nat.reduceAdd, Nat.reduceSub, Nat.reduceMul, Nat.reduceLeDiff, Nat.reduceLT, reduceIte]
    refine (awake_spec _).mono ?_
    rintro _ w3 ⟨rfl, hE3⟩
    simp only [VS, VD, SV, SL, T, Nat.reduceEqDiff, Nat.reduceAdd, Nat.reduceSub, Nat.reduceMul, Nat.reduceLeDiff, Nat.reduceLT, reduceIte]
    exact hΨ _ _ ⟨rfl, hE.trans hE3⟩
  | true =>
    have hsa := hr.1 rfl
    simp only [VS, VD, SV, SL, T, Nat.reduceEqDiff, Nat.reduceAdd, Nat.reduceSub, Nat.reduceMul, Nat.reduceLeDiff, Nat.reduceLT, reduceIte]
    refine (small_spec s y l _ B _ (hb.ext hE)).mono ?_
    rintro _ w3 ⟨⟨r, rfl, hr⟩, hE3⟩
    replace hE := hE.trans hE3
    cases r with
    | false =>
      simp only [VS, VD, SV, SL, T, Nat.reduceEqDiff, Nat.reduceAdd, Nat.reduceSub, Nat.reduceMul, Nat.reduceLeDiff, Nat.reduceLT, reduceIte]
      refine (awake_spec _).mono ?_
      rintro _ w3 ⟨rfl, hE3⟩
      simp only [VS, VD, SV, SL, T, Nat.reduceEqDiff, Nat.reduceAdd, Nat.reduceSub, Nat.reduceMul, Nat.reduceLeDiff, Nat.reduceLT, reduceIte]
      exact hΨ _ _ ⟨rfl, hE.trans hE3⟩
    | true =>
      have hsb := hr.1 rfl
      have hv := hsa.1
      have hp := Geo_spec hv
      simp only [VS, VD, SV, SL, T, Nat.reduceEqDiff, Nat.reduceAdd, Nat.reduceSub, Nat.reduceMul, Nat.reduceLeDiff, Nat.reduceLT, reduceIte]
      by_cases h40 : (40 : Int) < Q.length
      · rw [decide_eq_true h40]
        simp only [VS, VD, SV, SL, T, Nat.reduceEqDiff, Nat.reduceAdd, Nat.reduceSub, Nat.reduceMul, Nat.reduceLeDiff, Nat.reduceLT, reduceIte]
        refine (awake_spec _).mono ?_
        rintro _ w3 ⟨rfl, hE3⟩
        simp only [VS, VD, SV, SL, T, Nat.reduceEqDiff, Nat.reduceAdd, Nat.reduceSub, Nat.reduceMul, Nat.reduceLeDiff, Nat.reduceLT, reduceIte]
        exact hΨ _ _ ⟨rfl, hE.trans hE3⟩
      rw [decide_eq_false h40]
      simp only [VS, VD, SV, SL, T, Nat.reduceEqDiff, Nat.reduceAdd, Nat.reduceSub, Nat.reduceMul, Nat.reduceLeDiff, Nat.reduceLT, reduceIte]
      refine (after_spec s y l _ A hsa _ (ha.ext hE)).mono ?_
      rintro _ w5 ⟨⟨x, xr, rfl, hx, hxr⟩, hE5⟩
      replace hE := (hE.trans hE5)
      obtain ⟨u1, a1, n1, c1, rfl⟩ := hx.form
      obtain ⟨a2, c2, rfl⟩ := hxr.form
      simp only [VS, VD, SV, SL, T, Nat.reduceEqDiff, Nat.reduceAdd, Nat.reduceSub, Nat.reduceMul, Nat.reduceLeDiff, Nat.reduceLT, reduceIte, stV]
      have hE6 := ((Ext.refl w5).alloc tomb).alloc tomb
      replace hE := hE.trans hE6
      replace hx := hx.ext hE6
      replace hxr := hxr.ext hE6
      generalize (w5.alloc tomb).alloc tomb = w6 at *
      refine (after_spec s y l _ B hsb _ (hb.ext hE)).mono ?_
      rintro _ w7 ⟨⟨z, zr, rfl, hy, hyr⟩, hE7⟩
      replace hE := (hE.trans hE7)
      obtain ⟨u3, a3, n3, c3, rfl⟩ := hy.form
      obtain ⟨a4, c4, rfl⟩ := hyr.form
      simp only [VS, VD, SV, SL, T, Nat.reduceEqDiff, Nat.reduceAdd, Nat.reduceSub, Nat.reduceMul, Nat.reduceLeDiff, Nat.reduceLT, reduceIte, stV]
      have hE8 := ((Ext.refl w7).alloc tomb).alloc tomb
      replace hE := hE.trans hE8
      replace hx := hx.ext (hE7.trans hE8)
      replace hxr := hxr.ext (hE7.trans hE8)
      replace hy := hy.ext hE8
      replace hyr := hyr.ext hE8
      generalize (w7.alloc tomb).alloc tomb = w8 at *
      obtain ⟨sA, bA, lA, nA⟩ := run_all hsa
      obtain ⟨sB, bB, lB, nB⟩ := run_all hsb
      generalize runS s y A = M at *
      generalize runS s y B = N at *
      generalize hr1 : (runR s y A).1 = ra at *
      generalize hr2 : (runR s y A).2 = La at *
      generalize hr3 : (runR s y B).1 = rb at *
      generalize hr4 : (runR s y B).2 = Lb at *
      clear hr1 hr2 hr3 hr4
      refine (Join_spec s y l hv M N bB _ _ _ hx hy).mono ?_
      rintro _ w9 ⟨hz, hE9⟩
      obtain ⟨u5, a5, n5, c5, rfl⟩ := hz.form
      simp only [VS, VD, SV, SL, T, Nat.reduceEqDiff, Nat.reduceAdd, Nat.reduceSub, Nat.reduceMul, Nat.reduceLeDiff, Nat.reduceLT, reduceIte, stV]
      have hE10 := hE9.alloc tomb
      replace hE := hE.trans hE10
      replace hx := hx.ext hE10
      replace hxr := hxr.ext hE10
      replace hy := hy.ext hE10
      replace hyr := hyr.ext hE10
      replace hz := hz.ext ((Ext.refl _).alloc tomb)
      generalize w9.alloc tomb = w10 at *
      have hsJ := Same.join sA sB bA bB
      have bJ := BdS_join bA bB
      have lJ := Lim_join lA lB
      have nJ : (jnR (ra, La) (rb, Lb)).2.length ≤ 10000 := by
        unfold jnR
        split
        · simp
        · have := rJn_len La Lb La
          simp only []; omega
      generalize hJ : jnR (ra, La) (rb, Lb) = J at *
      refine DW_intro (fun n _ v w' => match n with | 3 => RefAt w' v s y l J.1 J.2 | 10 => MayAt w' v s y l (joinS M N) | 17 => MayAt w' v s y l M | 25 => MayAt w' v s y l (joinS M N) | _ => v = .bool true) ?_
      simp only [VS, VD, SV, SL, T, Nat.reduceEqDiff, Nat.reduceAdd, Nat.reduceSub, Nat.reduceMul, Nat.reduceLeDiff, Nat.reduceLT, reduceIte, stV]
      refine rY_ph rfl rfl (fun _ _ _ h hE => RefAt.ext h hE) (fun w' hE' _ => ?_) ?_
      · simp only [VS, VD, SV, SL, T, Nat.reduceEqDiff, Nat.reduceAdd, Nat.reduceSub, Nat.reduceMul, Nat.reduceLeDiff, Nat.reduceLT, reduceIte]
        refine (rJoin_spec s y l ra rb La Lb (by omega) (by omega) _ _ w' (hxr.ext hE') (hyr.ext hE')).mono ?_
        rintro v w13 ⟨hj, hE13⟩
        rw [hJ] at hj
        exact ⟨hE13, hj⟩
      rintro v3 ⟨_, _, _, h3⟩
      obtain ⟨a6, c6, rfl⟩ := RefAt.form h3
      simp only [VS, VD, SV, SL, T, Nat.reduceEqDiff, Nat.reduceAdd, Nat.reduceSub, Nat.reduceMul, Nat.reduceLeDiff, Nat.reduceLT, reduceIte, stV]
      refine rY_ph rfl rfl (fun _ _ _ h _ => h) (fun w' hE' hFD => ?_) ?_
      · have h3' : RefAt w' (stV s y l J.1 (.slice a6 J.2.length c6)) s y l J.1 J.2 := hFD 3 (by simp)
        simp only [VS, VD, SV, SL, T, Nat.reduceEqDiff, Nat.reduceAdd, Nat.reduceSub, Nat.reduceMul, Nat.reduceLeDiff, Nat.reduceLT, reduceIte]
        refine (same_spec s y l hv _ bJ lJ J.1 J.2 hsJ (by omega) _ _ w' (hz.ext hE') h3').mono ?_
        rintro _ w13 ⟨rfl, hE13⟩
        exact ⟨hE13, rfl⟩
      rintro v4 ⟨_, _, _, h4⟩
      obtain rfl : v4 = .bool true := h4
      simp only [VS, VD, SV, SL, T, Nat.reduceEqDiff, Nat.reduceAdd, Nat.reduceSub, Nat.reduceMul, Nat.reduceLeDiff, Nat.reduceLT, reduceIte, Bool.not_true, stV]
      refine rY_ph rfl rfl (fun _ _ _ h hE => MayAt.ext h hE) (fun w' hE' _ => ?_) ?_
      · simp only [VS, VD, SV, SL, T, Nat.reduceEqDiff, Nat.reduceAdd, Nat.reduceSub, Nat.reduceMul, Nat.reduceLeDiff, Nat.reduceLT, reduceIte]
        refine (Join_spec s y l hv N M bA _ _ w' (hy.ext hE') (hx.ext hE')).mono ?_
        rintro v w13 ⟨hj, hE13⟩
        rw [joinS_comm N M] at hj
        exact ⟨hE13, hj⟩
      rintro v10 ⟨_, _, _, h10⟩
      obtain ⟨u7, a7, n7, c7, rfl⟩ := MayAt.form h10
      simp only [VS, VD, SV, SL, T, Nat.reduceEqDiff, Nat.reduceAdd, Nat.reduceSub, Nat.reduceMul, Nat.reduceLeDiff, Nat.reduceLT, reduceIte, stV]
      refine rY_ph rfl rfl (fun _ _ _ h _ => h) (fun w' hE' hFD => ?_) ?_
      · have h10' : MayAt w' (stV s y l u7 (.slice a7 n7 c7)) s y l (joinS M N) := hFD 10 (by simp)
        simp only [VS, VD, SV, SL, T, Nat.reduceEqDiff, Nat.reduceAdd, Nat.reduceSub, Nat.reduceMul, Nat.reduceLeDiff, Nat.reduceLT, reduceIte]
        refine (Equal_spec s y l hv _ _ _ w' (hz.ext hE') h10').mono ?_
        rintro _ w13 ⟨rfl, hE13⟩
        exact ⟨hE13, rfl⟩
      rintro v11 ⟨_, _, _, h11⟩
      obtain rfl : v11 = .bool true := h11
      simp only [VS, VD, SV, SL, T, Nat.reduceEqDiff, Nat.reduceAdd, Nat.reduceSub, Nat.reduceMul, Nat.reduceLeDiff, Nat.reduceLT, reduceIte, Bool.not_true, stV]
      refine rY_ph rfl rfl (fun _ _ _ h hE => MayAt.ext h hE) (fun w' hE' _ => ?_) ?_
      · simp only [VS, VD, SV, SL, T, Nat.reduceEqDiff, Nat.reduceAdd, Nat.reduceSub, Nat.reduceMul, Nat.reduceLeDiff, Nat.reduceLT, reduceIte]
        refine (Join_spec s y l hv M M bA _ _ w' (hx.ext hE') (hx.ext hE')).mono ?_
        rintro v w13 ⟨hj, hE13⟩
        rw [joinS_idem M] at hj
        exact ⟨hE13, hj⟩
      rintro v17 ⟨_, _, _, h17⟩
      obtain ⟨u8, a8, n8, c8, rfl⟩ := MayAt.form h17
      simp only [VS, VD, SV, SL, T, Nat.reduceEqDiff, Nat.reduceAdd, Nat.reduceSub, Nat.reduceMul, Nat.reduceLeDiff, Nat.reduceLT, reduceIte, stV]
      refine rY_ph rfl rfl (fun _ _ _ h _ => h) (fun w' hE' hFD => ?_) ?_
      · have h17' : MayAt w' (stV s y l u8 (.slice a8 n8 c8)) s y l M := hFD 17 (by simp)
        simp only [VS, VD, SV, SL, T, Nat.reduceEqDiff, Nat.reduceAdd, Nat.reduceSub, Nat.reduceMul, Nat.reduceLeDiff, Nat.reduceLT, reduceIte]
        refine (Equal_spec s y l hv _ _ _ w' h17' (hx.ext hE')).mono ?_
        rintro _ w13 ⟨rfl, hE13⟩
        exact ⟨hE13, rfl⟩
      rintro v19 ⟨_, _, _, h19⟩
      obtain rfl : v19 = .bool true := h19
      simp only [VS, VD, SV, SL, T, Nat.reduceEqDiff, Nat.reduceAdd, Nat.reduceSub, Nat.reduceMul, Nat.reduceLeDiff, Nat.reduceLT, reduceIte, Bool.not_true, stV]
      refine rY_ph rfl rfl (fun _ _ _ h hE => MayAt.ext h hE) (fun w' hE' _ => ?_) ?_
      · simp only [VS, VD, SV, SL, T, Nat.reduceEqDiff, Nat.reduceAdd, Nat.reduceSub, Nat.reduceMul, Nat.reduceLeDiff, Nat.reduceLT, reduceIte]
        refine (Join_spec s y l hv (joinS M N) M bA _ _ w' (hz.ext hE') (hx.ext hE')).mono ?_
        rintro v w13 ⟨hj, hE13⟩
        rw [joinS_abs M N] at hj
        exact ⟨hE13, hj⟩
      rintro v25 ⟨_, _, _, h25⟩
      obtain ⟨u9, a9, n9, c9, rfl⟩ := MayAt.form h25
      simp only [VS, VD, SV, SL, T, Nat.reduceEqDiff, Nat.reduceAdd, Nat.reduceSub, Nat.reduceMul, Nat.reduceLeDiff, Nat.reduceLT, reduceIte, stV]
      intro w11 hE11 hF11
      have h25' : MayAt w11 (stV s y l u9 (.slice a9 n9 c9)) s y l (joinS M N) := FA_head hF11
      simp only [VS, VD, SV, SL, T, Nat.reduceEqDiff, Nat.reduceAdd, Nat.reduceSub, Nat.reduceMul, Nat.reduceLeDiff, Nat.reduceLT, reduceIte]
      refine (Equal_spec s y l hv _ _ _ w11 h25' (hz.ext hE11)).mono ?_
      rintro _ w12 ⟨rfl, hE12⟩
      have hE1112 := hE11.trans hE12
      replace hE := hE.trans hE1112
      replace hx := hx.ext hE1112
      replace hy := hy.ext hE1112
      replace hz := hz.ext hE1112
      clear hxr hyr
      simp only [VS, VD, SV, SL, T, Nat.reduceEqDiff, Nat.reduceAdd, Nat.reduceSub, Nat.reduceMul, Nat.reduceLeDiff, Nat.reduceLT, reduceIte, Bool.not_true]
      refine (C.New_spec s y l _).mono ?_
      rintro v13 w13 (⟨hg, _⟩ | ⟨_, p, rfl, hC, hE13⟩)
      · rw [hv] at hg; cases hg
      have hF13 : ∀ b, (w12.heap.size ≤ b ∧ b < w13.heap.size) → w.heap.size ≤ b := fun b hb => Nat.le_trans hE.size hb.1
      have hnew := hid_new (F := fun b => w12.heap.size ≤ b ∧ b < w13.heap.size) hE13 (fun b hb => hb.1)
      replace hE := hE.trans hE13
      replace hx := hx.per hnew
      replace hy := hy.per hnew
      replace hz := hz.per hnew
      rw [show List.replicate s.toNat [] = stS s y fun _ => [] from C.emp_stS s y] at hC
      simp only [VS, VD, SV, SL, T, Nat.reduceEqDiff, Nat.reduceAdd, Nat.reduceSub, Nat.reduceMul, Nat.reduceLeDiff, Nat.reduceLT, reduceIte, stV, ne_eq, not_true_eq_false, decide_false]
      refine LoopP_intro (α := Nat) (fun i f' w' => f' 4 = .agg #[.int .i64 s, .int .i64 y, .int .i64 l] ∧ f' 9 = stV s y l u1 (.slice a1 n1 c1) ∧ f' 11 = stV s y l u3 (.slice a3 n3 c3) ∧ f' 13 = stV s y l u5 (.slice a5 n5 c5) ∧ f' 14 = ptr p ∧ f' 90 = .slice la Q.length lc ∧ f' 91 = .int .i64 Q.length ∧ f' 92 = .int .i64 i ∧ i ≤ Q.length ∧ Ext w w' ∧
        ∃ F H, MayAt (hid F w') (stV s y l u1 (.slice a1 n1 c1)) s y l M ∧ MayAt (hid F w') (stV s y l u3 (.slice a3 n3 c3)) s y l N ∧ MayAt (hid F w') (stV s y l u5 (.slice a5 n5 c5)) s y l (joinS M N) ∧ CacheAt w' F p s y l (stS s y H) ∧ (∀ b, F b → w.heap.size ≤ b)) (fun i => Q.length - i) 0 ?_ ?_
      · simp only [VS, VD, SV, SL, T, Nat.reduceEqDiff, Nat.reduceAdd, Nat.reduceSub, Nat.reduceMul, Nat.reduceLeDiff, Nat.reduceLT, reduceIte, stV]
        exact ⟨rfl, Nat.zero_le _, hE, _, _, hx, hy, hz, hC, hF13⟩
      · clear hx hy hz hC hF13 hE
        rintro i f' wo ⟨f4, f9, f11, f13, f14, f90, f91, f92, hi, hEx, F, H, hx, hy, hz, hC, hF⟩
        simp only [VS, VD, SV, SL, T, Nat.reduceEqDiff, Nat.reduceAdd, Nat.reduceSub, Nat.reduceMul, Nat.reduceLeDiff, Nat.reduceLT, reduceIte, f92, f91]
        refine cnd_d (fun hlt => ?_) (fun hlt => ?_)
        · have hi' : i < Q.length := by omega
          obtain ⟨b, off, cs, e, fz, rfl, hb5, hcs⟩ := sl_get1 (h.ext hEx) hi'
          have hn := hM.2 _ (List.getElem_mem hi')
          generalize Q[i] = n at *
          simp only [VS, VD, SV, SL, T, Nat.reduceEqDiff, Nat.reduceAdd, Nat.reduceSub, Nat.reduceMul, Nat.reduceLeDiff, Nat.reduceLT, reduceIte, f90, f92, Int.toNat_natCast, hb5, hcs, f14, f4]
          refine ⟨by omega, by omega, ?_⟩
          refine (touch_spec hv hC n (by omega)).mono ?_
          rintro _ w7 ⟨F7, hC7, hm7⟩
          have hE7 := hm7.ext hEx hF
          have hF7 := hm7.above hEx.size hF
          have hpm := mv_hid hm7
          replace hx := hx.per hpm
          replace hy := hy.per hpm
          replace hz := hz.per hpm
          generalize addH s l H (n * l) = H' at *
          have hxo := hx.per (hid_per F7 w7)
          have hyo := hy.per (hid_per F7 w7)
          have hzo := hz.per (hid_per F7 w7)
          have hll : (stS s y H').length ≤ 1000000 ∧ ∀ l ∈ stS s y H', l.length ≤ 1000000 := by
            rw [C.stS_len]
            refine ⟨by omega, fun li hli => ?_⟩
            obtain ⟨j, hj, e⟩ := List.getElem_of_mem hli
            have := (C.stS_some (show (stS s y H')[j]? = some li by rw [List.getElem?_eq_getElem hj, e])).2
            rw [this]
            have : ((dst (H' j)).take y.toNat).length ≤ y.toNat := List.length_take_le ..
            omega
          -- the end of a round
          have fin : ∀ wz, Ext w7 wz → ∃ x', (f' 4 = .agg #[.int .i64 s, .int .i64 y, .int .i64 l] ∧ f' 9 = stV s y l u1 (.slice a1 n1 c1) ∧ f' 11 = stV s y l u3 (.slice a3 n3 c3) ∧ f' 13 = stV s y l u5 (.slice a5 n5 c5) ∧ f' 14 = ptr p ∧ f' 90 = .slice (some ⟨b, off, none⟩) Q.length lc ∧ f' 91 = .int .i64 Q.length ∧ Value.int .i64 ((i : Int) + 1) = .int .i64 (x' : Nat) ∧ x' ≤ Q.length ∧ Ext w wz ∧
              ∃ F H, MayAt (hid F wz) (stV s y l u1 (.slice a1 n1 c1)) s y l M ∧ MayAt (hid F wz) (stV s y l u3 (.slice a3 n3 c3)) s y l N ∧ MayAt (hid F wz) (stV s y l u5 (.slice a5 n5 c5)) s y l (joinS M N) ∧ CacheAt wz F p s y l (stS s y H) ∧ (∀ b, F b → w.heap.size ≤ b)) ∧ Q.length - x' < Q.length - i := by
            intro wz hEz
            have hp := hid_ext (F := F7) hEz
            exact ⟨i + 1, ⟨f4, f9, f11, f13, f14, f90, f91, by simp, by omega, hE7.trans hEz, F7, H', hx.per hp, hy.per hp, hz.per hp, hC7.ext hEz, hF7⟩, by omega⟩
          simp only [VS, VD, SV, SL, T, Nat.reduceEqDiff, Nat.reduceAdd, Nat.reduceSub, Nat.reduceMul, Nat.reduceLeDiff, Nat.reduceLT, reduceIte, f9, f14]
          refine DW_intro (fun n _ v w' => match n with | 3 => ∃ r : Bool, v = .bool r ∧ (r = true ↔ DesP M s (stS s y H')) | 8 => ∃ r : Bool, v = .bool r ∧ (r = true ↔ DesP N s (stS s y H')) | _ => IntssAt w' v (stS s y H')) ?_
          simp only [VS, VD, SV, SL, T, Nat.reduceEqDiff, Nat.reduceAdd, Nat.reduceSub, Nat.reduceMul, Nat.reduceLeDiff, Nat.reduceLT, reduceIte, f9, f14, stV]
          refine rY_ph rfl rfl (fun _ _ _ h hE => IntssAt.ext h hE) (fun w' hE' _ => ?_) ?_
          · simp only [VS, VD, SV, SL, T, Nat.reduceEqDiff, Nat.reduceAdd, Nat.reduceSub, Nat.reduceMul, Nat.reduceLeDiff, Nat.reduceLT, reduceIte]
            refine (C.Lines_spec (hC7.ext hE')).mono ?_
            rintro v12 w13 ⟨hL13, hE13⟩
            exact ⟨hE13, hL13⟩
          rintro v2 _
          simp only [VS, VD, SV, SL, T, Nat.reduceEqDiff, Nat.reduceAdd, Nat.reduceSub, Nat.reduceMul, Nat.reduceLeDiff, Nat.reduceLT, reduceIte]
          refine rY_ph rfl rfl (fun _ _ _ h _ => h) (fun w' hE' hFD => ?_) ?_
          · have h2' : IntssAt w' v2 (stS s y H') := hFD 2 (by simp)
            simp only [VS, VD, SV, SL, T, Nat.reduceEqDiff, Nat.reduceAdd, Nat.reduceSub, Nat.reduceMul, Nat.reduceLeDiff, Nat.reduceLT, reduceIte]
            refine (Describes_spec s y l hv M _ _ _ hll w' (hxo.ext hE') h2').mono ?_
            rintro _ w13 ⟨⟨r, rfl, hr⟩, hE13⟩
            exact ⟨hE13, r, rfl, hr⟩
          rintro v3 ⟨_, _, _, h3⟩
          obtain ⟨r1, rfl, hr1⟩ : ∃ r : Bool, v3 = .bool r ∧ (r = true ↔ DesP M s (stS s y H')) := h3
          cases r1 with
          | true =>
            have hdz := DesP_join (N := N) (.inl (hr1.1 rfl))
            simp only [VS, VD, SV, SL, T, Nat.reduceEqDiff, Nat.reduceAdd, Nat.reduceSub, Nat.reduceMul, Nat.reduceLeDiff, Nat.reduceLT, reduceIte, f13, f14, stV]
            refine rY_ph rfl rfl (fun _ _ _ h hE => IntssAt.ext h hE) (fun w' hE' _ => ?_) ?_
            · simp only [VS, VD, SV, SL, T, Nat.reduceEqDiff, Nat.reduceAdd, Nat.reduceSub, Nat.reduceMul, Nat.reduceLeDiff, Nat.reduceLT, reduceIte]
              refine (C.Lines_spec (hC7.ext hE')).mono ?_
              rintro v12 w13 ⟨hL13, hE13⟩
              exact ⟨hE13, hL13⟩
            rintro v13 _
            simp only [VS, VD, SV, SL, T, Nat.reduceEqDiff, Nat.reduceAdd, Nat.reduceSub, Nat.reduceMul, Nat.reduceLeDiff, Nat.reduceLT, reduceIte]
            intro w8 hE8 hF8
            have h13 : IntssAt w8 v13 (stS s y H') := FA_head hF8
            simp only [VS, VD, SV, SL, T, Nat.reduceEqDiff, Nat.reduceAdd, Nat.reduceSub, Nat.reduceMul, Nat.reduceLeDiff, Nat.reduceLT, reduceIte]
            refine (Describes_spec s y l hv _ _ _ _ hll w8 (hzo.ext hE8) h13).mono ?_
            rintro _ w14 ⟨⟨r, rfl, hr⟩, hE14⟩
            obtain rfl : r = true := hr.2 hdz
            simp only [VS, VD, SV, SL, T, Nat.reduceEqDiff, Nat.reduceAdd, Nat.reduceSub, Nat.reduceMul, Nat.reduceLeDiff, Nat.reduceLT, reduceIte, Bool.not_true, f92]
            exact ⟨by omega, fin _ (hE8.trans hE14)⟩
          | false =>
            simp only [VS, VD, SV, SL, T, Nat.reduceEqDiff, Nat.reduceAdd, Nat.reduceSub, Nat.reduceMul, Nat.reduceLeDiff, Nat.reduceLT, reduceIte, f11, f14, stV]
            refine rY_ph rfl rfl (fun _ _ _ h hE => IntssAt.ext h hE) (fun w' hE' _ => ?_) ?_
            · simp only [VS, VD, SV, SL, T, Nat.reduceEqDiff, Nat.reduceAdd, Nat.reduceSub, Nat.reduceMul, Nat.reduceLeDiff, Nat.reduceLT, reduceIte]
              refine (C.Lines_spec (hC7.ext hE')).mono ?_
              rintro v12 w13 ⟨hL13, hE13⟩
              exact ⟨hE13, hL13⟩
            rintro v7 _
            simp only [VS, VD, SV, SL, T, Nat.reduceEqDiff, Nat.reduceAdd, Nat.reduceSub, Nat.reduceMul, Nat.reduceLeDiff, Nat.reduceLT, reduceIte]
            refine rY_ph rfl rfl (fun _ _ _ h _ => h) (fun w' hE' hFD => ?_) ?_
            · have h7' : IntssAt w' v7 (stS s y H') := hFD 7 (by simp)
              simp only [VS, VD, SV, SL, T, Nat.reduceEqDiff, Nat.reduceAdd, Nat.reduceSub, Nat.reduceMul, Nat.reduceLeDiff, Nat.reduceLT, reduceIte]
              refine (Describes_spec s y l hv N _ _ _ hll w' (hyo.ext hE') h7').mono ?_
              rintro _ w13 ⟨⟨r, rfl, hr⟩, hE13⟩
              exact ⟨hE13, r, rfl, hr⟩
            rintro v8 ⟨_, _, _, h8⟩
            obtain ⟨r2, rfl, hr2⟩ : ∃ r : Bool, v8 = .bool r ∧ (r = true ↔ DesP N s (stS s y H')) := h8
            cases r2 with
            | true =>
              have hdz := DesP_join (M := M) (.inr (hr2.1 rfl))
              simp only [VS, VD, SV, SL, T, Nat.reduceEqDiff, Nat.reduceAdd, Nat.reduceSub, Nat.reduceMul, Nat.reduceLeDiff, Nat.reduceLT, reduceIte, f13, f14, stV]
              refine rY_ph rfl rfl (fun _ _ _ h hE => IntssAt.ext h hE) (fun w' hE' _ => ?_) ?_
              · simp only [VS, VD, SV, SL, T, Nat.reduceEqDiff, Nat.reduceAdd, Nat.reduceSub, Nat.reduceMul, Nat.reduceLeDiff, Nat.reduceLT, reduceIte]
                refine (C.Lines_spec (hC7.ext hE')).mono ?_
                rintro v12 w13 ⟨hL13, hE13⟩
                exact ⟨hE13, hL13⟩
              rintro v13 _
              simp only [VS, VD, SV, SL, T, Nat.reduceEqDiff, Nat.reduceAdd, Nat.reduceSub, Nat.reduceMul, Nat.reduceLeDiff, Nat.reduceLT, reduceIte]
              intro w8 hE8 hF8
              have h13 : IntssAt w8 v13 (stS s y H') := FA_head hF8
              simp only [VS, VD, SV, SL, T, Nat.reduceEqDiff, Nat.reduceAdd, Nat.reduceSub, Nat.reduceMul, Nat.reduceLeDiff, Nat.reduceLT, reduceIte]
              refine (Describes_spec s y l hv _ _ _ _ hll w8 (hzo.ext hE8) h13).mono ?_
              rintro _ w14 ⟨⟨r, rfl, hr⟩, hE14⟩
              obtain rfl : r = true := hr.2 hdz
              simp only [VS, VD, SV, SL, T, Nat.reduceEqDiff, Nat.reduceAdd, Nat.reduceSub, Nat.reduceMul, Nat.reduceLeDiff, Nat.reduceLT, reduceIte, Bool.not_true, f92]
              exact ⟨by omega, fin _ (hE8.trans hE14)⟩
            | false =>
              simp only [VS, VD, SV, SL, T, Nat.reduceEqDiff, Nat.reduceAdd, Nat.reduceSub, Nat.reduceMul, Nat.reduceLeDiff, Nat.reduceLT, reduceIte]
              intro w8 hE8 hF8
              simp only [VS, VD, SV, SL, T, Nat.reduceEqDiff, Nat.reduceAdd, Nat.reduceSub, Nat.reduceMul, Nat.reduceLeDiff, Nat.reduceLT, reduceIte, f92]
              exact ⟨by omega, fin _ hE8⟩
        · simp only [VS, VD, SV, SL, T, Nat.reduceEqDiff, Nat.reduceAdd, Nat.reduceSub, Nat.reduceMul, Nat.reduceLeDiff, Nat.reduceLT, reduceIte]
          exact hΨ _ _ ⟨rfl, hEx⟩
end Go.Proofs.Ytndkadphpbnpeaa
