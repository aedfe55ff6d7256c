/-
  Regions that draw their order, by an invariant over the sets of operations that have run.
-/
import Derived.Test.YtblogcihkjhgkaaV7
set_option linter.unusedSimpArgs false
set_option linter.unusedVariables false
namespace Go.W
def stp (P : Program) (d : DI) (k : OK → Fr → World → Prop) (ok : OK) (f : Fr) (w : World) : Prop := match d.g with | none => vi P d.i k ok f w | some (t, want) => G (f t) want (vi P d.i k ok f w) (sk d.i k ok f w)
def DIv (P : Program) (l : List DI) (K : OK → Fr → World → Prop) (f : Fr) (w1 : World) : Prop :=
  ∃ I : (Nat → Bool) → OK → Fr → World → Prop, I (fun _ => false) ok0 f w1 ∧ (∀ d ∈ l, ∀ L ok f w, I L ok f w → L d.n = false → (∀ j ∈ d.deps, L j = true) → stp P d (fun ok f w => I (setL L d.n) ok f w) ok f w) ∧ ∀ L ok f w, (∀ d ∈ l, L d.n = true) → I L ok f w → K ok f w
set_option maxHeartbeats 1000000 in
theorem draw_soundI {P : Program} {n : Nat} {cx : Cx} {pe : List (Nat × Nat × Nat)} {T0 : Nat → Bool} {wa0 : World} {id : Nat} {ops : List Oper} {Q : Exit → Act → World → Prop} {K : Fr → World → Prop} (hm : P.follows .mixedOrders = true) (hc : cx.ok = true) (hall : ∀ o ∈ ops, operFits n o = true)
    (hQ : ∀ fa a wa, FRel n fa a → inV cx T0 wa0 K fa wa → Q .normal a wa) {dlist : List DI} {tl : List VO} (hd : cDraw P cx pe ops = some (dlist, tl)) {f : Fr} {w : World} {fa : Fr} {a : Act} {wa : World} (hF : FRel n fa a) (hR : VRx cx T0 wa0 ok0 f w fa wa)
    (h : DIv P dlist (fun ok f w => Y P tl K ok f w) f w.drew) : (Code.region id ops.toArray true).wp P Q a wa := by
  unfold cDraw at hd
  split at hd
  · rename_i vl hvl
    obtain ⟨hlen, hone⟩ := cList_get ops vl hvl
    have hget := mkAll_get vl (cDeps ops []) 0
    generalize mkAll vl (cDeps ops []) 0 = all at *
    simp only [] at hd
    generalize cSplit all = m at *
    split at hd
    · rename_i hok
      simp only [Bool.and_eq_true, decide_eq_true_eq] at hok
      obtain ⟨hok, hmle⟩ := hok
      simp only [Option.some.injEq, Prod.mk.injEq] at hd
      obtain ⟨rfl, rfl⟩ := hd
      simp only [drawOk, Bool.and_eq_true] at hok
      obtain ⟨hback, hok⟩ := hok
      -- what the check says of an operation
      have hchk : ∀ (i : Nat) (o : Oper) (d : DI), ops[i]? = some o → all[i]? = some d → (∀ j ∈ d.deps, j < i ∧ (j ∈ edg o ∨ ∃ k ∈ edg o, k < i ∧ j ∈ dpo all k)) ∧ ∀ j, j < i → j ∈ d.deps ∨ (i < m ∧ ∃ dj, all[j]? = some dj ∧ apart d dj = true) := by
        intro i o d ho hdd
        have := List.all_eq_true.1 hok i (by simp only [List.mem_range]; exact (List.getElem?_eq_some_iff.1 ho).1)
        simp only [ho, hdd, Bool.and_eq_true, List.all_eq_true, decide_eq_true_eq, Bool.or_eq_true, List.contains_eq_mem, List.any_eq_true, List.mem_range] at this
        refine ⟨fun j hj => ?_, fun j hj => ?_⟩
        · obtain ⟨h1, h2⟩ := this.1 j hj
          refine ⟨h1, ?_⟩
          rcases h2 with h2 | ⟨k, h3, h4, h5⟩
          · exact .inl h2
          · exact .inr ⟨k, h3, h4, h5⟩
        · rcases this.2 j hj with h1 | ⟨h1, h2⟩
          · exact .inl h1
          · cases hj' : all[j]? with
            | none => rw [hj'] at h2; cases h2
            | some dj => rw [hj'] at h2; exact .inr ⟨h1, dj, rfl, h2⟩
      have hn : ∀ (i : Nat) (d : DI), all[i]? = some d → d.n = i ∧ ∃ v, vl[i]? = some v ∧ d.g = v.g ∧ d.i = v.i := by
        intro i d hd
        rw [hget] at hd
        obtain ⟨v, hv, rfl⟩ := Option.map_eq_some_iff.1 hd
        exact ⟨by simp, v, hv, rfl, rfl⟩
      have hallLen : all.length = vl.length := by
        have h1 : ∀ i : Nat, all[i]? = none ↔ vl[i]? = none := fun i => by rw [hget]; simp
        have h2 := (h1 vl.length).2 (by simp)
        have h3 := (h1 all.length).1 (by simp)
        rw [List.getElem?_eq_none_iff] at h2 h3
        omega
      -- down-closed sets
      have hclosed : ∀ (L : Nat → Bool), (∀ (i : Nat) (o : Oper), ops[i]? = some o → L i = true → ∀ j ∈ edg o, L j = true) → ∀ i, ∀ j ∈ dpo all i, L i = true → L j = true := by
        intro L hL i
        induction i using Nat.strongRecOn with
        | _ i ih =>
          intro j hj hLi
          unfold dpo at hj
          split at hj
          · rename_i d hd
            have hil : i < ops.length := by have := (List.getElem?_eq_some_iff.1 hd).1; omega
            have ho := List.getElem?_eq_getElem hil
            obtain ⟨h1, h2⟩ := (hchk i _ d ho hd).1 j hj
            rcases h2 with h2 | ⟨k, h3, h4, h5⟩
            · exact hL i _ ho hLi j h2
            · exact ih k h4 j h5 (hL i _ ho hLi k h3)
          · simp at hj
      obtain ⟨J, hJ0, hJs, hJe⟩ := h
      have hdone : ∀ {L : Nat → Bool}, (∀ q, q < m → L q = true) → ∀ d ∈ all.take m, L d.n = true := by
        intro L hL d hd
        obtain ⟨q, hq, rfl⟩ := List.getElem_of_mem hd
        simp only [List.length_take] at hq
        rw [List.getElem_take, (hn q _ (List.getElem?_eq_getElem (by omega))).1]
        exact hL q (by omega)
      let I : (Nat → Bool) → Act → World → Prop := fun L a wa => (∀ (i : Nat) (o : Oper), ops[i]? = some o → L i = true → ∀ j ∈ edg o, L j = true) ∧ ∃ fa, FRel n fa a ∧
        (((∀ i, m ≤ i → L i = false) ∧ ∃ ok f w', VRx cx T0 wa0 ok f w' fa wa ∧ J L ok f w') ∨
          (∃ j, (∀ i, i < m + j → L i = true) ∧ (∀ i, m + j ≤ i → L i = false) ∧ ∃ ok f w', VRx cx T0 wa0 ok f w' fa wa ∧ Y P (vl.drop (m + j)) K ok f w'))
      refine XA_sound hm hback I ?_ ?_ ?_
      · refine ⟨fun i o _ h => (by cases h), fa, hF, .inl ⟨fun _ _ => rfl, ok0, f, w.drew, ?_, hJ0⟩⟩
        obtain ⟨T, B, hR⟩ := hR
        have := hR.move (Kp.drew hR.kp.tb)
        rw [tombW_drew, ← hR.tw] at this
        exact ⟨T, B, this⟩
      · intro L a wa i o hI ho hLi hpre Kc hKc
        obtain ⟨hL, fa, hF, hI⟩ := hI
        have hil : i < ops.length := (List.getElem?_eq_some_iff.1 ho).1
        have hda : all[i]? = some all[i] := List.getElem?_eq_getElem (by omega)
        obtain ⟨hn1, v, hv, hg, hi'⟩ := hn i _ hda
        have hcomp := hone i o v ho hv
        have hof := hall o (List.mem_of_getElem? ho)
        have hedge : ∀ j ∈ edg o, L j = true := by
          intro j hj
          simp only [edg, List.mem_map, List.mem_filter] at hj
          obtain ⟨e, ⟨he, hb⟩, rfl⟩ := hj
          exact hpre e he hb
        have hdepL : ∀ j ∈ all[i].deps, L j = true := by
          intro j hj
          obtain ⟨_, h2⟩ := (hchk i o _ ho hda).1 j hj
          rcases h2 with h2 | ⟨k, h3, _, h5⟩
          · exact hedge j h2
          · exact hclosed L hL k j h5 (hedge k h3)
        have hL' : ∀ (i' : Nat) (o' : Oper), ops[i']? = some o' → setL L i i' = true → ∀ j ∈ edg o', setL L i j = true := by
          intro i' o' ho' hi' j hj
          have hmono : ∀ j, L j = true → setL L i j = true := fun j hj => by simp only [setL]; split <;> simp_all
          by_cases e : i' = i
          · subst e
            rw [ho] at ho'
            simp only [Option.some.injEq] at ho'
            subst ho'
            exact hmono j (hedge j hj)
          · simp only [setL, if_neg e] at hi'
            exact hmono j (hL i' o' ho' hi' j hj)
        -- an operation of the tail
        have htail : ∀ j, (∀ q, q < m + j → L q = true) → (∀ q, m + j ≤ q → L q = false) → m ≤ i → i = m + j → ∀ ok f w', VRx cx T0 wa0 ok f w' fa wa → Y P (vl.drop (m + j)) K ok f w' →
            if Region.wanted o (yielded ops.toArray a.tmps) then o.wp P a wa Kc Q else Kc (a.put o.dst undef) wa := by
          intro j h1 h2 hmi hij ok f w' hR hY
          rw [← hij, List.drop_eq_getElem_cons (by omega : i < vl.length), Y_cons] at hY
          have hvi : vl[i]'(by omega) = v := by
            rw [List.getElem?_eq_getElem (by omega)] at hv; exact Option.some.inj hv
          rw [hvi] at hY
          refine one_sound hc hall hof hcomp hF hR hY fun fa' a' wa' hF' ⟨ok', f', w'', hR', hk⟩ => hKc _ _ ⟨hL', fa', hF', .inr ⟨j + 1, fun q hq => ?_, fun q hq => ?_, ok', f', w'', hR', ?_⟩⟩
          · simp only [setL]; split
            · rfl
            · exact h1 q (by omega)
          · simp only [setL]; rw [if_neg (by omega)]; exact h2 q (by omega)
          · rw [show m + (j + 1) = i + 1 by omega]; exact hk
        rcases hI with ⟨hz, ok, f, w', hR, hY⟩ | ⟨j, h1, h2, ok, f, w', hR, hY⟩
        · by_cases him : i < m
          · -- inside the part that draws
            have hmem : all[i] ∈ all.take m := by
              rw [List.mem_iff_getElem]
              exact ⟨i, by simp; omega, by simp⟩
            have hvi := hJs _ hmem L ok f w' hY (by rw [hn1]; exact hLi) hdepL
            unfold stp at hvi
            rw [hg, hi', hn1] at hvi
            refine one_sound hc hall hof hcomp hF hR hvi fun fa' a' wa' hF' ⟨ok', f', w'', hR', hY''⟩ => hKc _ _ ⟨hL', fa', hF', .inl ⟨fun q hq => ?_, ok', f', w'', hR', hY''⟩⟩
            simp only [setL]; rw [if_neg (by omega)]; exact hz q hq
          · -- the first of the tail
            have hfull : ∀ q, q < i → L q = true := by
              intro q hq
              rcases (hchk i o _ ho hda).2 q hq with h1 | ⟨h1, _⟩
              · exact hdepL q h1
              · omega
            have hi0 : i = m := by
              apply Nat.le_antisymm _ (by omega)
              apply Nat.le_of_not_lt
              intro hlt
              have := hfull m hlt
              rw [hz m (Nat.le_refl _)] at this
              cases this
            exact htail 0 (fun q hq => hfull q (by omega)) (fun q hq => hz q (by omega)) (by omega) (by omega) ok f w' hR (hJe L ok f w' (hdone (fun q hq => hfull q (by omega))) hY)
        · have hij : i = m + j := by
            have hge : m + j ≤ i := by
              apply Nat.le_of_not_lt
              intro hlt
              rw [h1 i hlt] at hLi
              cases hLi
            apply Nat.le_antisymm _ hge
            apply Nat.le_of_not_lt
            intro hlt
            rcases (hchk i o _ ho hda).2 (m + j) hlt with h3 | ⟨h3, _⟩
            · have := hdepL _ h3
              rw [h2 _ (Nat.le_refl _)] at this
              cases this
            · omega
          exact htail j h1 h2 (by omega) hij ok f w' hR hY
      · intro L a wa hI hLall
        obtain ⟨hL, fa, hF, hI⟩ := hI
        refine hQ fa a wa hF ?_
        rcases hI with ⟨hz, ok, f, w', hR, hY⟩ | ⟨j, h1, h2, ok, f, w', hR, hY⟩
        · have hml : m = vl.length := by
            apply Nat.le_antisymm hmle
            apply Nat.le_of_not_lt
            intro hlt
            have := hLall m (by omega)
            rw [hz m (Nat.le_refl _)] at this
            cases this
          have := hJe L ok f w' (hdone (fun q hq => hLall q (by omega))) hY
          rw [hml, List.drop_length] at this
          obtain ⟨T, B, hR⟩ := hR
          exact ⟨f, w', ⟨T, B, hR.clear⟩, this⟩
        · have hml : vl.length ≤ m + j := by
            apply Nat.le_of_not_lt
            intro hlt
            have := hLall (m + j) (by omega)
            rw [h2 _ (Nat.le_refl _)] at this
            cases this
          rw [List.drop_eq_nil_of_le hml] at hY
          obtain ⟨T, B, hR⟩ := hR
          exact ⟨f, w', ⟨T, B, hR.clear⟩, hY⟩
    · simp at hd
  · simp at hd
end Go.W
