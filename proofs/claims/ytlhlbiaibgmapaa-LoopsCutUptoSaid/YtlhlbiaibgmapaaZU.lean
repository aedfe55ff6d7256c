/-
  Regions that draw their order, by an invariant over the sets of operations that have run.
-/
import Derived.Test.YtlhlbiaibgmapaaZV
import Derived.Maps.AppendAt
import Derived.Lib.AppendZerosOnto
set_option linter.unusedSimpArgs false
set_option linter.unusedVariables false
namespace Go.W
def stp (P : Program) (d : DI) (k : OK → Fr → World → Prop) (ok : OK) (f : Fr) (w : World) : Prop := match d.g with | none => vi P d.i k ok f w | some (t, want) => G (f t) want (vi P d.i k ok f w) (sk d.i k ok f w)
def DIv (P : Program) (l : List DI) (K : OK → Fr → World → Prop) (f : Fr) (w1 : World) : Prop :=
  ∃ I : (Nat → Bool) → OK → Fr → World → Prop, I (fun _ => false) ok0 f w1 ∧ (∀ d ∈ l, ∀ L ok f w, I L ok f w → L d.n = false → (∀ j ∈ d.deps, L j = true) → stp P d (fun ok f w => I (setL L d.n) ok f w) ok f w) ∧ ∀ L ok f w, (∀ d ∈ l, L d.n = true) → I L ok f w → K ok f w
set_option maxHeartbeats 1000000 in
theorem draw_soundI {P : Program} {n : Nat} {cx : Cx} {pe : List (Nat × Nat × Nat)} {T0 : Nat → Bool} {wa0 : World} {id : Nat} {ops : List Oper} {Q : Exit → Act → World → Prop} {K : Fr → World → Prop} (hm : P.follows .mixedOrders = true) (hc : cx.ok = true) (hall : ∀ o ∈ ops, operFits n o = true)
    (hQ : ∀ fa a wa, FRel n fa a → inV cx T0 wa0 K fa wa → Q .normal a wa) {dlist : List DI} {tl : List VO} (hd : cDraw P cx pe ops = some (dlist, tl)) {f : Fr} {w : World} {fa : Fr} {a : Act} {wa : World} (hF : FRel n fa a) (hR : VRx cx T0 wa0 ok0 f w fa wa)
    (h : DIv P dlist (fun ok f w => Y P tl K ok f w) f w.drew) : (Code.region id ops.toArray true).wp P Q a wa := by
  unfold cDraw at hd
  split at hd
  · rename_i vl hvl
    obtain ⟨hlen, hone⟩ := cList_get ops vl hvl
    have hget := mkAll_get vl (cDeps ops []) 0
    generalize mkAll vl (cDeps ops []) 0 = all at *
    simp only [] at hd
    generalize cSplit all = m at *
    split at hd
    · rename_i hok
      simp only [Bool.and_eq_true, decide_eq_true_eq] at hok
      obtain ⟨hok, hmle⟩ := hok
      simp only [Option.some.injEq, Prod.mk.injEq] at hd
      obtain ⟨rfl, rfl⟩ := hd
      simp only [drawOk, Bool.and_eq_true] at hok
      obtain ⟨hback, hok⟩ := hok
      -- what the check says of an operation
      have hchk : ∀ (i : Nat) (o : Oper) (d : DI), ops[i]? = some o → all[i]? = some d → (∀ j ∈ d.deps, j < i ∧ (j ∈ edg o ∨ ∃ k ∈ edg o, k < i ∧ j ∈ dpo all k)) ∧ ∀ j, j < i → j ∈ d.deps ∨ (i < m ∧ ∃ dj, all[j]? = some dj ∧ apart d dj = true) := by
        intro i o d ho hdd
        have := List.all_eq_true.1 hok i (by simp only [List.mem_range]; exact (List.getElem?_eq_some_iff.1 ho).1)
        simp only [ho, hdd, Bool.and_eq_true, List.all_eq_true, decide_eq_true_eq, Bool.or_eq_true, List.contains_eq_mem, List.any_eq_true, List.mem_range] at this
        refine ⟨fun j hj => ?_, fun j hj => ?_⟩
        · obtain ⟨h1, h2⟩ := this.1 j hj
          refine ⟨h1, ?_⟩
          rcases h2 with h2 | ⟨k, h3, h4, h5⟩
          · exact .inl h2
          · exact .inr ⟨k, h3, h4, h5⟩
        · rcases this.2 j hj with h1 | ⟨h1, h2⟩
          · exact .inl h1
          · cases hj' : all[j]? with
            | none => rw [hj'] at h2; cases h2
            | some dj => rw [hj'] at h2; exact .inr ⟨h1, dj, rfl, h2⟩
      have hn : ∀ (i : Nat) (d : DI), all[i]? = some d → d.n = i ∧ ∃ v, vl[i]? = some v ∧ d.g = v.g ∧ d.i = v.i := by
        intro i d hd
        rw [hget] at hd
        obtain ⟨v, hv, rfl⟩ := Option.map_eq_some_iff.1 hd
        exact ⟨by simp, v, hv, rfl, rfl⟩
      have hallLen : all.length = vl.length := by
        have h1 : ∀ i : Nat, all[i]? = none ↔ vl[i]? = none := fun i => by rw [hget]; simp
        have h2 := (h1 vl.length).2 (by simp)
        have h3 := (h1 all.length).1 (by simp)
        rw [List.getElem?_eq_none_iff] at h2 h3
        omega
      -- down-closed sets
      have hclosed : ∀ (L : Nat → Bool), (∀ (i : Nat) (o : Oper), ops[i]? = some o → L i = true → ∀ j ∈ edg o, L j = true) → ∀ i, ∀ j ∈ dpo all i, L i = true → L j = true := by
        intro L hL i
        induction i using Nat.strongRecOn with
        | _ i ih =>
          intro j hj hLi
          unfold dpo at hj
          split at hj
          · rename_i d hd
            have hil : i < ops.length := by have := (List.getElem?_eq_some_iff.1 hd).1; omega
            have ho := List.getElem?_eq_getElem hil
            obtain ⟨h1, h2⟩ := (hchk i _ d ho hd).1 j hj
            rcases h2 with h2 | ⟨k, h3, h4, h5⟩
            · exact hL i _ ho hLi j h2
            · exact ih k h4 j h5 (hL i _ ho hLi k h3)
          · simp at hj
      obtain ⟨J, hJ0, hJs, hJe⟩ := h
      have hdone : ∀ {L : Nat → Bool}, (∀ q, q < m → L q = true) → ∀ d ∈ all.take m, L d.n = true := by
        intro L hL d hd
        obtain ⟨q, hq, rfl⟩ := List.getElem_of_mem hd
        simp only [List.length_take] at hq
        rw [List.getElem_take, (hn q _ (List.getElem?_eq_getElem (by omega))).1]
        exact hL q (by omega)
      let I : (Nat → Bool) → Act → World → Prop := fun L a wa => (∀ (i : Nat) (o : Oper), ops[i]? = some o → L i = true → ∀ j ∈ edg o, L j = true) ∧ ∃ fa, FRel n fa a ∧
        (((∀ i, m ≤ i → L i = false) ∧ ∃ ok f w', VRx cx T0 wa0 ok f w' fa wa ∧ J L ok f w') ∨
          (∃ j, (∀ i, i < m + j → L i = true) ∧ (∀ i, m + j ≤ i → L i = false) ∧ ∃ ok f w', VRx cx T0 wa0 ok f w' fa wa ∧ Y P (vl.drop (m + j)) K ok f w'))
      refine XA_sound hm hback I ?_ ?_ ?_
      · refine ⟨fun i o _ h => (by cases h), fa, hF, .inl ⟨fun _ _ => rfl, ok0, f, w.drew, ?_, hJ0⟩⟩
        obtain ⟨T, B, hR⟩ := hR
        have := hR.move (Kp.drew hR.kp.tb)
        rw [tombW_drew, ← hR.tw] at this
        exact ⟨T, B, this⟩
      · intro L a wa i o hI ho hLi hpre Kc hKc
        obtain ⟨hL, fa, hF, hI⟩ := hI
        have hil : i < ops.length := (List.getElem?_eq_some_iff.1 ho).1
        have hda : all[i]? = some all[i] := List.getElem?_eq_getElem (by omega)
        obtain ⟨hn1, v, hv, hg, hi'⟩ := hn i _ hda
        have hcomp := hone i o v ho hv
        have hof := hall o (List.mem_of_getElem? ho)
        have hedge : ∀ j ∈ edg o, L j = true := by
          intro j hj
          simp only [edg, List.mem_map, List.mem_filter] at hj
          obtain ⟨e, ⟨he, hb⟩, rfl⟩ := hj
          exact hpre e he hb
        have hdepL : ∀ j ∈ all[i].deps, L j = true := by
          intro j hj
          obtain ⟨_, h2⟩ := (hchk i o _ ho hda).1 j hj
          rcases h2 with h2 | ⟨k, h3, _, h5⟩
          · exact hedge j h2
          · exact hclosed L hL k j h5 (hedge k h3)
        have hL' : ∀ (i' : Nat) (o' : Oper), ops[i']? = some o' → setL L i i' = true → ∀ j ∈ edg o', setL L i j = true := by
          intro i' o' ho' hi' j hj
          have hmono : ∀ j, L j = true → setL L i j = true := fun j hj => by simp only [setL]; split <;> simp_all
          by_cases e : i' = i
          · subst e
            rw [ho] at ho'
            simp only [Option.some.injEq] at ho'
            subst ho'
            exact hmono j (hedge j hj)
          · simp only [setL, if_neg e] at hi'
            exact hmono j (hL i' o' ho' hi' j hj)
        -- an operation of the tail
        have htail : ∀ j, (∀ q, q < m + j → L q = true) → (∀ q, m + j ≤ q → L q = false) → m ≤ i → i = m + j → ∀ ok f w', VRx cx T0 wa0 ok f w' fa wa → Y P (vl.drop (m + j)) K ok f w' →
            if Region.wanted o (yielded ops.toArray a.tmps) then o.wp P a wa Kc Q else Kc (a.put o.dst undef) wa := by
          intro j h1 h2 hmi hij ok f w' hR hY
          rw [← hij, List.drop_eq_getElem_cons (by omega : i < vl.length), Y_cons] at hY
          have hvi : vl[i]'(by omega) = v := by
            rw [List.getElem?_eq_getElem (by omega)] at hv; exact Option.some.inj hv
          rw [hvi] at hY
          refine one_sound hc hall hof hcomp hF hR hY fun fa' a' wa' hF' ⟨ok', f', w'', hR', hk⟩ => hKc _ _ ⟨hL', fa', hF', .inr ⟨j + 1, fun q hq => ?_, fun q hq => ?_, ok', f', w'', hR', ?_⟩⟩
          · simp only [setL]; split
            · rfl
            · exact h1 q (by omega)
          · simp only [setL]; rw [if_neg (by omega)]; exact h2 q (by omega)
          · rw [show m + (j + 1) = i + 1 by omega]; exact hk
        rcases hI with ⟨hz, ok, f, w', hR, hY⟩ | ⟨j, h1, h2, ok, f, w', hR, hY⟩
        · by_cases him : i < m
          · -- inside the part that draws
            have hmem : all[i] ∈ all.take m := by
              rw [List.mem_iff_getElem]
              exact ⟨i, by simp; omega, by simp⟩
            have hvi := hJs _ hmem L ok f w' hY (by rw [hn1]; exact hLi) hdepL
            unfold stp at hvi
            rw [hg, hi', hn1] at hvi
            refine one_sound hc hall hof hcomp hF hR hvi fun fa' a' wa' hF' ⟨ok', f', w'', hR', hY''⟩ => hKc _ _ ⟨hL', fa', hF', .inl ⟨fun q hq => ?_, ok', f', w'', hR', hY''⟩⟩
            simp only [setL]; rw [if_neg (by omega)]; exact hz q hq
          · -- the first of the tail
            have hfull : ∀ q, q < i → L q = true := by
              intro q hq
              rcases (hchk i o _ ho hda).2 q hq with h1 | ⟨h1, _⟩
              · exact hdepL q h1
              · omega
            have hi0 : i = m := by
              apply Nat.le_antisymm _ (by omega)
              apply Nat.le_of_not_lt
              intro hlt
              have := hfull m hlt
              rw [hz m (Nat.le_refl _)] at this
              cases this
            exact htail 0 (fun q hq => hfull q (by omega)) (fun q hq => hz q (by omega)) (by omega) (by omega) ok f w' hR (hJe L ok f w' (hdone (fun q hq => hfull q (by omega))) hY)
        · have hij : i = m + j := by
            have hge : m + j ≤ i := by
              apply Nat.le_of_not_lt
              intro hlt
              rw [h1 i hlt] at hLi
              cases hLi
            apply Nat.le_antisymm _ hge
            apply Nat.le_of_not_lt
            intro hlt
            rcases (hchk i o _ ho hda).2 (m + j) hlt with h3 | ⟨h3, _⟩
            · have := hdepL _ h3
              rw [h2 _ (Nat.le_refl _)] at this
              cases this
            · omega
          exact htail j h1 h2 (by omega) hij ok f w' hR hY
      · intro L a wa hI hLall
        obtain ⟨hL, fa, hF, hI⟩ := hI
        refine hQ fa a wa hF ?_
        rcases hI with ⟨hz, ok, f, w', hR, hY⟩ | ⟨j, h1, h2, ok, f, w', hR, hY⟩
        · have hml : m = vl.length := by
            apply Nat.le_antisymm hmle
            apply Nat.le_of_not_lt
            intro hlt
            have := hLall m (by omega)
            rw [hz m (Nat.le_refl _)] at this
            cases this
          have := hJe L ok f w' (hdone (fun q hq => hLall q (by omega))) hY
          rw [hml, List.drop_length] at this
          obtain ⟨T, B, hR⟩ := hR
          exact ⟨f, w', ⟨T, B, hR.clear⟩, this⟩
        · have hml : vl.length ≤ m + j := by
            apply Nat.le_of_not_lt
            intro hlt
            have := hLall (m + j) (by omega)
            rw [h2 _ (Nat.le_refl _)] at this
            cases this
          rw [List.drop_eq_nil_of_le hml] at hY
          obtain ⟨T, B, hR⟩ := hR
          exact ⟨f, w', ⟨T, B, hR.clear⟩, hY⟩
    · simp at hd
  · simp at hd
end Go.W
set_option linter.unusedSimpArgs false
set_option linter.unusedVariables false
namespace Go.W
inductive VC where
  | skip
  | exit (id : Nat)
  | ret
  | reg (l : List VO)
  | draw (l : List DI) (t : List VO)
  | seq (a b : VC)
  | cond (c : Operand) (a b : VC)
  | block (id : Nat) (b : VC)
  | loop (b : VC)
def cCode (P : Program) (cx : Cx) (pe : List (Nat × Nat × Nat)) : Code → Option VC
  | .skip => some .skip
  | .exit id => some (.exit id)
  | .ret => some .ret
  | .region _ ops false => (cList P cx pe ops.toList ops.toList).map .reg
  | .region _ ops true => (cDraw P cx pe ops.toList).map fun p => .draw p.1 p.2
  | .seq a b => match cCode P cx pe a, cCode P cx pe b with
    | some x, some y => some (.seq x y)
    | _, _ => none
  | .cond c a b => match cCode P cx pe a, cCode P cx pe b with
    | some x, some y => if cx.ordO c then some (.cond c x y) else none
    | _, _ => none
  | .block id b => (cCode P cx pe b).map (.block id)
  | .loop b => (cCode P cx pe b).map .loop
  | _ => none
/-- a region that draws its order -/
def DW (P : Program) (l : List DI) (K : OK → Fr → World → Prop) (f : Fr) (w : World) : Prop := (∃ Ps, YD P w.drew Ps K l F0 (ok0, f)) ∨ DIv P l K f w.drew
def VW (P : Program) : VC → (Exit → Fr → World → Prop) → Fr → World → Prop
  | .skip, Q, f, w => Q .normal f w
  | .exit id, Q, f, w => Q (.exit id) f w
  | .ret, Q, f, w => Q .ret f w
  | .reg l, Q, f, w => Y P l (Q .normal) ok0 f w
  | .draw l t, Q, f, w => DW P l (Y P t (Q .normal)) f w
  | .seq a b, Q, f, w => VW P a (thenQ (VW P b Q) Q) f w
  | .cond c a b, Q, f, w => condP (ev f c) (VW P a Q f w) (VW P b Q f w)
  | .block id b, Q, f, w => VW P b (inBlk id Q) f w
  | .loop b, Q, f, w => LoopP (VW P b) Q f w
def liftV (n : Nat) (cx : Cx) (T0 : Nat → Bool) (wa0 : World) (Q : Exit → Fr → World → Prop) : Exit → Act → World → Prop := fun e a wa => ∃ fa, FRel n fa a ∧ inV cx T0 wa0 (Q e) fa wa
theorem VW_sound {P : Program} {n : Nat} {cx : Cx} {pe : List (Nat × Nat × Nat)} {T0 : Nat → Bool} {wa0 : World} (hm : P.follows .mixedOrders = true) (hc : cx.ok = true) : ∀ (c : Code) (vc : VC), cCode P cx pe c = some vc → codeFits n c = true → ∀ (Q : Exit → Fr → World → Prop) (f : Fr) (w : World) (fa : Fr) (a : Act) (wa : World), FRel n fa a → VRx cx T0 wa0 ok0 f w fa wa →
    VW P vc Q f w → c.wp P (liftV n cx T0 wa0 Q) a wa := by
  intro c
  induction c with
  | skip => intro vc hcc _ Q f w fa a wa hF hR h; simp only [cCode, Option.some.injEq] at hcc; subst hcc; exact wp_skip ⟨fa, hF, f, w, hR, h⟩
  | exit id => intro vc hcc _ Q f w fa a wa hF hR h; simp only [cCode, Option.some.injEq] at hcc; subst hcc; exact wp_exit ⟨fa, hF, f, w, hR, h⟩
  | ret => intro vc hcc _ Q f w fa a wa hF hR h; simp only [cCode, Option.some.injEq] at hcc; subst hcc; exact wp_ret ⟨fa, hF, f, w, hR, h⟩
  | region id ops draw =>
    intro vc hcc hfit Q f w fa a wa hF hR h
    simp only [codeFits] at hfit
    have hall : ∀ o ∈ ops.toList, operFits n o = true := fun o ho => Array.all_eq_true_iff_forall_mem.1 hfit o (by simpa using ho)
    cases draw with
    | false =>
      simp only [cCode] at hcc
      obtain ⟨vl, hvl, rfl⟩ := Option.map_eq_some_iff.1 hcc
      have := Y_sound (P := P) (T0 := T0) (wa0 := wa0) (Q := liftV n cx T0 wa0 Q) (K := Q .normal) hc hall (fun fa a wa hF hI => ⟨fa, hF, hI⟩) ops.toList vl hvl hall ok0 f w fa a wa hF hR h
      have h2 := wp_region_lit (id := id) this
      simpa using h2
    | true =>
      simp only [cCode] at hcc
      obtain ⟨p, hp, rfl⟩ := Option.map_eq_some_iff.1 hcc
      obtain ⟨dlist, tl⟩ := p
      rcases h with ⟨Ps, h⟩ | h
      · have := draw_sound (id := id) (Q := liftV n cx T0 wa0 Q) (K := Q .normal) hm hc hall (fun fa a wa hF hI => ⟨fa, hF, hI⟩) hp hF hR h
        simpa using this
      · have := draw_soundI (id := id) (Q := liftV n cx T0 wa0 Q) (K := Q .normal) hm hc hall (fun fa a wa hF hI => ⟨fa, hF, hI⟩) hp hF hR h
        simpa using this
  | seq x y ihx ihy =>
    intro vc hcc hfit Q f w fa a wa hF hR h
    simp only [codeFits, Bool.and_eq_true] at hfit
    simp only [cCode] at hcc
    split at hcc
    · rename_i vx vy hx hy
      simp only [Option.some.injEq] at hcc; subst hcc
      refine wp_seq (wp_mono (ihx vx hx hfit.1 _ f w fa a wa hF hR h) ?_)
      rintro e a' wa' ⟨fa', hF', f', w', hR', hq⟩
      cases e with
      | normal => exact ihy vy hy hfit.2 Q f' w' fa' a' wa' hF' hR' hq
      | _ => exact ⟨fa', hF', f', w', hR', hq⟩
    · simp at hcc
  | cond c x y ihx ihy =>
    intro vc hcc hfit Q f w fa a wa hF hR h
    simp only [codeFits, Bool.and_eq_true] at hfit
    simp only [cCode] at hcc
    split at hcc
    · rename_i vx vy hx hy
      split at hcc
      · rename_i hord
        simp only [Option.some.injEq] at hcc; subst hcc
        simp only [VW, condP] at h
        split at h
        · rename_i b hb
          have hev : ev fa c = ev f c := let ⟨T, B, hR⟩ := hR; hR.ev hord
          refine wp_cond_split (t := b) (by rw [hF.eval hfit.1.1, hev]; exact hb) (fun e => ihx vx hx hfit.1.2 Q f w fa a wa hF hR (h.1 e)) (fun e => ihy vy hy hfit.2 Q f w fa a wa hF hR (h.2 e))
        · exact h.elim
      · simp at hcc
    · simp at hcc
  | block id b ih =>
    intro vc hcc hfit Q f w fa a wa hF hR h
    simp only [cCode] at hcc
    obtain ⟨vb, hb, rfl⟩ := Option.map_eq_some_iff.1 hcc
    refine wp_block (wp_mono (ih vb hb hfit _ f w fa a wa hF hR h) ?_)
    rintro e a' wa' ⟨fa', hF', f', w', hR', hq⟩
    cases e with
    | exit id' =>
      simp only [inBlk] at hq
      simp only [Exit.inBlock]
      split
      · rename_i e; rw [if_pos e] at hq; exact ⟨fa', hF', f', w', hR', hq⟩
      · rename_i e; rw [if_neg e] at hq; exact ⟨fa', hF', f', w', hR', hq⟩
    | _ => exact ⟨fa', hF', f', w', hR', hq⟩
  | loop b ih =>
    intro vc hcc hfit Q f w fa a wa hF hR h
    simp only [cCode] at hcc
    obtain ⟨vb, hb, rfl⟩ := Option.map_eq_some_iff.1 hcc
    obtain ⟨α, I, μ, x0, h0, hr⟩ := h
    intro bf k cs
    have key : ∀ m x f w fa a wa, μ x = m → I x f w → FRel n fa a → VRx cx T0 wa0 ok0 f w fa wa → ∃ e a' w', liftV n cx T0 wa0 Q e a' w' ∧ Arrives P (lone (bf.at a (.code b :: .inLoop b :: k)) cs wa) bf k cs e a' w' := by
      intro m
      induction m using Nat.strongRecOn with
      | _ m ihm =>
        intro x f w fa a wa hm hI hF hR
        obtain ⟨e, a₁, w₁, ⟨fa₁, hF₁, f₁, w₁', hR₁, hq⟩, harr⟩ := ih vb hb hfit _ f w fa a wa hF hR (hr x f w hI) bf (.inLoop b :: k) cs
        cases e with
        | normal =>
          obtain ⟨x', hI', hlt⟩ := hq
          obtain ⟨e₂, a₂, w₂, hq₂, harr₂⟩ := ihm (μ x') (hm ▸ hlt) x' f₁ w₁' fa₁ a₁ w₁ rfl hI' hF₁ hR₁
          exact ⟨e₂, a₂, w₂, hq₂, .of_steps (Steps.trans harr (.one step_inLoop)) harr₂⟩
        | exit id => exact ⟨_, a₁, w₁, ⟨fa₁, hF₁, f₁, w₁', hR₁, hq⟩, .pass (x := .inLoop b) rfl (fun _ _ => .inl (by simp)) harr⟩
        | goto l => exact ⟨_, a₁, w₁, ⟨fa₁, hF₁, f₁, w₁', hR₁, hq⟩, .pass (x := .inLoop b) rfl (fun _ _ => .inl (by simp)) harr⟩
        | ret => exact ⟨_, a₁, w₁, ⟨fa₁, hF₁, f₁, w₁', hR₁, hq⟩, .pass (x := .inLoop b) rfl (fun _ _ => .inl (by simp)) harr⟩
        | panic ch => exact ⟨_, a₁, w₁, ⟨fa₁, hF₁, f₁, w₁', hR₁, hq⟩, .pass (x := .inLoop b) rfl (fun _ _ => .inl (by simp)) harr⟩
        | outgrown => exact ⟨_, a₁, w₁, ⟨fa₁, hF₁, f₁, w₁', hR₁, hq⟩, .pass (x := .inLoop b) rfl (fun _ _ => .inl (by simp)) harr⟩
    obtain ⟨e, a', w', hq, harr⟩ := key _ x0 f w fa a wa rfl h0 hF hR
    exact ⟨e, a', w', hq, .of_steps (.one step_loop) harr⟩
  | _ => intro vc hcc; simp [cCode] at hcc

/-! ### a function's body -/
inductive VRV where
  | tmp (t : Nat)
  | box (b n : Nat) (ag : Bool)
  | cell (a : Nat) (t : TypeId)
def cRes (P : Program) (cx : Cx) : ResultVar → Option VRV
  | .tmp t => if cx.isV t then none else some (.tmp t)
  | .cell a t => match cx.bsz a with
    | some m => match szv P t, agb P t with
      | some n, some ag => some (.box a n ag)
      | _, _ => none
    | none => if cx.isV a then none else some (.cell a t)
def cRess (P : Program) (cx : Cx) : List ResultVar → Option (List VRV)
  | [] => some []
  | r :: l => match cRes P cx r, cRess P cx l with
    | some v, some vl => some (v :: vl)
    | _, _ => none
def rvV (P : Program) (f : Fr) (w : World) (r : VRV) (k : Value → Prop) : Prop :=
  match r with
  | .tmp t => k (f t)
  | .box b n ag => OB (sPart (f b) 0 n ag) k
  | .cell a t => B (sLoad P t (f a) w) fun v _ => k v
def resV (P : Program) (rs : List VRV) (f : Fr) (w : World) (k : Value → Prop) : Prop :=
  match rs with
  | [] => k (.tuple #[])
  | [a] => rvV P f w a k
  | [a, b] => rvV P f w a fun u => rvV P f w b fun v => k (.tuple #[u, v])
  | [a, b, c] => rvV P f w a fun u => rvV P f w b fun v => rvV P f w c fun x => k (.tuple #[u, v, x])
  | _ => False
def finV (P : Program) (rs : List VRV) (Φ : Value → World → Prop) : Exit → Fr → World → Prop
  | .normal, f, w | .ret, f, w => resV P rs f w fun v => Φ v w
  | _, _, _ => False
theorem rvV_rv {P : Program} {cx : Cx} {T0 : Nat → Bool} {wa0 : World} {ok : OK} {f : Fr} {w : World} {fa : Fr} {wa : World} {T : Nat → Bool} {B : Nat → Nat} (hR : VR cx T0 wa0 ok f w fa wa T B) {r : ResultVar} {v : VRV} (h : cRes P cx r = some v) {k k' : Value → Prop} (hk : ∀ u, k u → k' u)
    (hv : rvV P f w v k) : rv P fa wa r k' := by
  unfold cRes at h
  split at h
  · rename_i t
    split at h
    · simp at h
    · rename_i hV
      simp only [Option.some.injEq] at h; subst h
      simp only [rv, rvV] at hv ⊢
      rw [hR.ord t (by simpa using hV)]
      exact hk _ hv
  · rename_i a t
    split at h
    · rename_i m hb
      split at h
      · rename_i n ag hn hag
        simp only [Option.some.injEq] at h; subst h
        simp only [rvV, OB] at hv
        split at hv
        · rename_i u hs
          unfold sPart at hs
          split at hs
          · rename_i hl
            obtain ⟨h1, h2, h3, h4, ty', h5⟩ := hR.box a m hb hl
            have hload : sLoad P t (.pointer (some ⟨B a, 0, none⟩)) wa = some (u, wa) := by
              rw [sLoad_p, hag, hn]
              cases ag with
              | true =>
                simp only [if_true] at hs
                simp only [Option.bind_some, if_true, rd_mk, h5]
                split at hs
                · rename_i hle
                  simp only [Option.some.injEq] at hs
                  rw [if_pos hle, ← hs]
                  rfl
                · simp at hs
              | false =>
                simp only [Bool.false_eq_true, if_false] at hs
                simp only [Option.bind_some, Bool.false_eq_true, if_false, cell_mk, h5, hs, Option.map_some]
            simp only [rv, h1, hload, Go.W.B]
            exact hk _ hv
          · simp at hs
        · exact hv.elim
      · simp at h
    · rename_i hb
      split at h
      · simp at h
      · rename_i hV
        simp only [Option.some.injEq] at h; subst h
        simp only [rvV] at hv
        simp only [rv]
        rw [hR.ord a (by simpa using hV)]
        have hw := hR.tw
        subst hw
        unfold Go.W.B at hv ⊢
        split at hv
        · rename_i u w' hs
          obtain ⟨w1, h1, _, _⟩ := Tr_sLoad P t (f a) T wa u w' hR.kp.tb hs
          rw [h1]
          exact hk _ hv
        · exact hv.elim
theorem resV_res {P : Program} {cx : Cx} {T0 : Nat → Bool} {wa0 : World} {ok : OK} {f : Fr} {w : World} {fa : Fr} {wa : World} {T : Nat → Bool} {B : Nat → Nat} (hR : VR cx T0 wa0 ok f w fa wa T B) {rs : List ResultVar} {vs : List VRV} (h : cRess P cx rs = some vs) {k k' : Value → Prop} (hk : ∀ u, k u → k' u)
    (hv : resV P vs f w k) : resW P rs fa wa k' := by
  have step : ∀ (r : ResultVar) (l : List ResultVar) (vs : List VRV), cRess P cx (r :: l) = some vs → ∃ v vl, cRes P cx r = some v ∧ cRess P cx l = some vl ∧ vs = v :: vl := by
    intro r l vs h
    simp only [cRess] at h
    split at h
    · rename_i v vl h1 h2; simp only [Option.some.injEq] at h; exact ⟨v, vl, h1, h2, h.symm⟩
    · simp at h
  cases rs with
  | nil => simp only [cRess, Option.some.injEq] at h; subst h; exact hk _ hv
  | cons r1 l1 =>
    obtain ⟨v1, vl1, a1, b1, rfl⟩ := step _ _ _ h
    cases l1 with
    | nil => simp only [cRess, Option.some.injEq] at b1; subst b1; exact rvV_rv hR a1 hk hv
    | cons r2 l2 =>
      obtain ⟨v2, vl2, a2, b2, rfl⟩ := step _ _ _ b1
      cases l2 with
      | nil => simp only [cRess, Option.some.injEq] at b2; subst b2; exact rvV_rv hR a1 (k := fun u => rvV P f w v2 fun v => k (.tuple #[u, v])) (fun u hu => rvV_rv hR a2 (fun x hx => hk (.tuple #[u, x]) hx) hu) hv
      | cons r3 l3 =>
        obtain ⟨v3, vl3, a3, b3, rfl⟩ := step _ _ _ b2
        cases l3 with
        | nil => simp only [cRess, Option.some.injEq] at b3; subst b3; exact rvV_rv hR a1 (k := fun u => rvV P f w v2 fun v => rvV P f w v3 fun x => k (.tuple #[u, v, x])) (fun u hu => rvV_rv hR a2 (fun x hx => rvV_rv hR a3 (fun y hy => hk (.tuple #[u, x, y]) hy) hx) hu) hv
        | cons r4 l4 =>
          obtain ⟨v4, vl4, a4, b4, rfl⟩ := step _ _ _ b3
          exact hv.elim
theorem Ret_wp {P : Program} {g : Nat} {fn : Func} {c : Code} {args : Array Value} {w : World} {Φ : Value → World → Prop} (hf : P.funcs[g]? = some fn) (hb : fn.body = some c) (hn : enters P g = true)
    (hargs : decide (args.size ≤ fn.ntmps) = true) (hres : resFits fn.ntmps fn.results = true)
    (h : ∀ a, FRel fn.ntmps (fr0 args.toList) a → c.wp P (fun e a w' => ∃ fa, FRel fn.ntmps fa a ∧ fin P fn.results Φ e fa w') a w) : Ret P g args w Φ := by
  refine ⟨hn, calls_of_wp hf hb ?_⟩
  have hF : FRel fn.ntmps (fr0 args.toList) { tmps := args ++ Array.replicate (fn.ntmps - args.size) undef, defers := [] } := by
    refine ⟨rfl, by simp at hargs ⊢; omega, fun t ht => ?_⟩
    rw [fr0_eq]
    simp only [Array.getElem?_append]
    split
    · rename_i hlt; simp [hlt]
    · rename_i hge
      have : t - args.size < fn.ntmps - args.size := by omega
      simp [this, List.getD_eq_getElem?_getD]
      rw [Array.getElem?_eq_none (by omega)]
      rfl
  refine wp_mono (h _ hF) ?_
  rintro e a' w' ⟨f', hF', hq⟩
  have main : resW P fn.results.toList f' w' (fun v => Φ v w') → a'.defers = [] ∧ ∃ v, (results fn a'.tmps).run P w' = .ok v w' ∧ ∃ u, Ending.returned v = .returned u ∧ Φ u w' := by
    intro hr
    refine ⟨hF'.1, ?_⟩
    unfold resW at hr
    have hall := Array.all_eq_true_iff_forall_mem.1 hres
    split at hr
    · rename_i he
      have : fn.results = #[] := by apply Array.ext'; simpa using he
      exact ⟨_, by simp [results, this, Sem.run, pure], _, rfl, hr⟩
    · rename_i x he
      have hx : fn.results = #[x] := by apply Array.ext'; simpa using he
      obtain ⟨v, hk, hv⟩ := rv_run hF' (hall x (by simp [hx])) hr
      refine ⟨v, ?_, _, rfl, hk⟩
      simp only [results, hx, Array.mapM_eq_mapM_toList, List.mapM_cons, List.mapM_nil, run_bind, bind_assoc, pure_bind, map_bind, map_pure]
      cases x <;> simp only [run_bind] at hv ⊢ <;> rw [hv] <;> simp [Sem.run, pure]
    · rename_i x y he
      have hx : fn.results = #[x, y] := by apply Array.ext'; simpa using he
      obtain ⟨v, hk, hv⟩ := rv_run hF' (hall x (by simp [hx])) hr
      obtain ⟨u, hk2, hu⟩ := rv_run hF' (hall y (by simp [hx])) hk
      refine ⟨.tuple #[v, u], ?_, _, rfl, hk2⟩
      simp only [results, hx, Array.mapM_eq_mapM_toList, List.mapM_cons, List.mapM_nil, run_bind, bind_assoc, pure_bind, map_bind, map_pure]
      cases x <;> cases y <;> simp only [run_bind] at hv hu ⊢ <;> simp only [hv, hu] <;> simp [Sem.run, pure]
    · rename_i x y z he
      have hx : fn.results = #[x, y, z] := by apply Array.ext'; simpa using he
      obtain ⟨v, hk, hv⟩ := rv_run hF' (hall x (by simp [hx])) hr
      obtain ⟨u, hk2, hu⟩ := rv_run hF' (hall y (by simp [hx])) hk
      obtain ⟨t, hk3, ht⟩ := rv_run hF' (hall z (by simp [hx])) hk2
      refine ⟨.tuple #[v, u, t], ?_, _, rfl, hk3⟩
      simp only [results, hx, Array.mapM_eq_mapM_toList, List.mapM_cons, List.mapM_nil, run_bind, bind_assoc, pure_bind, map_bind, map_pure]
      cases x <;> cases y <;> cases z <;> simp only [run_bind] at hv hu ht ⊢ <;> simp only [hv, hu, ht] <;> simp [Sem.run, pure]
    · exact hr.elim
  cases e with
  | normal => exact main hq
  | ret => exact main hq
  | _ => exact hq.elim
/-- everything that the kernel checks of a function, ahead of its walk -/
structure FnOk (P : Program) (g na : Nat) (vc : VC) (rs : List VRV) : Prop where
  ok : ∃ (fn : Func) (c : Code) (cx : Cx) (pe : List (Nat × Nat × Nat)), P.funcs[g]? = some fn ∧ fn.body = some c ∧ enters P g = true ∧ codeFits fn.ntmps c = true ∧ decide (na ≤ fn.ntmps) = true ∧ resFits fn.ntmps fn.results = true ∧
    cx.ok = true ∧ cCode P cx pe c = some vc ∧ cRess P cx fn.results.toList = some rs ∧ (cx.bx.all fun b => decide (na ≤ b.1)) = true
theorem bsz_mem {cx : Cx} {d n : Nat} (h : cx.bsz d = some n) : (d, n) ∈ cx.bx := by
  unfold Cx.bsz at h
  obtain ⟨p, hp, rfl⟩ := Option.map_eq_some_iff.1 h
  have h1 := List.mem_of_find?_eq_some hp
  have h2 := List.find?_some hp
  simp only [beq_iff_eq] at h2
  obtain ⟨a, b⟩ := p
  simp only [] at h2
  subst h2
  exact h1
theorem VRet_start {P : Program} {g na : Nat} {vc : VC} {rs : List VRV} (hm : P.follows .mixedOrders = true) (hok : FnOk P g na vc rs) {args : Array Value} (hna : args.size = na) {w : World} {Φ : Value → World → Prop}
    (h : ∀ Ψ : Value → World → Prop, (∀ v w', Φ v w' → Ψ v w') → VW P vc (finV P rs Ψ) (fr0 args.toList) w) : VRet P g args w Φ := by
  obtain ⟨fn, c, cx, pe, h1, h2, h3, h4, h5, h6, h7, h8, h9, h10⟩ := hok.ok
  refine .inl ⟨h3, fun T0 wa0 hw hT => ?_⟩
  subst hna
  refine Ret_wp h1 h2 h3 h5 h6 fun a hF => ?_
  have hR : VRx cx T0 wa0 ok0 (fr0 args.toList) w (fr0 args.toList) wa0 := by
    refine ⟨T0, fun _ => 0, hw, Kp.refl hT, fun _ _ => rfl, fun d n hd hl => ?_, fun d d' n n' hd hd' hl => ?_, fun e b off he => by simp [ok0] at he⟩
    all_goals
      exfalso
      have hle := List.all_eq_true.1 h10 _ (bsz_mem hd)
      simp only [decide_eq_true_eq] at hle
      rw [fr0_eq, List.getD_eq_getElem?_getD, List.getElem?_eq_none (by simp; omega)] at hl
      cases hl
  refine wp_mono (VW_sound hm h7 c vc h8 h4 (finV P rs Φ) _ w _ a wa0 hF hR (h Φ fun _ _ h => h)) ?_
  rintro e a' wa' ⟨fa', hF', f', w', ⟨T, B, hR'⟩, hq⟩
  refine ⟨fa', hF', ?_⟩
  have main : resV P rs f' w' (fun v => Φ v w') → resW P fn.results.toList fa' wa' (fun v => upV Φ T0 wa0 v wa') := fun hq => resV_res hR' h9 (fun u hu => ⟨T, hR'.kp, by rw [← hR'.tw]; exact hu⟩) hq
  cases e with
  | normal => exact main hq
  | ret => exact main hq
  | _ => exact hq.elim
end Go.W
set_option linter.unusedSimpArgs false
set_option linter.unusedVariables false
set_option linter.defProp false
namespace Go.W
open Go.RowKit
/-! ### monotony, cuts -/
theorem vi_mono {P : Program} {i : VI} {k k' : OK → Fr → World → Prop} (hm : ∀ ok f w, k ok f w → k' ok f w) {ok : OK} {f : Fr} {w : World} (h : vi P i k ok f w) : vi P i k' ok f w := by
  cases i <;> simp only [vi] at h ⊢
  case op d o ty => exact opV_mono (fun v w' hk => hm _ _ _ hk) h
  case path => exact ⟨h.1, h.2.1, hm _ _ _ h.2.2⟩
  case part => refine ⟨h.1, ?_⟩; have := h.2; unfold OB at *; split at this <;> first | exact hm _ _ _ this | exact this.elim
  case put => refine ⟨h.1, ?_⟩; have := h.2; unfold OB at *; split at this <;> first | exact hm _ _ _ this | exact this.elim
  case set => exact ⟨h.1, h.2.1, hm _ _ _ h.2.2⟩
  case new => exact hm _ _ _ h
  case box => exact ⟨h.1, hm _ _ _ h.2⟩
theorem sk_mono {i : VI} {k k' : OK → Fr → World → Prop} (hm : ∀ ok f w, k ok f w → k' ok f w) {ok : OK} {f : Fr} {w : World} (h : sk i k ok f w) : sk i k' ok f w := by
  cases i <;> exact hm _ _ _ h
theorem Y_mono {P : Program} {K K' : Fr → World → Prop} (hm : ∀ f w, K f w → K' f w) : ∀ (l : List VO) (ok : OK) (f : Fr) (w : World), Y P l K ok f w → Y P l K' ok f w := by
  intro l
  induction l with
  | nil => intro ok f w h; exact hm _ _ h
  | cons o l ih =>
    intro ok f w h
    rw [Y_cons] at h ⊢
    cases hg : o.g with
    | none => rw [hg] at h; exact vi_mono ih h
    | some p => obtain ⟨t, want⟩ := p; rw [hg] at h; exact G_mono (vi_mono ih) (sk_mono ih) h
theorem YD_mono {P : Program} {w1 : World} {Ps : Psi} {K K' : OK → Fr → World → Prop} (hm : ∀ ok f w, K ok f w → K' ok f w) : ∀ (l : List DI) (F : Fact) (s : OK × Fr), YD P w1 Ps K l F s → YD P w1 Ps K' l F s := by
  intro l
  induction l with
  | nil => intro F s h w' h1 h2; exact hm _ _ _ (h w' h1 h2)
  | cons o l ih => intro F s h; exact stepY_mono (k := YD P w1 Ps K l) ih h
theorem DW_mono {P : Program} {l : List DI} {K K' : OK → Fr → World → Prop} (hm : ∀ ok f w, K ok f w → K' ok f w) {f : Fr} {w : World} (h : DW P l K f w) : DW P l K' f w := match h with | .inl ⟨Ps, h⟩ => .inl ⟨Ps, YD_mono hm _ _ _ h⟩ | .inr ⟨I, h1, h2, h3⟩ => .inr ⟨I, h1, h2, fun L ok f w hd hI => hm _ _ _ (h3 L ok f w hd hI)⟩
theorem VW_mono {P : Program} : ∀ (c : VC) {Q Q' : Exit → Fr → World → Prop}, (∀ e f w, Q e f w → Q' e f w) → ∀ (f : Fr) (w : World), VW P c Q f w → VW P c Q' f w := by
  intro c
  induction c with
  | skip => intro Q Q' hm f w h; exact hm _ _ _ h
  | exit id => intro Q Q' hm f w h; exact hm _ _ _ h
  | ret => intro Q Q' hm f w h; exact hm _ _ _ h
  | reg l => intro Q Q' hm f w h; exact Y_mono (fun f w => hm _ f w) _ _ _ _ h
  | draw l t => intro Q Q' hm f w h; exact DW_mono (fun ok f w => Y_mono (fun f w => hm _ f w) _ _ _ _) h
  | seq a b iha ihb =>
    intro Q Q' hm f w h
    refine iha ?_ f w h
    intro e f w hq
    cases e with
    | normal => exact ihb hm f w hq
    | _ => exact hm _ _ _ hq
  | cond c a b iha ihb =>
    intro Q Q' hm f w h
    simp only [VW, condP] at h ⊢
    split at h
    · exact ⟨fun e => iha hm f w (h.1 e), fun e => ihb hm f w (h.2 e)⟩
    · exact h.elim
  | block id b ih => intro Q Q' hm f w h; exact ih (inBlk_sub hm) f w h
  | loop b ih =>
    intro Q Q' hm f w h
    obtain ⟨α, I, μ, x0, h0, hr⟩ := h
    refine ⟨α, I, μ, x0, h0, fun x f w hI => ih ?_ f w (hr x f w hI)⟩
    intro e f w hq
    cases e with
    | normal => exact hq
    | _ => exact hm _ _ _ hq
def cndV (P : Program) (a b : VC) (Q : Exit → Fr → World → Prop) (f : Fr) (w : World) (v : Value) : Prop := condP v (VW P a Q f w) (VW P b Q f w)
section
variable {P : Program} {next : Fr → World → Prop} {Q : Exit → Fr → World → Prop} {f : Fr} {w : World}
theorem cnd_d {p : Prop} [Decidable p] {a b : VC} (h1 : p → VW P a Q f w) (h2 : ¬ p → VW P b Q f w) : cndV P a b Q f w (.bool (decide p)) := condP_dec h1 h2
theorem cnd_b {t : Bool} {a b : VC} (h1 : t = true → VW P a Q f w) (h2 : t = false → VW P b Q f w) : cndV P a b Q f w (.bool t) := ⟨h1, h2⟩
/-- a test whose ways meet again -/
theorem cnd_c (J : Fr → World → Prop) {a b : VC} {v : Value} (h : cndV P a b (thenQ J Q) f w v) (hJ : ∀ f w, J f w → next f w) : cndV P a b (thenQ next Q) f w v := by
  unfold cndV condP at *
  split at h
  · exact ⟨fun e => VW_mono a (thenQ_sub hJ) f w (h.1 e), fun e => VW_mono b (thenQ_sub hJ) f w (h.2 e)⟩
  · exact h.elim
theorem cnd_cB (J : Fr → World → Prop) {id : Nat} {a b : VC} {v : Value} (h : cndV P a b (inBlk id (thenQ J Q)) f w v) (hJ : ∀ f w, J f w → next f w) : cndV P a b (inBlk id (thenQ next Q)) f w v := by
  unfold cndV condP at *
  split at h
  · exact ⟨fun e => VW_mono a (inBlk_sub (thenQ_sub hJ)) f w (h.1 e), fun e => VW_mono b (inBlk_sub (thenQ_sub hJ)) f w (h.2 e)⟩
  · exact h.elim
theorem VW_c (J : Fr → World → Prop) {c : VC} (h : VW P c (thenQ J Q) f w) (hJ : ∀ f w, J f w → next f w) : VW P c (thenQ next Q) f w := VW_mono c (thenQ_sub hJ) f w h
theorem loop_c (J : Fr → World → Prop) {c : VC} (h : LoopP (VW P c) (thenQ J Q) f w) (hJ : ∀ f w, J f w → next f w) : LoopP (VW P c) (thenQ next Q) f w := VW_mono (.loop c) (thenQ_sub hJ) f w h
theorem loop_cB (J : Fr → World → Prop) {id : Nat} {c : VC} (h : LoopP (VW P c) (inBlk id (thenQ J Q)) f w) (hJ : ∀ f w, J f w → next f w) : LoopP (VW P c) (inBlk id (thenQ next Q)) f w :=
  VW_mono (.loop c) (inBlk_sub (thenQ_sub hJ)) f w h
theorem reg_c (J : Fr → World → Prop) {l : List VO} {ok : OK} (h : Y P l J ok f w) (hJ : ∀ f w, J f w → next f w) : Y P l next ok f w := Y_mono hJ _ _ _ _ h
end
/-! ### rules -/
def YG (P : Program) (l : List VO) (K : Fr → World → Prop) (ok : OK) (f : Fr) (w : World) (i : VI) (v : Value) (want : Bool) : Prop := G v want (vi P i (Y P l K) ok f w) (sk i (Y P l K) ok f w)
section
variable (P : Program) (Q : Exit → Fr → World → Prop) (f : Fr) (w : World) (k : OK → Fr → World → Prop) (ok : OK) (l : List VO) (K : Fr → World → Prop)
theorem VW_skip : VW P .skip Q f w = Q .normal f w := rfl
theorem VW_exit (id : Nat) : VW P (.exit id) Q f w = Q (.exit id) f w := rfl
theorem VW_ret : VW P .ret Q f w = Q .ret f w := rfl
theorem VW_reg : VW P (.reg l) Q f w = Y P l (Q .normal) ok0 f w := rfl
theorem VW_draw (d : List DI) : VW P (.draw d l) Q f w = DW P d (Y P l (Q .normal)) f w := rfl
theorem VW_seq (a b : VC) : VW P (.seq a b) Q f w = VW P a (thenQ (VW P b Q) Q) f w := rfl
theorem VW_cond (c : Operand) (a b : VC) : VW P (.cond c a b) Q f w = cndV P a b Q f w (ev f c) := rfl
theorem VW_block (id : Nat) (b : VC) : VW P (.block id b) Q f w = VW P b (inBlk id Q) f w := rfl
theorem VW_loop (b : VC) : VW P (.loop b) Q f w = LoopP (VW P b) Q f w := rfl
theorem cndV_true (a b : VC) : cndV P a b Q f w (.bool true) = VW P a Q f w := by simp [cndV, condP]
theorem cndV_false (a b : VC) : cndV P a b Q f w (.bool false) = VW P b Q f w := by simp [cndV, condP]
theorem Y_nil : Y P [] K ok f w = K f w := rfl
theorem Y_op (i : VI) : Y P (⟨none, i⟩ :: l) K ok f w = vi P i (Y P l K) ok f w := rfl
theorem Y_gd (t : Nat) (want : Bool) (i : VI) : Y P (⟨some (t, want), i⟩ :: l) K ok f w = YG P l K ok f w i (f t) want := rfl
theorem YG_tt (i : VI) : YG P l K ok f w i (.bool true) true = vi P i (Y P l K) ok f w := by simp [YG, G]
theorem YG_ff (i : VI) : YG P l K ok f w i (.bool false) false = vi P i (Y P l K) ok f w := by simp [YG, G]
theorem YG_tf (i : VI) : YG P l K ok f w i (.bool true) false = sk i (Y P l K) ok f w := by simp [YG, G]
theorem YG_ft (i : VI) : YG P l K ok f w i (.bool false) true = sk i (Y P l K) ok f w := by simp [YG, G]
theorem YG_un (i : VI) (want : Bool) : YG P l K ok f w i undef want = sk i (Y P l K) ok f w := rfl
theorem sk_op (d : Option Nat) (o : Op) (ty : TypeId) : sk (.op d o ty) k ok f w = k ok (updO f d undef) w := rfl
theorem sk_part (d via : Option Nat) (b off n : Nat) (ag : Bool) : sk (.part d via b off n ag) k ok f w = k ok (updO f d undef) w := rfl
theorem sk_path (e b off : Nat) (via : Option (Nat × Nat)) : sk (.path e b off via) k ok f w = k (oclr ok e) f w := rfl
theorem sk_put (via b off n : Nat) (x : Operand) : sk (.put via b off n x) k ok f w = k ok f w := rfl
theorem sk_set (b n : Nat) (x : Operand) : sk (.set b n x) k ok f w = k ok f w := rfl
theorem vi_op (d : Option Nat) (o : Op) (ty : TypeId) : vi P (.op d o ty) k ok f w = opV P o ty f w (kk k ok f d) := rfl
theorem vi_path0 (e b off : Nat) : vi P (.path e b off none) k ok f w = (live (f b) = true ∧ k (oset ok e b off) f w) := by simp [vi]
theorem vi_path1 (e b off y o : Nat) : vi P (.path e b off (some (y, o))) k ok f w = (live (f b) = true ∧ ok y = some (b, o) ∧ k (oset ok e b off) f w) := rfl
theorem vi_part0 (d : Option Nat) (b n : Nat) (ag : Bool) : vi P (.part d none b 0 n ag) k ok f w = OB (sPart (f b) 0 n ag) (kv k ok f d w) := by simp [vi, vok]
theorem vi_part1 (d : Option Nat) (e b off n : Nat) (ag : Bool) : vi P (.part d (some e) b off n ag) k ok f w = (ok e = some (b, off) ∧ OB (sPart (f b) off n ag) (kv k ok f d w)) := rfl
theorem vi_put (e b off n : Nat) (x : Operand) : vi P (.put e b off n x) k ok f w = (ok e = some (b, off) ∧ OB (sPut (f b) off n (ev f x)) (kv k ok f (some b) w)) := rfl
theorem vi_set (b n : Nat) (x : Operand) : vi P (.set b n x) k ok f w = (live (f b) = true ∧ (live (ev f x) = true ∧ (ev f x).cells.size = n ∧ (ev f x).cells.toList.all one = true) ∧ k ok (upd f b (ev f x)) w) := rfl
theorem vi_new (b : Nat) (z : Value) : vi P (.new b z) k ok f w = k (odel ok b) (upd f b z) (w.alloc tomb) := rfl
theorem vi_box (b n : Nat) (x : Operand) : vi P (.box b n x) k ok f w = ((live (ev f x) = true ∧ (ev f x).cells.size = n) ∧ k (odel ok b) (upd f b (ev f x)) (w.alloc tomb)) := rfl
theorem OB_some (v : Value) (κ : Value → Prop) : OB (some v) κ = κ v := rfl
theorem OB_ite (p : Prop) [Decidable p] (r : Option Value) (κ : Value → Prop) : OB (if p then r else none) κ = (p ∧ OB r κ) := by by_cases h : p <;> simp [h, OB]
theorem kk_app (d : Option Nat) (v : Value) : kk k ok f d v w = k ok (updO f d v) w := rfl
theorem kv_app (d : Option Nat) (v : Value) : kv k ok f d w v = k ok (updO f d v) w := rfl
theorem live_agg (cs : Array Value) : live (.agg cs) = true := rfl
theorem live_int (q : IntKind) (n : Int) : live (.int q n) = true := rfl
theorem live_bool (b : Bool) : live (.bool b) = true := rfl
theorem live_slice (a : Option Addr) (n c : Nat) : live (.slice a n c) = true := rfl
theorem live_map (a : Option Nat) : live (.map a) = true := rfl
theorem live_ptr (a : Option Addr) : live (.pointer a) = true := rfl
theorem live_func (fn : Fn) (a b : Array Value) : live (.func fn a b) = true := rfl
theorem live_nilFunc : live .nilFunc = true := rfl
theorem sPart_t (cs : List Value) (off n : Nat) : sPart (.agg cs.toArray) off n true = if off + n ≤ cs.length then some (.agg ((cs.drop off).take n).toArray) else none := by
  simp only [sPart, live, if_true, Value.cells, List.size_toArray]; split <;> simp [List.extract_eq_take_drop]
theorem sPart_f (cs : List Value) (off n : Nat) : sPart (.agg cs.toArray) off n false = cs[off]? := by simp [sPart, live, Value.cells]
theorem sPart_int (q : IntKind) (m : Int) (n : Nat) : sPart (.int q m) 0 n false = some (.int q m) := rfl
theorem sPart_bool (b : Bool) (n : Nat) : sPart (.bool b) 0 n false = some (.bool b) := rfl
theorem sPart_slice (a : Option Addr) (m c : Nat) (n : Nat) : sPart (.slice a m c) 0 n false = some (.slice a m c) := rfl
theorem sPart_ptr (a : Option Addr) (n : Nat) : sPart (.pointer a) 0 n false = some (.pointer a) := rfl
theorem sPart_map (a : Option Nat) (n : Nat) : sPart (.map a) 0 n false = some (.map a) := rfl
theorem sPut_a (cs : List Value) (off n : Nat) (x : Value) : sPut (.agg cs.toArray) off n x = if x.cells.size = n ∧ off + n ≤ cs.length ∧ x.cells.toList.all one = true ∧ 0 < n then some (.agg (spl cs.toArray off x.cells.toList)) else none := by simp [sPut]
theorem oset_app (e b off t : Nat) : oset ok e b off t = if t = e then some (b, off) else ok t := rfl
theorem oclr_app (e t : Nat) : oclr ok e t = if t = e then none else ok t := rfl
theorem odel_ok0 (b : Nat) : odel ok0 b = ok0 := rfl
theorem oclr_ok0 (e : Nat) : oclr ok0 e = ok0 := by funext t; simp [oclr, ok0]
theorem odel_app (b t : Nat) : odel ok b t = (ok t).bind fun p => if p.1 = b then none else some p := rfl
theorem eqp (a b c d : Nat) : (some (a, b) = some (c, d)) = (a = c ∧ b = d) := by simp
theorem bind_p (p : Nat × Nat) (g : Nat × Nat → Option (Nat × Nat)) : (some p).bind g = g p := rfl
end
/-! ### the operations, what follows behind a name -/
section
variable (P : Program) (f : Fr) (w : World) (ty : TypeId) (κ : Value → World → Prop)
theorem oV_move (x : Operand) : opV P (.move x) ty f w κ = κ (ev f x) w := rfl
theorem oV_assign (x : Operand) : opV P (.assign x) ty f w κ = κ (ev f x) w := rfl
theorem oV_pick (c a b : Operand) : opV P (.pick c a b) ty f w κ = B (sPick (ev f c) (ev f a) (ev f b) w) κ := rfl
theorem oV_alloc (t : TypeId) : opV P (.alloc t) ty f w κ = B (sAlloc P t w) κ := rfl
theorem oV_box (t : TypeId) (x : Operand) : opV P (.box t x) ty f w κ = B (sBox t (ev f x) w) κ := rfl
theorem oV_build (t : TypeId) (ps : List (Nat × Operand)) : opV P (.build t ps.toArray) ty f w κ = B (sBuild P t (evs f ps) w) κ := rfl
theorem oV_buildSlice (t : TypeId) (n : Nat) (ps : List (Nat × Operand)) : opV P (.buildSlice t n ps.toArray) ty f w κ = (sBuildSliceOk P t = true ∧ B (sBuildSlice P t n (evs f ps) w) κ) := rfl
theorem oV_load (t : TypeId) (x : Operand) : opV P (.load t x) ty f w κ = B (sLoad P t (ev f x) w) κ := rfl
theorem oV_store (t : TypeId) (x v : Operand) : opV P (.store t x v) ty f w κ = B (sStore P t (ev f x) (ev f v) w) κ := rfl
theorem oV_nilCheck (x : Operand) : opV P (.nilCheck x) ty f w κ = B (sNil (ev f x) w) κ := rfl
theorem oV_bin (o : BinOp) (t t' : TypeId) (x y : Operand) : opV P (.binOp o t x y t') ty f w κ = if ty = 999999 then rawV P (.binOp o t x y t') ty f w κ else B (sBin P o t (ev f x) (ev f y) w) κ := rfl
theorem oV_convert (s t : TypeId) (x : Operand) : opV P (.convert s t x) ty f w κ = B (sConv P s t (ev f x) w) κ := rfl
theorem oV_fieldAddr (s : TypeId) (x : Operand) (k : Nat) : opV P (.fieldAddr s x k) ty f w κ = B (sFieldAddr P s (ev f x) k w) κ := rfl
theorem oV_field (s : TypeId) (x : Operand) (k : Nat) : opV P (.field s x k) ty f w κ = B (sField P s (ev f x) k w) κ := rfl
theorem oV_indexAddr (t : TypeId) (x i : Operand) : opV P (.indexAddr t x i) ty f w κ = B (sIndexAddr P t (ev f x) (ev f i) w) κ := rfl
theorem oV_extract (x : Operand) (i : Nat) : opV P (.extract x i) ty f w κ = B (sExtract (ev f x) i w) κ := rfl
theorem oV_not (t : TypeId) (x : Operand) : opV P (.unOp .not t x) ty f w κ = B (sNot (ev f x) w) κ := rfl
theorem oV_makeMap (t : TypeId) : opV P (.makeMap t none) ty f w κ = B (sMakeMap w) κ := rfl
theorem oV_makeSlice (t : TypeId) (l c : Operand) : opV P (.makeSlice t l c) ty f w κ = B (sMakeSlice P t (ev f l) (ev f c) w) κ := rfl
theorem oV_slice (t : TypeId) (x : Operand) (lo hi : Option Operand) : opV P (.slice t x lo hi none) ty f w κ = B (sSlice P t (ev f x) (evo f lo) (evo f hi) w) κ := rfl
theorem oV_len (x : Operand) (t : TypeId) : opV P (.call ⟨.builtin .len, #[x], #[t]⟩) ty f w κ = B (sLen P t (ev f x) w) κ := rfl
theorem oV_max (x y : Operand) (ts : Array TypeId) : opV P (.call ⟨.builtin .max, #[x, y], ts⟩) ty f w κ = B (sMax (ev f x) (ev f y) w) κ := rfl
theorem oV_min (x y : Operand) (ts : Array TypeId) : opV P (.call ⟨.builtin .min, #[x, y], ts⟩) ty f w κ = B (sMin (ev f x) (ev f y) w) κ := rfl
theorem oV_func (g : Nat) (as : List Operand) (ts : Array TypeId) : opV P (.call ⟨.value (.func g), as.toArray, ts⟩) ty f w κ = VRet P g (evl f as).toArray w κ := by
  simp only [opV, callV, List.map_toArray, evl]
/-- an operation that is met by a run of the model -/
def RunV (P : Program) (w : World) (κ : Value → World → Prop) (s : Sem Value) : Prop := ∀ T wa, w = tombW T wa → TB T wa → match s.run P wa with | .ok v wa' => upV κ T wa v wa' | .halt _ _ => False
def RunU (P : Program) (w : World) (κ : Value → World → Prop) (s : Sem Unit) : Prop := ∀ T wa, w = tombW T wa → TB T wa → match s.run P wa with | .ok _ wa' => upV κ T wa undef wa' | .halt _ _ => False
theorem oV_lookup (t : TypeId) (x i : Operand) (ok : Bool) : opV P (.lookup t x i ok) ty f w κ = RunV P w κ (Instr.lookup t (ev f x) (ev f i) ok) := by
  exact forall_congr fun T => forall_congr fun wa => forall_congr fun _ => forall_congr fun _ => raw_XV _
theorem oV_range (t : TypeId) (x : Operand) : opV P (.range t x) ty f w κ = RunV P w κ (Instr.range t (ev f x)) := by
  exact forall_congr fun T => forall_congr fun wa => forall_congr fun _ => forall_congr fun _ => raw_XV _
theorem oV_next (x : Operand) (s : Bool) : opV P (.next x s) ty f w κ = RunV P w κ (Instr.next (ev f x) s ty) := by
  exact forall_congr fun T => forall_congr fun wa => forall_congr fun _ => forall_congr fun _ => raw_XV _
theorem oV_entry (x : Operand) : opV P (.entry x) ty f w κ = RunV P w κ (Instr.entry (ev f x)) := by
  exact forall_congr fun T => forall_congr fun wa => forall_congr fun _ => forall_congr fun _ => raw_XV _
theorem oV_mapUpdate (t : TypeId) (m k v : Operand) : opV P (.mapUpdate t m k v) ty f w κ = RunU P w κ (Instr.mapUpdate t (ev f m) (ev f k) (ev f v)) := by
  exact forall_congr fun T => forall_congr fun wa => forall_congr fun _ => forall_congr fun _ => raw_XU _
theorem oV_append (s x : Operand) (ts : Array TypeId) : opV P (.call ⟨.builtin .append, #[s, x], ts⟩) ty f w κ = RunV P w κ (Builtin.append_ ts ty #[ev f s, ev f x]) := by
  refine forall_congr fun T => forall_congr fun wa => forall_congr fun _ => forall_congr fun _ => Eq.trans ?_ (raw_XV (P := P) (K := upV κ T wa) (w := wa) (Builtin.append_ ts ty #[ev f s, ev f x]))
  simp only [raw, execOp, resolve, invoke, builtin, run_bind, Sem.run, pure, List.map_toArray, List.map_cons, List.map_nil]
theorem oV_delete (s x : Operand) (ts : Array TypeId) : opV P (.call ⟨.builtin .delete, #[s, x], ts⟩) ty f w κ = RunV P w κ (Builtin.delete_ ts ty #[ev f s, ev f x]) := by
  refine forall_congr fun T => forall_congr fun wa => forall_congr fun _ => forall_congr fun _ => Eq.trans ?_ (raw_XV (P := P) (K := upV κ T wa) (w := wa) (Builtin.delete_ ts ty #[ev f s, ev f x]))
  simp only [raw, execOp, resolve, invoke, builtin, run_bind, Sem.run, pure, List.map_toArray, List.map_cons, List.map_nil]
theorem oV_copy (s x : Operand) (ts : Array TypeId) : opV P (.call ⟨.builtin .copy, #[s, x], ts⟩) ty f w κ = RunV P w κ (Builtin.copy_ ts ty #[ev f s, ev f x]) := by
  refine forall_congr fun T => forall_congr fun wa => forall_congr fun _ => forall_congr fun _ => Eq.trans ?_ (raw_XV (P := P) (K := upV κ T wa) (w := wa) (Builtin.copy_ ts ty #[ev f s, ev f x]))
  simp only [raw, execOp, resolve, invoke, builtin, run_bind, Sem.run, pure, List.map_toArray, List.map_cons, List.map_nil]
end
/-! ### results -/
section
variable (P : Program) (Ψ : Value → World → Prop) (f : Fr) (w : World)
def RO (r : Option Value) (k : Value → Prop) : Prop := OB r k
theorem fV_0 : finV P [] Ψ .ret f w = Ψ (.tuple #[]) w := rfl
theorem fV_0n : finV P [] Ψ .normal f w = Ψ (.tuple #[]) w := rfl
theorem fV_t (a : Nat) : finV P [.tmp a] Ψ .ret f w = Ψ (f a) w := rfl
theorem fV_tn (a : Nat) : finV P [.tmp a] Ψ .normal f w = Ψ (f a) w := rfl
def K1 (Ψ : Value → World → Prop) (w : World) (v : Value) : Prop := Ψ v w
theorem K1_app (v : Value) : K1 Ψ w v = Ψ v w := rfl
theorem fV_b (a n : Nat) (ag : Bool) : finV P [.box a n ag] Ψ .ret f w = OB (sPart (f a) 0 n ag) (K1 Ψ w) := rfl
theorem fV_tt (a b : Nat) : finV P [.tmp a, .tmp b] Ψ .ret f w = Ψ (.tuple #[f a, f b]) w := rfl
def K2 (Ψ : Value → World → Prop) (w : World) (u v : Value) : Prop := Ψ (.tuple #[u, v]) w
theorem K2_app (u v : Value) : K2 Ψ w u v = Ψ (.tuple #[u, v]) w := rfl
def K2b (Ψ : Value → World → Prop) (w : World) (r : Option Value) (u : Value) : Prop := OB r (K2 Ψ w u)
theorem K2b_app (r : Option Value) (u : Value) : K2b Ψ w r u = OB r (K2 Ψ w u) := rfl
def K2t (Ψ : Value → World → Prop) (w : World) (v u : Value) : Prop := Ψ (.tuple #[u, v]) w
theorem K2t_app (v u : Value) : K2t Ψ w v u = Ψ (.tuple #[u, v]) w := rfl
theorem fV_bt (a n b : Nat) (ag : Bool) : finV P [.box a n ag, .tmp b] Ψ .ret f w = OB (sPart (f a) 0 n ag) (K2t Ψ w (f b)) := rfl
theorem fV_bb (a n b m : Nat) (ag bg : Bool) : finV P [.box a n ag, .box b m bg] Ψ .ret f w = OB (sPart (f a) 0 n ag) (K2b Ψ w (sPart (f b) 0 m bg)) := rfl
theorem fV_ttt (a b c : Nat) : finV P [.tmp a, .tmp b, .tmp c] Ψ .ret f w = Ψ (.tuple #[f a, f b, f c]) w := rfl
def K3b (Ψ : Value → World → Prop) (w : World) (r : Option Value) (x u : Value) : Prop := OB r fun v => Ψ (.tuple #[u, v, x]) w
end
end Go.W
set_option linter.unusedSimpArgs false
set_option linter.unusedVariables false
set_option linter.defProp false
namespace Go.W
open Go.RowKit
section
variable {P : Program} {w : World} {κ : Value → World → Prop}
theorem RunV_same {s : Sem Value} {v : Value} (h : ∀ T wa, w = tombW T wa → TB T wa → s.run P wa = .ok v wa) (hk : κ v w) : RunV P w κ s := by
  intro T wa hw hT
  rw [h T wa hw hT]
  exact ⟨T, Kp.refl hT, hw ▸ hk⟩
theorem rV_lookup {t e : TypeId} {z : Value} {r c : Nat} {l : List Ent} (ht : mpe P t = some e) (hz : zrv P e = some z) (hr : w.heap[r]? = some (.map (mk l) c)) {k : Int} {ok : Bool}
    (h : κ (if ok then .tuple #[(mget l k).getD z, .bool (mget l k).isSome] else (mget l k).getD z) w) : RunV P w κ (Instr.lookup t (.map (some r)) (.int .i64 k) ok) :=
  RunV_same (fun T wa hw hT => run_lookup ht hz (tombW_map (hw ▸ hr)).2 k ok) h
theorem rV_lookup_nil {t e : TypeId} {z : Value} (ht : mpe P t = some e) (hz : zrv P e = some z) {k : Int} {ok : Bool} (h : κ (if ok then .tuple #[z, .bool false] else z) w) : RunV P w κ (Instr.lookup t (.map none) (.int .i64 k) ok) :=
  RunV_same (fun T wa hw hT => run_lookup_nil ht hz k ok) h
theorem rV_update {t e : TypeId} {r c : Nat} {l : List Ent} (ht : mpe P t = some e) (hr : w.heap[r]? = some (.map (mk l) c)) (hk : (l.map (·.1)).Nodup) {k : Int} {v : Value} (h : κ undef (w.putb r (.map (mk (mset l c k v).1) (mset l c k v).2))) :
    RunU P w κ (Instr.mapUpdate t (.map (some r)) (.int .i64 k) v) := by
  intro T wa hw hT
  subst hw
  obtain ⟨hTr, hr⟩ := tombW_map hr
  rw [run_mapUpdate ht hr hk k v]
  exact ⟨T, Kp.putb hT hTr _, by rw [tombW_putb hTr]; exact h⟩
theorem rV_delete {t kt0 e ty : TypeId} {r c : Nat} {l : List Ent} (ht : mpe P t = some e) (hr : w.heap[r]? = some (.map (mk l) c)) (hk : (l.map (·.1)).Nodup) {k : Int} (h : κ (.tuple #[]) (w.putb r (.map (mk (mdel l k)) c))) :
    RunV P w κ (Builtin.delete_ #[t, kt0] ty #[.map (some r), .int .i64 k]) := by
  intro T wa hw hT
  subst hw
  obtain ⟨hTr, hr⟩ := tombW_map hr
  rw [run_delete ht hr hk k]
  exact ⟨T, Kp.putb hT hTr _, by rw [tombW_putb hTr]; exact h⟩
theorem rV_range {t : TypeId} {r c : Nat} {es : Array MapEntry} (ht : isMapT P t = true) (hr : w.heap[r]? = some (.map es c)) (h : κ (.pointer (some ⟨w.heap.size, 0, none⟩)) (w.alloc (.mapIter (some r) c #[] c))) : RunV P w κ (Instr.range t (.map (some r))) := by
  intro T wa hw hT
  subst hw
  obtain ⟨hTr, hr⟩ := tombW_map hr
  rw [run_range ht hr]
  rw [tombW_size, ← tombW_alloc hT] at h
  exact ⟨T, Kp.alloc hT _, h⟩
theorem rV_range_nil {t : TypeId} (ht : isMapT P t = true) (h : κ (.pointer (some ⟨w.heap.size, 0, none⟩)) (w.alloc (.mapIter none 0 #[] 0))) : RunV P w κ (Instr.range t (.map none)) := by
  intro T wa hw hT
  subst hw
  rw [run_range_nil ht]
  rw [tombW_size, ← tombW_alloc hT] at h
  exact ⟨T, Kp.alloc hT _, h⟩
theorem rV_next_nil {it s : Nat} {seen : Array Nat} {st : Nat} {ty : TypeId} (hi : w.heap[it]? = some (.mapIter none s seen st)) (h : κ (.tuple #[.bool false]) w) : RunV P w κ (Instr.next (.pointer (some ⟨it, 0, none⟩)) false ty) :=
  RunV_same (fun T wa hw hT => run_next_nil (tombW_iter (hw ▸ hi)).2) h
theorem rV_next {it r c : Nat} {seen : Array Nat} {l : List Ent} {ty : TypeId} (hi : w.heap[it]? = some (.mapIter (some r) c seen c)) (hr : w.heap[r]? = some (.map (mk l) c)) (hlt : ∀ p ∈ l, p.2.2 < c)
    (hdone : (∀ p ∈ l, p.2.2 ∈ seen) → κ (.tuple #[.bool false]) w)
    (hstep : ∀ p ∈ l, p.2.2 ∉ seen → ∀ w1, (w1 = w ∨ w1 = w.drew) → κ (.tuple #[.bool true, .int .i64 p.1, p.2.1]) (w1.putb it (.mapIter (some r) c (seen.push p.2.2) c))) : RunV P w κ (Instr.next (.pointer (some ⟨it, 0, none⟩)) false ty) := by
  intro T wa hw hT
  subst hw
  obtain ⟨hTr, hr⟩ := tombW_map hr
  obtain ⟨hTi, hi⟩ := tombW_iter hi
  rcases run_next (P := P) (ty := ty) hi hr hlt with ⟨h1, h2⟩ | ⟨p, hp, hn, w1, hw1, h2⟩
  · rw [h2]; exact ⟨T, Kp.refl hT, hdone h1⟩
  · rw [h2]
    rcases hw1 with rfl | rfl
    · exact ⟨T, Kp.putb hT hTi _, by rw [tombW_putb hTi]; exact hstep p hp hn _ (.inl rfl)⟩
    · exact ⟨T, (Kp.drew hT).trans (Kp.putb (w := wa.drew) hT hTi _), by rw [tombW_putb hTi]; exact hstep p hp hn _ (.inr rfl)⟩
theorem rV_entry {it r c s : Nat} {seen : Array Nat} {l : List Ent} {p : Ent} (hi : w.heap[it]? = some (.mapIter (some r) s (seen.push p.2.2) c)) (hr : w.heap[r]? = some (.map (mk l) c)) (hb : (l.map (·.2.2)).Nodup) (hp : p ∈ l) (h : κ (.tuple #[.int .i64 p.1, p.2.1]) w) :
    RunV P w κ (Instr.entry (.pointer (some ⟨it, 0, none⟩))) :=
  RunV_same (fun T wa hw hT => run_entry (tombW_iter (hw ▸ hi)).2 (tombW_map (hw ▸ hr)).2 hb hp) h
theorem own_tomb {T : Nat → Bool} {wa : World} {base : Nat} {e : TypeId} {size : Nat} {v : Value} {n : Nat} {xs : List Value} (h : (tombW T wa).ownsRow base e size v n xs) : wa.ownsRow base e size v n xs ∧ ∀ b, v.ownBlock = some b → T b = false := by
  obtain ⟨h1, h2⟩ := h
  rcases h2 with ⟨rfl, hn⟩ | ⟨g, cap, cur, rfl, hb, hg, h3⟩
  · exact ⟨⟨h1, .inl ⟨rfl, hn⟩⟩, by simp [Value.ownBlock]⟩
  · obtain ⟨hT, hg⟩ := tombW_cells hg
    refine ⟨⟨h1, .inr ⟨g, cap, cur, rfl, hb, hg, h3⟩⟩, ?_⟩
    intro b hb
    simp only [Value.ownBlock, Option.some.injEq] at hb
    subst hb; exact hT
theorem tomb_own {T : Nat → Bool} {wa : World} {base : Nat} {e : TypeId} {size : Nat} {v : Value} {n : Nat} {xs : List Value} (h : wa.ownsRow base e size v n xs) (hb : ∀ b, v.ownBlock = some b → T b = false) : (tombW T wa).ownsRow base e size v n xs := by
  obtain ⟨h1, h2⟩ := h
  refine ⟨h1, ?_⟩
  rcases h2 with ⟨rfl, hn⟩ | ⟨g, cap, cur, rfl, hb', hg, h3⟩
  · exact .inl ⟨rfl, hn⟩
  · exact .inr ⟨g, cap, cur, rfl, hb', by rw [tombW_see (hb g rfl)]; exact hg, h3⟩
theorem rV_append {base : Nat} {t ty e : TypeId} {size bytes : Nat} {z : Value} (he : elt P t = some e) (hs : szv P e = some size) (hb : byv P e = some bytes) (hz : zrv P e = some z)
    (hzs : z.cells.size = size) (hpos : 0 < size) {v : Value} {n : Nat} {xs : List Value} (hown : w.ownsRow base e size v n xs) {a : Addr} {m c : Nat} {news : List Value} (hl : news.length = m * size)
    (hnews : ∀ j u, news[j]? = some u → w.cell? (a.add j) = some u) (h1 : ∀ u ∈ news, one u = true) (h63 : n + m ≤ maxLen) (hbytes : (n + m) * bytes ≤ 140737488355328) (hbase : base ≤ w.heap.size)
    (h : ∀ v' w', w'.ownsRow base e size v' (n + m) (xs ++ news) → w.grownBy w' v.ownBlock → (v'.ownBlock = v.ownBlock ∨ v'.ownBlock = some w.heap.size) → κ v' w') : RunV P w κ (Builtin.append_ #[t, t] ty #[v, .slice (some a) m c]) := by
  intro T wa hw hT
  subst hw
  obtain ⟨hown, hTv⟩ := own_tomb hown
  rw [tombW_size] at hbase h
  obtain ⟨i, hi, rfl⟩ := Option.map_eq_some_iff.1 hs
  obtain ⟨i', hi', hzi⟩ := Option.bind_eq_some_iff.1 hz
  obtain ⟨i'', hi'', rfl⟩ := Option.map_eq_some_iff.1 hb
  rw [hi] at hi' hi''
  simp only [Option.some.injEq] at hi' hi''
  subst hi' hi''
  obtain ⟨v', w', hr, ho, hg, _, hnew⟩ := run_append_own_at (P := P) wa base t ty e i z i.size i.bytes (elt_spec he) hi hzi rfl rfl hzs hpos v n xs hown a m c news hl (fun j u hu => tombW_cell (hnews j u hu)) (fun u hu => by have := h1 u hu; cases u <;> simp_all [one, Value.oneCell']) h63 hbytes hbase
  rw [hr]
  have hTB : TB T w' := fun b hb => hT b (Nat.le_trans hg.size hb)
  have hK : Kp T wa T w' := ⟨hT, hTB, hg.size, fun _ _ => rfl, fun b hb => hg.block b (hT.lt hb) (fun e => by have := hTv b e.symm; rw [this] at hb; cases hb)⟩
  have hT' : ∀ b, v'.ownBlock = some b → T b = false := by
    intro b hb
    rcases hnew with h | h
    · exact hTv b (h ▸ hb)
    · rw [h] at hb; simp only [Option.some.injEq] at hb; subst hb; exact hT _ (Nat.le_refl _)
  refine ⟨T, hK, h v' (tombW T w') (tomb_own ho hT') ?_ hnew⟩
  refine ⟨hg.os, hg.tape, hg.output, by rw [tombW_size, tombW_size]; exact hg.size, fun k hk hne => ?_⟩
  rw [tombW_size] at hk
  rw [tombW_get, tombW_get, hg.block k hk hne]
theorem rV_append_nil {base : Nat} {t ty e : TypeId} {size : Nat} (he : elt P t = some e) (hs : szv P e = some size) {v : Value} {n : Nat} {xs : List Value} (hown : w.ownsRow base e size v n xs) (h : κ v w) : RunV P w κ (Builtin.append_ #[t, t] ty #[v, .slice none 0 0]) :=
  RunV_same (fun T wa hw hT => own_append_nil he hs (own_tomb (hw ▸ hown)).1) h
end
/-! ### regions that draw their order -/
theorem ef_ext {P : Program} {w1 w2 : World} (hE : Ext w1 w2) {i : VI} {s : OK × Fr} {E : Eff} (h : ef P w1 i s = some E) : ef P w2 i s = some E := by
  cases i <;> simp only [ef] at h ⊢
  case op d o ty =>
    obtain ⟨p, hp, rfl⟩ := Option.map_eq_some_iff.1 h
    obtain ⟨v, w'⟩ := p
    rw [rdW_ext hE hp]; rfl
  all_goals exact h
theorem YD_ext {P : Program} {w1 w2 : World} {Ps : Psi} {K : OK → Fr → World → Prop} (hE : Ext w1 w2) : ∀ (l : List DI) (F : Fact) (s : OK × Fr), YD P w1 Ps K l F s → YD P w2 Ps K l F s := by
  intro l
  induction l with
  | nil => intro F s h w' h1 h2; exact h w' (hE.trans h1) h2
  | cons o l ih =>
    intro F s h
    have h' : stepY P w1 Ps o (YD P w1 Ps K l) F s := h
    rcases stepY_iff.1 h' with ⟨E, hb, hk⟩ | ⟨hp, hx⟩
    · refine stepY_iff.2 (.inl ⟨E, ?_, ih _ _ hk⟩)
      rcases hb with ⟨a, b, c⟩ | hb
      · exact .inl ⟨a, b, ef_ext hE c⟩
      · exact .inr hb
    · refine stepY_iff.2 (.inr ⟨hp, ?_⟩)
      unfold PhY at hx ⊢
      split at hx
      · exact ⟨hx.1, hx.2.1, fun w' h1 h2 => hx.2.2.1 w' (hE.trans h1) h2, fun v ⟨w', q1, q2, q3⟩ => ih _ _ (hx.2.2.2 v ⟨w', hE.trans q1, q2, q3⟩)⟩
      · exact hx.elim
/-- the way in: what each operation that is known by what it hands back hands back, by its number -/
theorem DW_intro {P : Program} {l : List DI} {K : OK → Fr → World → Prop} {f : Fr} {w : World} (Ps : Psi) (h : YD P w Ps K l F0 (ok0, f)) : DW P l K f w := .inl ⟨Ps, YD_ext (Ext.refl w).drew _ _ _ h⟩
def runY (P : Program) (w1 : World) (Ps : Psi) (n : Nat) (deps : List Nat) (i : VI) (k : Fact → OK × Fr → Prop) (F : Fact) (s : OK × Fr) : Prop :=
  if isL i = true then kE k F s (ef P w1 i s) else PhY P w1 Ps ⟨n, deps, none, i⟩ k F s
def GY (P : Program) (w1 : World) (Ps : Psi) (n : Nat) (deps : List Nat) (i : VI) (k : Fact → OK × Fr → Prop) (F : Fact) (ok : OK) (f : Fr) (v : Value) (want : Bool) : Prop := G v want (runY P w1 Ps n deps i k F (ok, f)) (k F (ap (es i) (ok, f)))
def QE (k : Fact → OK × Fr → Prop) (F : Fact) (ok : OK) (f : Fr) (d : Option Nat) (r : Option (Value × World)) : Prop := match r with | some (v, _) => k F (ok, updO f d v) | none => False
def QO1 (k : Fact → OK × Fr → Prop) (F : Fact) (ok : OK) (f : Fr) (d : Option Nat) (v : Value) : Prop := k F (ok, updO f d v)
def DE (w1 : World) (K : OK → Fr → World → Prop) (F : Fact) (ok : OK) (f : Fr) : Prop := ∀ w', Ext w1 w' → FA F w' → K ok f w'
theorem G_wants (f : Fr) (t : Nat) (want : Bool) (A B : Prop) : G (f t) want A B = if wants (some (t, want)) f = true then A else B := by
  have hw : wants (some (t, want)) f = match f t with | .bool b => b == want | _ => false := rfl
  rw [hw]
  clear hw
  unfold G
  cases f t with
  | bool b =>
    by_cases h : b = want
    · subst h; simp
    · simp [h]
  | _ => simp
theorem kE_ite (k : Fact → OK × Fr → Prop) (F : Fact) (s : OK × Fr) (p : Prop) [Decidable p] (r : Option Eff) : kE k F s (if p then r else none) = (p ∧ kE k F s r) := by by_cases h : p <;> simp [h, kE]
section
variable (P : Program) (w1 : World) (Ps : Psi) (K : OK → Fr → World → Prop) (n : Nat) (deps : List Nat) (k : Fact → OK × Fr → Prop) (F : Fact) (ok : OK) (f : Fr) (d : Option Nat) (ty : TypeId)
theorem YD_nil : YD P w1 Ps K [] F (ok, f) = DE w1 K F ok f := rfl
theorem YD_op (i : VI) (l : List DI) : YD P w1 Ps K (⟨n, deps, none, i⟩ :: l) F (ok, f) = runY P w1 Ps n deps i (YD P w1 Ps K l) F (ok, f) := by
  show stepY P w1 Ps _ _ F (ok, f) = _
  simp [stepY, wants, runY, PhY]
theorem YD_gd (t : Nat) (want : Bool) (i : VI) (l : List DI) : YD P w1 Ps K (⟨n, deps, some (t, want), i⟩ :: l) F (ok, f) = GY P w1 Ps n deps i (YD P w1 Ps K l) F ok f (f t) want := by
  unfold GY
  rw [G_wants]
  rfl
theorem GY_tt (i : VI) : GY P w1 Ps n deps i k F ok f (.bool true) true = runY P w1 Ps n deps i k F (ok, f) := by simp [GY, G]
theorem GY_ff (i : VI) : GY P w1 Ps n deps i k F ok f (.bool false) false = runY P w1 Ps n deps i k F (ok, f) := by simp [GY, G]
theorem GY_tf (i : VI) : GY P w1 Ps n deps i k F ok f (.bool true) false = k F (ap (es i) (ok, f)) := by simp [GY, G]
theorem GY_ft (i : VI) : GY P w1 Ps n deps i k F ok f (.bool false) true = k F (ap (es i) (ok, f)) := by simp [GY, G]
theorem GY_un (i : VI) (want : Bool) : GY P w1 Ps n deps i k F ok f undef want = k F (ap (es i) (ok, f)) := rfl
theorem ae_op (o : Op) : ap (es (.op d o ty)) (ok, f) = (ok, updO f d undef) := rfl
theorem ae_part (via : Option Nat) (b off m : Nat) (ag : Bool) : ap (es (.part d via b off m ag)) (ok, f) = (ok, updO f d undef) := rfl
theorem ae_path (e b off : Nat) (via : Option (Nat × Nat)) : ap (es (.path e b off via)) (ok, f) = (oclr ok e, f) := rfl
theorem QE_some (v : Value) (w' : World) : QE k F ok f d (some (v, w')) = k F (ok, updO f d v) := rfl
theorem QE_ite (p : Prop) [Decidable p] (r : Option (Value × World)) : QE k F ok f d (if p then r else none) = (p ∧ QE k F ok f d r) := by by_cases h : p <;> simp [h, QE]
theorem QO1_app (v : Value) : QO1 k F ok f d v = k F (ok, updO f d v) := rfl
theorem QE_eq (r : Option (Value × World)) : kE k F (ok, f) (r.map fun p => Eff.slot d p.1) = QE k F ok f d r := by cases r <;> rfl
theorem rY_move (x : Operand) : runY P w1 Ps n deps (.op d (.move x) ty) k F (ok, f) = k F (ok, updO f d (ev f x)) := rfl
theorem rY_assign (x : Operand) : runY P w1 Ps n deps (.op d (.assign x) ty) k F (ok, f) = k F (ok, updO f d (ev f x)) := rfl
theorem rY_pick (c a b : Operand) : runY P w1 Ps n deps (.op d (.pick c a b) ty) k F (ok, f) = QE k F ok f d (sPick (ev f c) (ev f a) (ev f b) w1) := QE_eq k F ok f d _
theorem rY_build (t : TypeId) (ps : List (Nat × Operand)) : runY P w1 Ps n deps (.op d (.build t ps.toArray) ty) k F (ok, f) = QE k F ok f d (sBuild P t (evs f ps) w1) := QE_eq k F ok f d _
theorem rY_load (t : TypeId) (x : Operand) : runY P w1 Ps n deps (.op d (.load t x) ty) k F (ok, f) = if ty = 999999 then PhY P w1 Ps ⟨n, deps, none, .op d (.load t x) ty⟩ k F (ok, f) else QE k F ok f d (sLoad P t (ev f x) w1) := by
  unfold runY
  by_cases h : ty = 999999
  · rw [if_pos h, if_neg (by simp [isL, h])]
  · rw [if_neg h, if_pos (by simp [isL, h])]
    exact QE_eq k F ok f d _
theorem rY_nilCheck (x : Operand) : runY P w1 Ps n deps (.op d (.nilCheck x) ty) k F (ok, f) = QE k F ok f d (sNil (ev f x) w1) := QE_eq k F ok f d _
theorem rY_bin (o : BinOp) (t t' : TypeId) (x y : Operand) : runY P w1 Ps n deps (.op d (.binOp o t x y t') ty) k F (ok, f) = QE k F ok f d (sBin P o t (ev f x) (ev f y) w1) := QE_eq k F ok f d _
theorem rY_convert (s t : TypeId) (x : Operand) : runY P w1 Ps n deps (.op d (.convert s t x) ty) k F (ok, f) = QE k F ok f d (sConv P s t (ev f x) w1) := QE_eq k F ok f d _
theorem rY_fieldAddr (s : TypeId) (x : Operand) (j : Nat) : runY P w1 Ps n deps (.op d (.fieldAddr s x j) ty) k F (ok, f) = QE k F ok f d (sFieldAddr P s (ev f x) j w1) := QE_eq k F ok f d _
theorem rY_field (s : TypeId) (x : Operand) (j : Nat) : runY P w1 Ps n deps (.op d (.field s x j) ty) k F (ok, f) = QE k F ok f d (sField P s (ev f x) j w1) := QE_eq k F ok f d _
theorem rY_indexAddr (t : TypeId) (x i : Operand) : runY P w1 Ps n deps (.op d (.indexAddr t x i) ty) k F (ok, f) = QE k F ok f d (sIndexAddr P t (ev f x) (ev f i) w1) := QE_eq k F ok f d _
theorem rY_extract (x : Operand) (i : Nat) : runY P w1 Ps n deps (.op d (.extract x i) ty) k F (ok, f) = QE k F ok f d (sExtract (ev f x) i w1) := QE_eq k F ok f d _
theorem rY_not (t : TypeId) (x : Operand) : runY P w1 Ps n deps (.op d (.unOp .not t x) ty) k F (ok, f) = QE k F ok f d (sNot (ev f x) w1) := QE_eq k F ok f d _
theorem rY_slice (t : TypeId) (x : Operand) (lo hi : Option Operand) : runY P w1 Ps n deps (.op d (.slice t x lo hi none) ty) k F (ok, f) = QE k F ok f d (sSlice P t (ev f x) (evo f lo) (evo f hi) w1) := QE_eq k F ok f d _
theorem rY_len (x : Operand) (t : TypeId) : runY P w1 Ps n deps (.op d (.call ⟨.builtin .len, #[x], #[t]⟩) ty) k F (ok, f) = QE k F ok f d (sLen P t (ev f x) w1) := QE_eq k F ok f d _
theorem rY_max (x y : Operand) (ts : Array TypeId) : runY P w1 Ps n deps (.op d (.call ⟨.builtin .max, #[x, y], ts⟩) ty) k F (ok, f) = QE k F ok f d (sMax (ev f x) (ev f y) w1) := QE_eq k F ok f d _
theorem rY_min (x y : Operand) (ts : Array TypeId) : runY P w1 Ps n deps (.op d (.call ⟨.builtin .min, #[x, y], ts⟩) ty) k F (ok, f) = QE k F ok f d (sMin (ev f x) (ev f y) w1) := QE_eq k F ok f d _
theorem rY_path0 (e b off : Nat) : runY P w1 Ps n deps (.path e b off none) k F (ok, f) = (live (f b) = true ∧ k F (oset ok e b off, f)) := by
  show kE k F (ok, f) (ef P w1 (.path e b off none) (ok, f)) = _
  simp only [ef]
  rw [kE_ite, and_assoc]
  show (_ ∧ True ∧ _) = _
  simp only [true_and]
  rfl
theorem rY_path1 (e b off y o : Nat) : runY P w1 Ps n deps (.path e b off (some (y, o))) k F (ok, f) = (live (f b) = true ∧ ok y = some (b, o) ∧ k F (oset ok e b off, f)) := by
  show kE k F (ok, f) (ef P w1 (.path e b off (some (y, o))) (ok, f)) = _
  simp only [ef]
  rw [kE_ite, and_assoc]
  rfl
theorem rY_part0 (b m : Nat) (ag : Bool) : runY P w1 Ps n deps (.part d none b 0 m ag) k F (ok, f) = OB (sPart (f b) 0 m ag) (QO1 k F ok f d) := by
  show kE k F (ok, f) (ef P w1 (.part d none b 0 m ag) (ok, f)) = _
  simp only [ef]
  rw [kE_ite]
  show (0 = 0 ∧ _) = _
  simp only [true_and]
  cases sPart (f b) 0 m ag <;> rfl
theorem rY_part1 (e b off m : Nat) (ag : Bool) : runY P w1 Ps n deps (.part d (some e) b off m ag) k F (ok, f) = (ok e = some (b, off) ∧ OB (sPart (f b) off m ag) (QO1 k F ok f d)) := by
  show kE k F (ok, f) (ef P w1 (.part d (some e) b off m ag) (ok, f)) = _
  simp only [ef]
  rw [kE_ite]
  show (ok e = some (b, off) ∧ _) = _
  congr 1
  cases sPart (f b) off m ag <;> rfl
theorem rY_set (b m : Nat) (x : Operand) : runY P w1 Ps n deps (.set b m x) k F (ok, f) = (live (f b) = true ∧ (live (ev f x) = true ∧ (ev f x).cells.size = m ∧ (ev f x).cells.toList.all one = true) ∧ k F (ok, upd f b (ev f x))) := by
  show kE k F (ok, f) (ef P w1 (.set b m x) (ok, f)) = _
  simp only [ef]
  rw [kE_ite, and_assoc]
  rfl
theorem rY_new (b : Nat) (z : Value) : runY P w1 Ps n deps (.new b z) k F (ok, f) = k F (odel ok b, upd f b z) := rfl
end
section
variable {P : Program} {w1 : World} {Ps : Psi} {K : OK → Fr → World → Prop} {n : Nat} {deps : List Nat} {k : Fact → OK × Fr → Prop} {F : Fact} {ok : OK} {f : Fr} {d : Option Nat} {ty : TypeId}
/-- an operation that is known by what it hands back -/
theorem rY_ph {o : Op} (hl : lightOp o = false) (hs : isSel o = false) (hst : ∀ v, St (Ps n (args o f) v)) (hop : ∀ w', Ext w1 w' → FD F deps w' → opV P o ty f w' fun v w'' => Ext w' w'' ∧ Ps n (args o f) v w'')
    (hk : ∀ v, (∃ w', Ext w1 w' ∧ FA F w' ∧ Ps n (args o f) v w') → k (updF F n (Ps n (args o f) v)) (ok, updO f d v)) : runY P w1 Ps n deps (.op d o ty) k F (ok, f) := by
  unfold runY
  rw [if_neg (by cases o <;> simp_all [isL, lightOp])]
  exact ⟨hs, hst, hop, hk⟩
/-- a marked load -/
theorem rY_phl {t : TypeId} {x : Operand} (hst : ∀ v, St (Ps n (args (.load t x) f) v)) (hop : ∀ w', Ext w1 w' → FD F deps w' → B (sLoad P t (ev f x) w') fun v w'' => Ext w' w'' ∧ Ps n (args (.load t x) f) v w'')
    (hk : ∀ v, (∃ w', Ext w1 w' ∧ FA F w' ∧ Ps n (args (.load t x) f) v w') → k (updF F n (Ps n (args (.load t x) f) v)) (ok, updO f d v)) : PhY P w1 Ps ⟨n, deps, none, .op d (.load t x) ty⟩ k F (ok, f) :=
  ⟨rfl, hst, hop, hk⟩
/-- an addition that may wrap around -/
theorem rV_addw {x y : Operand} {t t' : TypeId} {w : World} {κ : Value → World → Prop} {q : IntKind} {a b : Int} (hx : ev f x = .int q a) (hy : ev f y = .int q b) (h : κ (.int q (q.wrap (a + b))) w) : rawV P (.binOp .add t x y t') ty f w κ := by
  intro T wa hw hT
  unfold raw
  simp only [execOp, run_bind, hx, hy]
  rw [run_eqGuard_int]
  simp only [binOp, Op.intArith, Sem.run, pure, upon]
  simpa using (show upV κ T wa (.int q (q.wrap (a + b))) wa from ⟨T, Kp.refl hT, hw ▸ h⟩)
theorem FA_head {φ : World → Prop} {w : World} (h : FA (updF F n φ) w) : φ w := by have := h n; simpa [updF] using this
theorem St_ext {R : World → Prop} (h : ∀ w w', R w → Ext w w' → R w') : St R := h
theorem GY_d {p : Prop} [Decidable p] {i : VI} {want : Bool} (h1 : decide p = want → runY P w1 Ps n deps i k F (ok, f)) (h2 : decide p = !want → k F (ap (es i) (ok, f))) : GY P w1 Ps n deps i k F ok f (.bool (decide p)) want := G_intro h1 h2
theorem GY_b {t : Bool} {i : VI} {want : Bool} (h1 : t = want → runY P w1 Ps n deps i k F (ok, f)) (h2 : t = !want → k F (ap (es i) (ok, f))) : GY P w1 Ps n deps i k F ok f (.bool t) want := G_intro h1 h2
end
section
variable {P : Program} {l : List VO} {K : Fr → World → Prop} {ok : OK} {f : Fr} {w : World} {i : VI}
theorem YG_d {p : Prop} [Decidable p] {want : Bool} (h1 : decide p = want → vi P i (Y P l K) ok f w) (h2 : decide p = !want → sk i (Y P l K) ok f w) : YG P l K ok f w i (.bool (decide p)) want := G_intro h1 h2
theorem YG_b {t : Bool} {want : Bool} (h1 : t = want → vi P i (Y P l K) ok f w) (h2 : t = !want → sk i (Y P l K) ok f w) : YG P l K ok f w i (.bool t) want := G_intro h1 h2
end
end Go.W
set_option linter.defProp false
namespace Go.W
def VS := And.intro @VW_skip (And.intro @VW_exit (And.intro @VW_ret (And.intro @VW_reg (And.intro @VW_draw (And.intro @VW_seq (And.intro @VW_cond (And.intro @VW_block (And.intro @VW_loop (And.intro @cndV_true (And.intro @cndV_false (And.intro @thenQ_normal (And.intro @thenQ_exit (And.intro @thenQ_ret (And.intro @inBlk_normal (And.intro @inBlk_exit_same (And.intro @inBlk_exit (And.intro @inBlk_ret (And.intro @Y_nil (And.intro @Y_op (And.intro @Y_gd (And.intro @YG_tt (And.intro @YG_ff (And.intro @YG_tf (And.intro @YG_ft (And.intro @YG_un (And.intro @sk_op (And.intro @sk_part (And.intro @sk_path (And.intro @sk_put (And.intro @sk_set (And.intro @vi_op (And.intro @vi_path0 (And.intro @vi_path1 (And.intro @vi_part0 (And.intro @vi_part1 (And.intro @vi_put (And.intro @vi_set (And.intro @vi_new (And.intro @vi_box (And.intro @OB_some (And.intro @OB_ite (And.intro @kk_app (And.intro @kv_app (And.intro @live_agg (And.intro @live_int (And.intro @live_bool (And.intro @live_slice (And.intro @live_map (And.intro @live_ptr (And.intro @live_func (And.intro @live_nilFunc (And.intro @sPart_t (And.intro @sPart_f (And.intro @sPart_int (And.intro @sPart_bool (And.intro @sPart_slice (And.intro @sPart_ptr (And.intro @sPart_map (And.intro @sPut_a (And.intro @oset_app (And.intro @oclr_app (And.intro @odel_ok0 (And.intro @oclr_ok0 (And.intro @odel_app (And.intro @eqp (And.intro @bind_p (And.intro @B_some (And.intro @B_ite (And.intro @oV_move (And.intro @oV_assign (And.intro @oV_pick (And.intro @oV_alloc (And.intro @oV_box (And.intro @oV_build (And.intro @oV_buildSlice (And.intro @oV_load (And.intro @oV_store (And.intro @oV_nilCheck (And.intro @oV_bin (And.intro @oV_convert (And.intro @oV_fieldAddr (And.intro @oV_field (And.intro @oV_indexAddr (And.intro @oV_extract (And.intro @oV_not (And.intro @oV_makeMap (And.intro @oV_makeSlice (And.intro @oV_slice (And.intro @oV_len (And.intro @oV_max (And.intro @oV_min (And.intro @oV_func (And.intro @oV_lookup (And.intro @oV_range (And.intro @oV_next (And.intro @oV_entry (And.intro @oV_mapUpdate (And.intro @oV_append (And.intro @oV_delete (And.intro @oV_copy (And.intro @fV_0 (And.intro @fV_0n (And.intro @fV_t (And.intro @fV_tn (And.intro @fV_b (And.intro @fV_tt (And.intro @fV_bt (And.intro @fV_bb (And.intro @fV_ttt (And.intro @K1_app (And.intro @K2_app (And.intro @K2b_app (@K2t_app)))))))))))))))))))))))))))))))))))))))))))))))))))))))))))))))))))))))))))))))))))))))))))))))))))))))))))))))))
def VD := And.intro @YD_nil (And.intro @YD_op (And.intro @YD_gd (And.intro @GY_tt (And.intro @GY_ff (And.intro @GY_tf (And.intro @GY_ft (And.intro @GY_un (And.intro @ae_op (And.intro @ae_part (And.intro @ae_path (And.intro @QE_some (And.intro @QE_ite (And.intro @QO1_app (And.intro @rY_move (And.intro @rY_assign (And.intro @rY_pick (And.intro @rY_build (And.intro @rY_load (And.intro @rY_nilCheck (And.intro @rY_bin (And.intro @rY_convert (And.intro @rY_fieldAddr (And.intro @rY_field (And.intro @rY_indexAddr (And.intro @rY_extract (And.intro @rY_not (And.intro @rY_slice (And.intro @rY_len (And.intro @rY_max (And.intro @rY_min (And.intro @rY_path0 (And.intro @rY_path1 (And.intro @rY_part0 (And.intro @rY_part1 (And.intro @rY_set (@rY_new))))))))))))))))))))))))))))))))))))
end Go.W
set_option linter.unusedSimpArgs false
set_option linter.unusedVariables false
namespace Go.W
open Go.RowKit
theorem YG_c {P : Program} {next : Fr → World → Prop} (J : Fr → World → Prop) {l : List VO} {ok : OK} {f : Fr} {w : World} {i : VI} {v : Value} {want : Bool} (h : YG P l J ok f w i v want) (hJ : ∀ f w, J f w → next f w) : YG P l next ok f w i v want :=
  G_mono (vi_mono (Y_mono hJ l)) (sk_mono (Y_mono hJ l)) h
theorem DW_c {P : Program} {next : Fr → World → Prop} (J : Fr → World → Prop) {d : List DI} {l : List VO} {f : Fr} {w : World} (h : DW P d (Y P l J) f w) (hJ : ∀ f w, J f w → next f w) : DW P d (Y P l next) f w := DW_mono (fun ok f w => Y_mono hJ l ok f w) h
theorem grown_trans {a b c : World} {row : Option Nat} (h : a.grownBy b row) (k : b.grownBy c row) : a.grownBy c row :=
  ⟨k.os.trans h.os, k.tape.trans h.tape, k.output.trans h.output, Nat.le_trans h.size k.size, fun i hi hne => (k.block i (Nat.lt_of_lt_of_le hi h.size) hne).trans (h.block i hi hne)⟩
/-- append(v, x), x in a new row of one element -/
theorem rV_app1 {P : Program} {w : World} {κ : Value → World → Prop} {base : Nat} {t ty e : TypeId} {size bytes : Nat} {z : Value} (he : elt P t = some e) (hs : szv P e = some size) (hb : byv P e = some bytes) (hz : zrv P e = some z)
    (hzs : z.cells.size = size) (hpos : 0 < size) {v : Value} {n : Nat} {xs : List Value} (hown : w.ownsRow base e size v n xs) {row : List Value} (hl : row.length = size) (h1 : row.all one = true) (h63 : n + 1 ≤ maxLen) (hbytes : (n + 1) * bytes ≤ 140737488355328) (hbase : base ≤ w.heap.size)
    (h : ∀ v' w', w'.ownsRow base e size v' (n + 1) (xs ++ row) → w.grownBy w' v.ownBlock → κ v' w') : RunV P (w.alloc (.cells row.toArray e (0, 0))) κ (Builtin.append_ #[t, t] ty #[v, .slice (some ⟨w.heap.size, 0, none⟩) 1 1]) := by
  refine rV_append he hs hb hz hzs hpos (hown.alloc (.cells row.toArray e (0, 0))) (news := row) (by omega) ?_ (fun u hu => List.all_eq_true.1 h1 u hu) h63 hbytes (by rw [alloc_size]; omega) ?_
  · intro j u hu
    rw [add_mk, cell_mk, alloc_get_new]
    simpa using hu
  · intro v' w' ho hg _
    exact h v' w' ho (grown_trans (World.grownBy_alloc w _ _) hg)
theorem Ext.grownO {w0 w w' : World} {base : Nat} {e : TypeId} {size : Nat} {v : Value} {n : Nat} {xs : List Value} (hE : Ext w0 w) (ho : w.ownsRow base e size v n xs) (hb : w0.heap.size ≤ base) (hg : w.grownBy w' v.ownBlock) : Ext w0 w' :=
  hE.grown hg fun k hk => Nat.le_trans hb (ho.lt k hk).1
/-- a slice of the call's own, its elements rows of cells -/
def OwnL {α : Type} (R : α → List Value) (base : Nat) (e : TypeId) (sz : Nat) (w : World) (v : Value) (L : List α) : Prop := w.ownsRow base e sz v L.length (L.map R).flatten
theorem OwnL.nil {α : Type} (R : α → List Value) (base : Nat) (e : TypeId) (sz : Nat) (w : World) : OwnL R base e sz w (.slice none 0 0) [] := World.ownsRow_nil w base e sz
theorem OwnL.form {α : Type} {R : α → List Value} {base : Nat} {e : TypeId} {sz : Nat} {w : World} {v : Value} {L : List α} (h : OwnL R base e sz w v L) : ∃ a c, v = .slice a L.length c := own_form h
theorem OwnL.alloc {α : Type} {R : α → List Value} {base : Nat} {e : TypeId} {sz : Nat} {w : World} {v : Value} {L : List α} (h : OwnL R base e sz w v L) (o : Obj) : OwnL R base e sz (w.alloc o) v L := World.ownsRow.alloc h o
theorem OwnL.ext {α : Type} {R : α → List Value} {base : Nat} {e : TypeId} {sz : Nat} {w w' : World} {v : Value} {L : List α} (h : OwnL R base e sz w v L) (hE : Ext w w') : OwnL R base e sz w' v L := own_ext h hE
theorem OwnL.sl {α : Type} {R : α → List Value} {base : Nat} {e : TypeId} {sz : Nat} {w : World} {v : Value} {L : List α} (h : OwnL R base e sz w v L) (hR : ∀ x, (R x).length = sz) : SlAt w v sz (L.map R) := by
  refine SlAt.of_own (base := base) (e := e) ?_ (by simpa [OwnL] using h)
  intro r hr
  obtain ⟨x, _, rfl⟩ := List.mem_map.1 hr
  exact hR x
theorem OwnL.app1 {α : Type} {R : α → List Value} {P : Program} {w : World} {κ : Value → World → Prop} {base : Nat} {t ty e : TypeId} {size bytes : Nat} {z : Value} (he : elt P t = some e) (hs : szv P e = some size) (hb : byv P e = some bytes) (hz : zrv P e = some z)
    (hzs : z.cells.size = size) (hpos : 0 < size) {v : Value} {L : List α} (hown : OwnL R base e size w v L) (x : α) (hl : (R x).length = size) (h1 : (R x).all one = true) (h63 : L.length + 1 ≤ 1000000) (hby : bytes ≤ 1000) (hbase : base ≤ w.heap.size)
    (h : ∀ v' w', OwnL R base e size w' v' (L ++ [x]) → (∀ w0, Ext w0 w → w0.heap.size ≤ base → Ext w0 w') → w.grownBy w' v.ownBlock → κ v' w') : RunV P (w.alloc (.cells (R x).toArray e (0, 0))) κ (Builtin.append_ #[t, t] ty #[v, .slice (some ⟨w.heap.size, 0, none⟩) 1 1]) := by
  refine rV_app1 he hs hb hz hzs hpos hown hl h1 (by unfold maxLen; omega) ?_ hbase ?_
  · calc (L.length + 1) * bytes ≤ 1000000 * 1000 := Nat.mul_le_mul h63 hby
      _ ≤ 140737488355328 := by omega
  · intro v' w' ho hg
    refine h v' w' ?_ (fun w0 hE hb0 => hE.grownO hown hb0 hg) hg
    have e5 : (L ++ [x]).length = L.length + 1 := by simp
    have e6 : ((L ++ [x]).map R).flatten = (L.map R).flatten ++ R x := by simp
    unfold OwnL
    rw [e5, e6]
    exact ho
/-- the next entry of a map that is ranged over; the world that follows behind a name -/
theorem rV_nextX {P : Program} {w : World} {κ : Value → World → Prop} {it r c : Nat} {seen : Array Nat} {l : List Ent} {ty : TypeId} (hi : w.heap[it]? = some (.mapIter (some r) c seen c)) (hr : w.heap[r]? = some (.map (mk l) c)) (hlt : ∀ p ∈ l, p.2.2 < c)
    (hdone : (∀ p ∈ l, p.2.2 ∈ seen) → κ (.tuple #[.bool false]) w)
    (hstep : ∀ p ∈ l, p.2.2 ∉ seen → ∀ w2, w2.heap[it]? = some (.mapIter (some r) c (seen.push p.2.2) c) → (∀ b, b ≠ it → w2.heap[b]? = w.heap[b]?) → (∀ w0, Ext w0 w → w0.heap.size ≤ it → Ext w0 w2) → κ (.tuple #[.bool true, .int .i64 p.1, p.2.1]) w2) :
    RunV P w κ (Instr.next (.pointer (some ⟨it, 0, none⟩)) false ty) := by
  refine rV_next hi hr hlt hdone fun p hp hn w1 hw1 => hstep p hp hn _ ?_ ?_ ?_
  · exact putb_get_same (by rcases hw1 with rfl | rfl <;> exact get_lt hi) _
  · intro b hb
    rw [putb_get_ne hb]
    rcases hw1 with rfl | rfl <;> rfl
  · intro w0 hE hb
    refine Ext.putb ?_ hb _
    rcases hw1 with rfl | rfl
    · exact hE
    · exact hE.drew
/-- two maps that hold the same have the same length -/
theorem mlen_eq {l l' : List Ent} {c c' : Nat} (h : MWF l c) (h' : MWF l' c') (hm : ∀ k, mget l k = mget l' k) : l.length = l'.length := by
  have hk : ∀ k, k ∈ l.map (·.1) ↔ k ∈ l'.map (·.1) := by
    intro k
    have e1 : ∀ (q : List Ent), k ∈ q.map (·.1) ↔ mget q k ≠ none := by
      intro q
      rw [ne_eq, mget_none]
      simp only [List.mem_map, ne_eq, Classical.not_forall, Classical.not_not, exists_prop]
    rw [e1, e1, hm]
  have hp : (l.map (·.1)).Perm (l'.map (·.1)) := (List.perm_ext_iff_of_nodup h.keys h'.keys).2 hk
  simpa using hp.length_eq
/-! ### maps, nil or not -/
def MapL (w : World) (x : Value) (l : List Ent) (c : Nat) : Prop := (x = .map none ∧ l = [] ∧ c = 0) ∨ ∃ r, x = .map (some r) ∧ w.heap[r]? = some (.map (mk l) c) ∧ MWF l c
theorem MapL.wf {w : World} {x : Value} {l : List Ent} {c : Nat} (h : MapL w x l c) : MWF l c := by
  rcases h with ⟨_, rfl, rfl⟩ | ⟨r, _, _, h⟩
  · exact MWF_nil
  · exact h
theorem MapL.ext {w w' : World} {x : Value} {l : List Ent} {c : Nat} (h : MapL w x l c) (hE : Ext w w') : MapL w' x l c := by
  rcases h with h | ⟨r, h1, h2, h3⟩
  · exact .inl h
  · exact .inr ⟨r, h1, hE.obj h2, h3⟩
/-- the map's own block is as it was -/
theorem MapL.heap {w w' : World} {x : Value} {l : List Ent} {c : Nat} (h : MapL w x l c) (hb : ∀ r, x = .map (some r) → w'.heap[r]? = w.heap[r]?) : MapL w' x l c := by
  rcases h with h | ⟨r, h1, h2, h3⟩
  · exact .inl h
  · exact .inr ⟨r, h1, (hb r h1).trans h2, h3⟩
theorem MapL.lt {w : World} {l : List Ent} {c r : Nat} (h : MapL w (.map (some r)) l c) : r < w.heap.size := by
  rcases h with ⟨h, _⟩ | ⟨r', h1, h2, _⟩
  · cases h
  · cases h1; exact get_lt h2
/-- an iterator -/
def ItAt (w : World) (it : Nat) (x : Value) (c : Nat) (seen : Array Nat) : Prop := ∃ r, x = .map r ∧ w.heap[it]? = some (.mapIter r c seen c)
section
variable {P : Program} {w : World} {κ : Value → World → Prop} {it c : Nat} {seen : Array Nat} {l : List Ent} {ty : TypeId} {x : Value}
theorem rV_rangeM {t : TypeId} (ht : isMapT P t = true) (h : MapL w x l c) (hk : ∀ w', w'.heap.size = w.heap.size + 1 → ItAt w' w.heap.size x c #[] → (∀ b, b ≠ w.heap.size → w'.heap[b]? = w.heap[b]?) → (∀ w0, Ext w0 w → Ext w0 w') → κ (.pointer (some ⟨w.heap.size, 0, none⟩)) w') :
    RunV P w κ (Instr.range t x) := by
  rcases h with ⟨rfl, rfl, rfl⟩ | ⟨r, rfl, hr, _⟩
  · exact rV_range_nil ht (hk _ (by simp) ⟨_, rfl, alloc_get_new _ _⟩ (fun b hb => by rw [alloc_get_if, if_neg hb]) fun w0 hE => hE.alloc _)
  · exact rV_range ht hr (hk _ (by simp) ⟨_, rfl, alloc_get_new _ _⟩ (fun b hb => by rw [alloc_get_if, if_neg hb]) fun w0 hE => hE.alloc _)
theorem rV_nextM (hi : ItAt w it x c seen) (h : MapL w x l c) (hdone : (∀ p ∈ l, p.2.2 ∈ seen) → κ (.tuple #[.bool false]) w)
    (hstep : ∀ p ∈ l, p.2.2 ∉ seen → ∀ w2, ItAt w2 it x c (seen.push p.2.2) → (∀ b, b ≠ it → w2.heap[b]? = w.heap[b]?) → (∀ w0, Ext w0 w → w0.heap.size ≤ it → Ext w0 w2) → κ (.tuple #[.bool true, .int .i64 p.1, p.2.1]) w2) :
    RunV P w κ (Instr.next (.pointer (some ⟨it, 0, none⟩)) false ty) := by
  obtain ⟨r, rfl, hi⟩ := hi
  rcases h with ⟨h1, rfl, rfl⟩ | ⟨r', h1, hr, hwf⟩
  · cases h1
    exact rV_next_nil hi (hdone (by simp))
  · cases h1
    exact rV_nextX hi hr hwf.lt hdone fun p hp hn w2 q1 q2 q3 => hstep p hp hn w2 ⟨_, rfl, q1⟩ q2 q3
theorem rV_entryM {p : Ent} (hi : ItAt w it x c (seen.push p.2.2)) (h : MapL w x l c) (hp : p ∈ l) (hk : κ (.tuple #[.int .i64 p.1, p.2.1]) w) : RunV P w κ (Instr.entry (.pointer (some ⟨it, 0, none⟩))) := by
  obtain ⟨r, rfl, hi⟩ := hi
  rcases h with ⟨h1, rfl, rfl⟩ | ⟨r', h1, hr, hwf⟩
  · simp at hp
  · cases h1
    exact rV_entry hi hr hwf.borns hp hk
theorem rV_lookupM {t e : TypeId} {z : Value} (ht : mpe P t = some e) (hz : zrv P e = some z) (h : MapL w x l c) {k : Int} {ok : Bool} (hk : κ (if ok then .tuple #[(mget l k).getD z, .bool (mget l k).isSome] else (mget l k).getD z) w) : RunV P w κ (Instr.lookup t x (.int .i64 k) ok) := by
  rcases h with ⟨rfl, rfl, rfl⟩ | ⟨r', rfl, hr, hwf⟩
  · exact rV_lookup_nil ht hz hk
  · exact rV_lookup ht hz hr hk
theorem sLenM {t : TypeId} (ht : isMapT P t = true) (h : MapL w x l c) : sLen P t x w = some (.int .i64 l.length, w) := by
  rcases h with ⟨rfl, rfl, rfl⟩ | ⟨r', rfl, hr, hwf⟩
  · simp [sLen, ht]
  · simp [sLen, hr, ht, mk_size]
end
end Go.W
set_option linter.unusedSimpArgs false
set_option linter.unusedVariables false
namespace Go.W
open Go.RowKit
section
variable {P : Program} {w : World} {κ : Value → World → Prop} {ty : TypeId} {f : Fr}
theorem oV_cap (s : Operand) (ts : Array TypeId) : opV P (.call ⟨.builtin .cap, #[s], ts⟩) ty f w κ = RunV P w κ (Builtin.cap_ ts ty #[ev f s]) := by
  refine forall_congr fun T => forall_congr fun wa => forall_congr fun _ => forall_congr fun _ => Eq.trans ?_ (raw_XV (P := P) (K := upV κ T wa) (w := wa) (Builtin.cap_ ts ty #[ev f s]))
  simp only [raw, execOp, resolve, invoke, builtin, run_bind, Sem.run, pure, List.map_toArray, List.map_cons, List.map_nil]
theorem oV_clear (s : Operand) (ts : Array TypeId) : opV P (.call ⟨.builtin .clear, #[s], ts⟩) ty f w κ = RunV P w κ (Builtin.clear_ ts ty #[ev f s]) := by
  refine forall_congr fun T => forall_congr fun wa => forall_congr fun _ => forall_congr fun _ => Eq.trans ?_ (raw_XV (P := P) (K := upV κ T wa) (w := wa) (Builtin.clear_ ts ty #[ev f s]))
  simp only [raw, execOp, resolve, invoke, builtin, run_bind, Sem.run, pure, List.map_toArray, List.map_cons, List.map_nil]
theorem oV_slice3 (t : TypeId) (x lo hi m : Operand) : opV P (.slice t x (some lo) (some hi) (some m)) ty f w κ = RunV P w κ (Instr.sliceAt t (ev f x) (some (ev f lo)) (some (ev f hi)) (some (ev f m))) := by
  exact forall_congr fun T => forall_congr fun wa => forall_congr fun _ => forall_congr fun _ => raw_XV _
theorem rV_cap {t e : TypeId} {a : Option Addr} {n c : Nat} (he : elt P t = some e) (h : κ (.int .i64 c) w) : RunV P w κ (Builtin.cap_ #[t] ty #[.slice a n c]) :=
  RunV_same (fun T wa _ _ => by simp [Builtin.cap_, run_underlying (elt_spec he), Sem.run, goInt, run_bind, pure]) h
theorem rV_slice3 {t e : TypeId} {a : Option Addr} {n c l h m : Nat} (he : elt P t = some e) (hs : szv P e = some 1) (h1 : l ≤ h) (h2 : h ≤ m) (h3 : m ≤ c) (hk : κ (.slice (if m = l then a else a.map (·.add (l * 1))) (h - l) (m - l)) w) :
    RunV P w κ (Instr.sliceAt t (.slice a n c) (some (.int .i64 l)) (some (.int .i64 h)) (some (.int .i64 m))) := by
  refine RunV_same (fun T wa _ _ => ?_) hk
  simp only [Instr.sliceAt, Instr.slice, run_bind, run_underlying (elt_spec he), Instr.sliceBounds, run_sliceBound (i := (m : Int)) (y := c) (by omega), run_sliceBound (i := (h : Int)) (y := m) (by omega), Int.toNat_natCast, run_sliceBound (i := (l : Int)) (y := h) (by omega), Sem.run, pure, run_sizeOf hs]
theorem sSlice_hi {t : TypeId} (he : esz P t = some 1) {b o n c i : Nat} (h : i ≤ c) : sSlice P t (.slice (some ⟨b, o, none⟩) n c) none (some (.int .i64 i)) w = some (.slice (some ⟨b, o, none⟩) i c, w) := by
  have : (0 : Int) ≤ i ∧ (i : Int) ≤ c := by omega
  simp [sSlice, he, bnd, h, add_mk]
theorem sSlice_lo {t : TypeId} (he : esz P t = some 1) {b o n c j : Nat} (h : j ≤ n) : sSlice P t (.slice (some ⟨b, o, none⟩) n c) (some (.int .i64 j)) none w = some (.slice (some ⟨b, if c = j then o else o + j, none⟩) (n - j) (c - j), w) := by
  simp only [sSlice, he, bnd]
  rw [if_pos (by omega)]
  simp only [Int.toNat_natCast, Nat.mul_one, Option.map_some, add_mk, Option.some.injEq, Prod.mk.injEq, and_true]
  split <;> rfl
theorem sSlice_lh {t : TypeId} (he : esz P t = some 1) {b o n c j k : Nat} (h : j ≤ k) (h' : k ≤ c) : sSlice P t (.slice (some ⟨b, o, none⟩) n c) (some (.int .i64 j)) (some (.int .i64 k)) w = some (.slice (some ⟨b, if c = j then o else o + j, none⟩) (k - j) (c - j), w) := by
  simp only [sSlice, he, bnd]
  rw [if_pos (by omega)]
  simp only [Int.toNat_natCast]
  rw [if_pos (by omega)]
  simp only [Int.toNat_natCast, Nat.mul_one, Option.map_some, add_mk, Option.some.injEq, Prod.mk.injEq, and_true]
  split <;> rfl
theorem sSlice_lo0 {t : TypeId} (he : esz P t = some 1) {b o n c : Nat} : sSlice P t (.slice (some ⟨b, o, none⟩) n c) (some (.int .i64 0)) none w = some (.slice (some ⟨b, o, none⟩) n c, w) := by
  have := sSlice_lo (P := P) (w := w) he (b := b) (o := o) (n := n) (c := c) (j := 0) (by omega)
  simpa using this
theorem sSlice_lo1 {t : TypeId} (he : esz P t = some 1) {b o n c : Nat} (h : 1 ≤ n) : sSlice P t (.slice (some ⟨b, o, none⟩) n c) (some (.int .i64 1)) none w = some (.slice (some ⟨b, if c = 1 then o else o + 1, none⟩) (n - 1) (c - 1), w) := by
  have := sSlice_lo (P := P) (w := w) he (b := b) (o := o) (n := n) (c := c) (j := 1) h
  simpa using this
theorem sSlice_hi0 {t : TypeId} (he : esz P t = some 1) {b o n c : Nat} : sSlice P t (.slice (some ⟨b, o, none⟩) n c) none (some (.int .i64 0)) w = some (.slice (some ⟨b, o, none⟩) 0 c, w) := by
  have := sSlice_hi (P := P) (w := w) he (b := b) (o := o) (n := n) (c := c) (i := 0) (by omega)
  simpa using this
/-- the operation changes one block -/
theorem RunV_put {s : Sem Value} {b : Nat} {cs cs' : Array Value} {e : TypeId} {v : Value} (hb : w.heap[b]? = some (.cells cs e (0, 0))) (hr : ∀ wa : World, wa.heap[b]? = some (.cells cs e (0, 0)) → s.run P wa = .ok v (wa.putb b (.cells cs' e (0, 0))))
    (h : κ v (w.putb b (.cells cs' e (0, 0)))) : RunV P w κ s := by
  intro T wa hw hT
  subst hw
  obtain ⟨hTb, hb⟩ := tombW_cells hb
  rw [hr wa hb]
  exact ⟨T, Kp.putb hT hTb _, by rw [tombW_putb hTb]; exact h⟩
theorem putb_self {w : World} {b : Nat} {o : Obj} (h : w.heap[b]? = some o) : w.putb b o = w := by
  unfold World.putb
  have : w.heap.setIfInBounds b o = w.heap := by
    apply heap_ext
    intro i
    rw [Array.getElem?_setIfInBounds]
    split
    · rename_i e; subst e; split
      · exact h.symm
      · rename_i hn; rw [Array.getElem?_eq_none (by omega)]
    · rfl
  rw [this]
theorem run_storeCells' {b off : Nat} {e : TypeId} (vs : List Value) (w : World) (cs : Array Value) (hb : w.heap[b]? = some (.cells cs e (0, 0))) (hn : off + vs.length ≤ cs.size)
    (h1 : ∀ v ∈ vs, one v = true) : (storeCells ⟨b, off, none⟩ vs).run P w = .ok () (w.putb b (.cells (spl cs off vs) e (0, 0))) := by
  have := run_storeCells (P := P) (off := off) vs 0 w cs hb (by omega) h1
  rw [this]
  by_cases hv : vs = []
  · subst hv; rw [if_pos rfl, spl_nil, putb_self hb]
  · rw [if_neg hv]; rfl
theorem rd_blk {w : World} {b off n : Nat} {cs : Array Value} {e : TypeId} {fz : Nat × Nat} (hb : w.heap[b]? = some (.cells cs e fz)) (h : off + n ≤ cs.size) : rd w ⟨b, off, none⟩ n = some (cs.extract off (off + n)) := by
  simp [rd, hb, h]
theorem rV_clear {t e : TypeId} {z : Value} {b o n c : Nat} {cs : Array Value} (he : elt P t = some e) (hz : zrv P e = some z) (h1 : z.cells = #[z]) (h1' : one z = true) (hb : w.heap[b]? = some (.cells cs e (0, 0))) (hn : o + n ≤ cs.size)
    (h : κ (.tuple #[]) (w.putb b (.cells (spl cs o (List.replicate n z)) e (0, 0)))) : RunV P w κ (Builtin.clear_ #[t] ty #[.slice (some ⟨b, o, none⟩) n c]) := by
  refine RunV_put hb (fun wa hba => ?_) h
  cases n with
  | zero => simp [Builtin.clear_, run_underlying (elt_spec he), Sem.run, run_bind, pure, spl, putb_self hba]
  | succ n =>
    have hzc : (Builtin.zeroCells z.cells (n + 1)).toList = List.replicate (n + 1) z := by
      rw [h1]
      simp only [Builtin.zeroCells, Array.size_singleton, Nat.mul_one, Array.toList_map]
      rw [List.eq_replicate_iff]
      refine ⟨by simp, fun x hx => ?_⟩
      obtain ⟨j, _, rfl⟩ := List.mem_map.1 hx
      simp [Nat.mod_one]
    simp only [Builtin.clear_, run_underlying (elt_spec he), Sem.run, run_bind, pure, run_zeroValue hz, hzc, List.getElem?_toArray, List.getElem?_cons_zero]
    rw [run_storeCells' _ _ _ hba (by simp; omega) (by intro v hv; rw [(List.mem_replicate.1 hv).2]; exact h1')]
theorem rV_copy {t t' e : TypeId} {b o n c b' o' n' c' : Nat} {cs cs' : Array Value} {e' : TypeId} {fz : Nat × Nat} (he : elt P t = some e) (hs : szv P e = some 1) (hb : w.heap[b]? = some (.cells cs e (0, 0))) (hb' : w.heap[b']? = some (.cells cs' e' fz)) (hn : o + n ≤ cs.size) (hn' : o' + n' ≤ cs'.size)
    (h1 : ∀ v ∈ (cs'.extract o' (o' + Nat.min n' n)).toList, one v = true)
    (h : κ (.int .i64 (Nat.min n' n : Nat)) (w.putb b (.cells (spl cs o (cs'.extract o' (o' + Nat.min n' n)).toList) e (0, 0)))) : RunV P w κ (Builtin.copy_ #[t, t'] ty #[.slice (some ⟨b, o, none⟩) n c, .slice (some ⟨b', o', none⟩) n' c']) := by
  intro T wa hw hT
  subst hw
  obtain ⟨hTb, hb⟩ := tombW_cells hb
  obtain ⟨_, hb'⟩ := tombW_cells hb'
  have hm1 : Nat.min n' n ≤ n := Nat.min_le_right _ _
  have hm2 : Nat.min n' n ≤ n' := Nat.min_le_left _ _
  have hrun : (Builtin.copy_ #[t, t'] ty #[.slice (some ⟨b, o, none⟩) n c, .slice (some ⟨b', o', none⟩) n' c']).run P wa = .ok (.int .i64 (Nat.min n' n : Nat)) (wa.putb b (.cells (spl cs o (cs'.extract o' (o' + Nat.min n' n)).toList) e (0, 0))) := by
    simp only [Builtin.copy_, run_underlying (elt_spec he), Sem.run, run_bind, pure, run_sizeOf hs, Builtin.lenOf, Builtin.firstCells, List.getElem?_toArray, List.getElem?_cons_zero, List.getElem?_cons_succ, Nat.mul_one, run_loadCells (rd_blk hb' (show o' + Nat.min n' n ≤ cs'.size by omega)), goInt]
    rw [run_storeCells' _ _ _ hb (by simp; omega) h1]
  rw [hrun]
  exact ⟨T, Kp.putb hT hTb _, by rw [tombW_putb hTb]; exact h⟩
/-- append within the room of the slice's own block -/
theorem rV_appIn {t e : TypeId} {b o n c o' n' c' b' : Nat} {cs cs' : Array Value} {e' : TypeId} {fz : Nat × Nat} (he : elt P t = some e) (hs : szv P e = some 1) (hb : w.heap[b]? = some (.cells cs e (0, 0))) (hb' : w.heap[b']? = some (.cells cs' e' fz)) (hroom : n + n' ≤ c) (hn : o + (n + n') ≤ cs.size) (hn' : o' + n' ≤ cs'.size)
    (h1 : ∀ v ∈ (cs'.extract o' (o' + n')).toList, one v = true)
    (h : κ (.slice (some ⟨b, o, none⟩) (n + n') c) (w.putb b (.cells (spl cs (o + n) (cs'.extract o' (o' + n')).toList) e (0, 0)))) : RunV P w κ (Builtin.append_ #[t, t] ty #[.slice (some ⟨b, o, none⟩) n c, .slice (some ⟨b', o', none⟩) n' c']) := by
  intro T wa hw hT
  subst hw
  obtain ⟨hTb, hb⟩ := tombW_cells hb
  obtain ⟨_, hb'⟩ := tombW_cells hb'
  have hrun : (Builtin.append_ #[t, t] ty #[.slice (some ⟨b, o, none⟩) n c, .slice (some ⟨b', o', none⟩) n' c']).run P wa = .ok (.slice (some ⟨b, o, none⟩) (n + n') c) (wa.putb b (.cells (spl cs (o + n) (cs'.extract o' (o' + n')).toList) e (0, 0))) := by
    simp only [Builtin.append_, run_underlying (elt_spec he), Sem.run, run_bind, pure, run_sizeOf hs, Builtin.lenOf, Builtin.firstCells, List.getElem?_toArray, List.getElem?_cons_zero, List.getElem?_cons_succ, Nat.mul_one, run_loadCells (rd_blk hb' (show o' + n' ≤ cs'.size by omega)), if_pos hroom, add_mk, Bool.false_eq_true, if_false, Bool.not_false, if_true]
    rw [run_storeCells' _ _ _ hb (by simp; omega) h1]
  rw [hrun]
  exact ⟨T, Kp.putb hT hTb _, by rw [tombW_putb hTb]; exact h⟩
/-- append of zeros to an empty slice, in a new row -/
theorem rV_appZ {t tn e : TypeId} {z : Value} {kn : IntKind} {bytes : Nat} (he : elt P t = some e) (htn : P.underlying tn = some (.int kn)) (hs : szv P e = some 1) (hby : byv P e = some bytes) (hz : zrv P e = some z) (h1 : z.cells = #[z]) {a : Option Addr} {c k : Nat} (hk0 : 0 < k) (hkc : c < k) (hk : k ≤ 250) (hb8 : bytes ≤ 8)
    (h : ∀ gc, k ≤ gc → gc ≤ maxLen → κ (.slice (some ⟨w.heap.size, 0, none⟩) k gc) (w.drew.alloc (.cells (Array.replicate gc z) e (0, 0)))) :
    RunV P w κ (Builtin.append_ #[t, tn] ty #[.slice a 0 c, .int .i64 k]) := by
  intro T wa hw hT
  subst hw
  obtain ⟨i, hi, hsz⟩ := Option.map_eq_some_iff.1 hs
  obtain ⟨i', hi', hzi⟩ := Option.bind_eq_some_iff.1 hz
  obtain ⟨i'', hi'', hby'⟩ := Option.map_eq_some_iff.1 hby
  rw [hi] at hi' hi''
  simp only [Option.some.injEq] at hi' hi''
  subst hi' hi''
  have hnext : Builtin.nextslicecap (0 + k) c ≤ 2000000 := by
    unfold Builtin.nextslicecap
    split
    · omega
    · split
      · omega
      · rename_i h3 h4; exfalso; omega
  have hrun := Lib.run_append_grow_zeros (P := P) wa t tn ty e i z .i64 kn (elt_spec he) htn hi hzi a 0 c [] (by
    cases a <;> simp [Builtin.firstCells, loadCells, loadCellsFrom, Sem.run, pure]) k hk0 (by omega) (by omega) (by omega) (by
      calc k * i.bytes ≤ 1000000 * 8 := Nat.mul_le_mul (show k ≤ 1000000 by omega) (by omega)
        _ ≤ 281474976710656 := by omega) (by
      calc Builtin.nextslicecap (0 + k) c * i.bytes ≤ 2000000 * 8 := Nat.mul_le_mul hnext (by omega)
        _ ≤ 281474976710656 := by omega)
  have hzc : ∀ n, Builtin.zeroCells z.cells n = Array.replicate n z := by
    intro n
    rw [h1]
    apply Array.ext'
    simp only [Builtin.zeroCells, Array.size_singleton, Nat.mul_one, Array.toList_map, Array.toList_replicate]
    rw [List.eq_replicate_iff]
    refine ⟨by simp, fun x hx => ?_⟩
    obtain ⟨j, _, rfl⟩ := List.mem_map.1 hx
    simp [Nat.mod_one]
  rw [hrun]
  have hge := grownCap_ge wa (0 + k) c e
  have hle := grownCap_le_maxLen wa (0 + k) c e (by unfold maxLen; omega)
  generalize grownCap wa (0 + k) c e = gc at *
  rw [hzc, hzc]
  have e1 : ([] : List Value).toArray ++ Array.replicate k z ++ Array.replicate (gc - (0 + k)) z = Array.replicate gc z := by
    apply Array.ext'
    simp only [Array.toList_append, Array.toList_replicate, List.nil_append, List.replicate_append_replicate]
    congr 1
    omega
  rw [e1]
  have := h gc (by omega) hle
  rw [tombW_size] at this
  refine ⟨T, ?_, ?_⟩
  · exact (Kp.drew hT).trans (Kp.alloc (w := wa.drew) hT _)
  · rw [Nat.zero_add, tombW_alloc (show TB T wa.drew from hT), tombW_drew]
    exact this
end
theorem spl_list (vs : List Value) : ∀ (cs : Array Value) (o : Nat), o + vs.length ≤ cs.size → (spl cs o vs).toList = cs.toList.take o ++ vs ++ cs.toList.drop (o + vs.length) := by
  induction vs with
  | nil => intro cs o h; simp [spl]
  | cons v vs ih =>
    intro cs o h
    simp only [List.length_cons] at h
    rw [spl_cons, ih _ _ (by simp; omega)]
    simp only [Array.toList_setIfInBounds, List.length_cons]
    have hlt : o < cs.toList.length := by simp; omega
    rw [List.set_eq_take_append_cons_drop, if_pos hlt]
    have e1 : (cs.toList.take o ++ v :: cs.toList.drop (o + 1)).take (o + 1) = cs.toList.take o ++ [v] := by
      rw [List.take_append, List.length_take, Nat.min_eq_left (by omega), show o + 1 - o = 1 by omega, List.take_of_length_le (by simp; omega)]
      simp
    have e2 : (cs.toList.take o ++ v :: cs.toList.drop (o + 1)).drop (o + 1 + vs.length) = cs.toList.drop (o + (vs.length + 1)) := by
      rw [List.drop_append, List.length_take, Nat.min_eq_left (by omega), List.drop_of_length_le (by simp; omega), show o + 1 + vs.length - o = vs.length + 1 by omega]
      simp [List.drop_drop]
      congr 1
      omega
    rw [e1, e2]
    simp
end Go.W
set_option linter.unusedSimpArgs false
set_option linter.unusedVariables false
namespace Go.W
theorem tombW_tombW (T T0 : Nat → Bool) (w : World) : tombW T (tombW T0 w) = tombW (fun b => T b || T0 b) w := by
  refine world_ext (heap_ext fun i => ?_) rfl rfl rfl rfl
  rw [tombW_get, tombW_get, tombW_get, Option.map_map]
  congr 1
  funext o
  cases h1 : T i <;> cases h2 : T0 i <;> simp [h1, h2]
theorem upV_frame {Φ : Value → World → Prop} {T T0 : Nat → Bool} {wa : World} (hT : TB T (tombW T0 wa)) (hT0 : TB T0 wa) {v : Value} {w' : World} (h : upV Φ (fun b => T b || T0 b) wa v w') :
    upV (fun v W => ∃ T', Kp T (tombW T0 wa) T' W ∧ Φ v (tombW T' W)) T0 wa v w' := by
  obtain ⟨T2, hk, hp⟩ := h
  have hTB0 : TB T0 w' := fun b hb => hT0 b (Nat.le_trans hk.size hb)
  refine ⟨T0, ⟨hT0, hTB0, hk.size, fun _ _ => rfl, fun b hb => hk.get b (by simp [hb])⟩, fun b => if b < wa.heap.size then T b else T2 b, ⟨hT, fun b hb => ?_, ?_, fun b hb => ?_, fun b hb => ?_⟩, ?_⟩
  · rw [tombW_size] at hb
    have := hk.size
    show (if b < wa.heap.size then T b else T2 b) = false
    rw [if_neg (by omega)]
    exact hk.tb b hb
  · rw [tombW_size, tombW_size]; exact hk.size
  · rw [tombW_size] at hb
    show (if b < wa.heap.size then T b else T2 b) = T b
    rw [if_pos hb]
  · rw [tombW_get, tombW_get, hk.get b (by simp [hb])]
  · rw [tombW_tombW]
    have : (fun b => (if b < wa.heap.size then T b else T2 b) || T0 b) = T2 := by
      funext b
      by_cases hb : b < wa.heap.size
      · simp only [hb, if_true]; exact (hk.old b hb).symm
      · simp only [hb, if_false]; rw [hT0 b (by omega)]; simp
    rw [this]
    exact hp
theorem VRet.frame {P : Program} {g : Nat} {args : Array Value} {w : World} {Φ : Value → World → Prop} (T : Nat → Bool) (hT : TB T w) (h : VRet P g args (tombW T w) Φ) : VRet P g args w fun v w' => ∃ T', Kp T w T' w' ∧ Φ v (tombW T' w') := by
  rcases h with ⟨hen, h⟩ | h
  · refine .inl ⟨hen, fun T0 wa hw hT0 => ?_⟩
    subst hw
    have hTB : TB (fun b => T b || T0 b) wa := fun b hb => by
      simp only [hT0 b hb, Bool.or_false]
      exact hT b (by rw [tombW_size]; exact hb)
    exact (h _ wa (tombW_tombW T T0 wa) hTB).mono fun v w' => upV_frame hT hT0
  · refine .inr fun T0 wa hw hT0 as ts ty f ha => ?_
    subst hw
    have hTB : TB (fun b => T b || T0 b) wa := fun b hb => by
      simp only [hT0 b hb, Bool.or_false]
      exact hT b (by rw [tombW_size]; exact hb)
    exact raw_mono (fun v w' => upV_frame hT hT0) (h _ wa (tombW_tombW T T0 wa) hTB as ts ty f ha)
/-- what stands in one world stands in the other -/
def Per (w w' : World) : Prop := ∀ (b : Nat) (o : Obj), w.heap[b]? = some o → o ≠ tomb → w'.heap[b]? = some o
theorem Per.refl (w : World) : Per w w := fun _ _ h _ => h
theorem Per.trans {a b c : World} (h : Per a b) (k : Per b c) : Per a c := fun i o hi ho => k i o (h i o hi ho) ho
theorem Per.ext {w w' : World} (h : Ext w w') : Per w w' := fun b o hb _ => h.obj hb
theorem Per.unhide (T : Nat → Bool) (w : World) : Per (tombW T w) w := fun b o hb ho => (tombW_real hb ho).2
theorem Per.cells {w w' : World} (h : Per w w') {b : Nat} {cs : Array Value} {e : TypeId} {fz : Nat × Nat} (hb : w.heap[b]? = some (.cells cs e fz)) : w'.heap[b]? = some (.cells cs e fz) := h b _ hb (by simp [tomb])
theorem Per.map {w w' : World} (h : Per w w') {b : Nat} {es : Array MapEntry} {c : Nat} (hb : w.heap[b]? = some (.map es c)) : w'.heap[b]? = some (.map es c) := h b _ hb (by simp [tomb])
theorem Per.cell {w w' : World} (h : Per w w') {a : Addr} {v : Value} (ha : w.cell? a = some v) : w'.cell? a = some v := by
  unfold World.cell? at ha ⊢
  split at ha
  · rename_i c e fz hb
    rw [h.cells hb]; exact ha
  · simp at ha
theorem Per.rd {w w' : World} (h : Per w w') {a : Addr} {n : Nat} {cs : Array Value} (ha : rd w a n = some cs) : rd w' a n = some cs := by
  unfold Go.W.rd at ha ⊢
  split at ha
  · rename_i c e fz hb
    rw [h.cells hb]; exact ha
  · simp at ha
theorem SlAt.per {w w' : World} {v : Value} {sz : Nat} {rows : List (List Value)} (h : SlAt w v sz rows) (hE : Per w w') : SlAt w' v sz rows := by
  rcases h with h | ⟨b, off, cap, h1, h2⟩
  · exact .inl h
  · exact .inr ⟨b, off, cap, h1, fun i r hr => hE.rd (h2 i r hr)⟩
theorem IntsAt.per {w w' : World} {v : Value} {l : List Int} (h : IntsAt w v l) (hE : Per w w') : IntsAt w' v l := by
  rcases h with h | ⟨b, off, cap, h1, h2⟩
  · exact .inl h
  · exact .inr ⟨b, off, cap, h1, fun i r hr => hE.cell (h2 i r hr)⟩
theorem IntssAt.per {w w' : World} {v : Value} {ll : List (List Int)} (h : IntssAt w v ll) (hE : Per w w') : IntssAt w' v ll := by
  rcases h with h | ⟨b, off, cap, h1, h2⟩
  · exact .inl h
  · exact .inr ⟨b, off, cap, h1, fun i r hr => let ⟨u, hu, hi⟩ := h2 i r hr; ⟨u, hE.cell hu, hi.per hE⟩⟩
/-- a world with the blocks of a set hidden -/
noncomputable def hidF (F : Nat → Prop) : Nat → Bool := fun b => @decide (F b) (Classical.propDecidable _)
theorem hidF_true {F : Nat → Prop} {b : Nat} : hidF F b = true ↔ F b := by simp [hidF]
theorem hidF_false {F : Nat → Prop} {b : Nat} : hidF F b = false ↔ ¬ F b := by simp [hidF]
noncomputable def hid (F : Nat → Prop) (w : World) : World := tombW (hidF F) w
theorem hid_TB {F : Nat → Prop} {w : World} (h : ∀ b, F b → b < w.heap.size) : TB (hidF F) w := fun b hb => hidF_false.2 fun hf => by have := h b hf; omega
theorem hid_per (F : Nat → Prop) (w : World) : Per (hid F w) w := Per.unhide _ _
theorem hid_ext {F : Nat → Prop} {w w' : World} (h : Ext w w') : Per (hid F w) (hid F w') := fun b o hb ho => by
  obtain ⟨h1, h2⟩ := tombW_real hb ho
  unfold hid
  rw [tombW_see h1]
  exact h.obj h2
/-- made ahead of the set -/
theorem hid_new {F : Nat → Prop} {w w' : World} (h : Ext w w') (hF : ∀ b, F b → w.heap.size ≤ b) : Per w (hid F w') := fun b o hb ho => by
  have hlt := get_lt hb
  unfold hid
  rw [tombW_see (hidF_false.2 fun hf => by have := hF b hf; omega)]
  exact h.obj hb
/-- a call with the set's blocks hidden: they stay as they were -/
theorem VRet.hid {P : Program} {g : Nat} {args : Array Value} {w : World} {Φ : Value → World → Prop} {F : Nat → Prop} (hF : ∀ b, F b → b < w.heap.size) (h : VRet P g args (hid F w) Φ) :
    VRet P g args w fun v w' => ∃ w1, Φ v w1 ∧ Per w1 (Go.W.hid F w') ∧ w.heap.size ≤ w'.heap.size ∧ (∀ b, F b → w'.heap[b]? = w.heap[b]?) ∧ (Ext (Go.W.hid F w) w1 → Ext w w') := by
  refine (VRet.frame (hidF F) (hid_TB hF) h).mono ?_
  rintro v w' ⟨T', hk, hp⟩
  refine ⟨tombW T' w', hp, fun b o hb ho => ?_, hk.size, fun b hb => hk.get b (hidF_true.2 hb), fun hE => ?_⟩
  · obtain ⟨h1, h2⟩ := tombW_real hb ho
    have : hidF F b = false := by
      apply hidF_false.2
      intro hf
      have hlt := hF b hf
      have := hk.old b hlt
      rw [h1, hidF_true.2 hf] at this
      cases this
    unfold Go.W.hid
    rw [tombW_see this]
    exact h2
  · refine ⟨hE.os, hE.tape, hE.output, hk.size, fun b hb => ?_⟩
    by_cases hf : F b
    · exact hk.get b (hidF_true.2 hf)
    · have h1 := hE.get b (by unfold Go.W.hid; rw [tombW_size]; exact hb)
      have h2 : T' b = false := by rw [hk.old b hb]; exact hidF_false.2 hf
      unfold Go.W.hid at h1
      rw [tombW_see h2, tombW_see (hidF_false.2 hf)] at h1
      exact h1
end Go.W
