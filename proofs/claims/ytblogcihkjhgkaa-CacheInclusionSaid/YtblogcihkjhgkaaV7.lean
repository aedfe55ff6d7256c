/-
  Regions that draw their order; code; the body of a function.
-/
import Derived.Test.YtblogcihkjhgkaaV6
set_option linter.unusedSimpArgs false
set_option linter.unusedVariables false
namespace Go.W
/-- any order: an invariant over what has been done -/
theorem XA_sound {P : Program} {id : Nat} {ops : List Oper} {Q : Exit → Act → World → Prop} (hm : P.follows .mixedOrders = true) (hback : edgesBack ops = true) (I : (Nat → Bool) → Act → World → Prop) {a : Act} {wa : World} (h0 : I (fun _ => false) a wa.drew)
    (hs : ∀ L a wa i o, I L a wa → ops[i]? = some o → L i = false → (∀ e ∈ o.after.toList, Region.binds .any e = true → L e.on = true) → ∀ Kc : Act → World → Prop, (∀ a wa, I (setL L i) a wa → Kc a wa) →
      if Region.wanted o (yielded ops.toArray a.tmps) then o.wp P a wa Kc Q else Kc (a.put o.dst undef) wa)
    (hend : ∀ L a wa, I L a wa → (∀ i, i < ops.length → L i = true) → Q .normal a wa) : (Code.region id ops.toArray true).wp P Q a wa := by
  have key : ∀ (fuel : Nat) (listed : Array Bool) (a : Act) (w : World), listed.size = ops.length → listed.toList.count false = fuel →
      I (fun i => listed.getD i false) a w → wpAny P .any ops.toArray Q fuel listed a w := by
    intro fuel
    have hdone : ∀ (listed : Array Bool) (a : Act) (w : World), listed.size = ops.length → I (fun i => listed.getD i false) a w →
        Region.ready .any ops.toArray listed = [] → Q .normal a w := by
      intro listed a w hsz hI hr
      refine hend _ a w hI ?_
      intro i
      induction i using Nat.strongRecOn with
      | _ i ih =>
        intro hi
        cases hl : listed.getD i false with
        | true => rfl
        | false =>
          exfalso
          have hmem : i ∈ Region.ready .any ops.toArray listed := by
            rw [mem_ready]
            refine ⟨?_, ops[i], by simp, fun e he hb => ?_⟩
            · have : i < listed.size := by omega
              simp only [Array.getD_eq_getD_getElem?, Array.getElem?_eq_getElem this, Option.getD_some] at hl ⊢
              exact hl
            · have h1 := List.all_eq_true.1 hback (ops[i], i) (by
                rw [List.mem_zipIdx_iff_getElem?]; simp)
              have h2 := Array.all_eq_true_iff_forall_mem.1 h1 e he
              simp only [hb, Bool.not_true, Bool.false_or, decide_eq_true_eq] at h2
              exact ih e.on h2 (by omega)
          rw [hr] at hmem
          simp at hmem
    induction fuel with
    | zero =>
      intro listed a w hsz hc hI
      have hr : Region.ready .any ops.toArray listed = [] := by
        apply List.eq_nil_iff_forall_not_mem.2
        intro i hi
        rw [mem_ready] at hi
        obtain ⟨hi, o, ho, _⟩ := hi
        have hlt : i < ops.length := by
          have := (Array.getElem?_eq_some_iff.1 ho).1
          simpa using this
        have : i < listed.size := by omega
        have hmem : false ∈ listed.toList := by
          simp only [Array.getD_eq_getD_getElem?, Array.getElem?_eq_getElem this, Option.getD_some] at hi
          rw [← hi]
          simp
        have := List.count_pos_iff.2 hmem
        omega
      exact ⟨hr, hdone listed a w hsz hI hr⟩
    | succ fuel ih =>
      intro listed a w hsz hc hI
      refine ⟨hdone listed a w hsz hI, fun i hi => ?_⟩
      rw [mem_ready] at hi
      obtain ⟨hi, o, ho, hpre⟩ := hi
      have hlt : i < ops.length := by
        have := (Array.getElem?_eq_some_iff.1 ho).1
        simpa using this
      have hol : ops[i]? = some o := by simpa using ho
      have hli : i < listed.size := by omega
      have hLi : listed.getD i false = false := by
        simp only [Array.getD_eq_getD_getElem?, Array.getElem?_eq_getElem hli, Option.getD_some] at hi ⊢
        exact hi
      have hlist : setL (fun i => listed.getD i false) i = fun j => (listed.setIfInBounds i true).getD j false := by
        funext j
        unfold setL
        by_cases e : j = i
        · subst e; simp [Array.getD_eq_getD_getElem?, hli]
        · rw [if_neg e, getD_set_ne _ (Ne.symm e)]
      have hcount : (listed.setIfInBounds i true).toList.count false = fuel := by
        have e1 : (listed.setIfInBounds i true).toList = listed.toList.set i true := by simp
        have e2 : listed.toList[i]'(by simpa using hli) = false := by
          simp only [Array.getD_eq_getD_getElem?, Array.getElem?_eq_getElem hli, Option.getD_some] at hi
          simpa using hi
        rw [e1, List.count_set (by simpa using hli), e2, hc]
        rfl
      have hstep := hs _ a w i o hI hol hLi (fun e he hb => hpre e (by simpa using he) hb) (wpAny P .any ops.toArray Q fuel (listed.setIfInBounds i true)) (fun a' w' hI' => ih _ a' w' (by simpa using hsz) hcount (by rw [← hlist]; exact hI'))
      unfold wpOp
      simp only [ho]
      split
      · rename_i hw; rw [if_pos hw] at hstep; exact .inl hstep
      · rename_i hw; rw [if_neg hw] at hstep; exact hstep
  refine wp_region_any hm ?_
  have := key ops.length (Array.replicate ops.length false) a wa.drew (by simp) (by simp [List.count_replicate]) (by
    have : (fun i => (Array.replicate ops.length false).getD i false) = fun _ => false := funext fun i => by
      simp only [Array.getD_eq_getD_getElem?, Array.getElem?_replicate]; split <;> rfl
    rw [this]; exact h0)
  simpa using this
/-! ### what must come before -/
def edg (o : Oper) : List Nat := (o.after.toList.filter fun e => Region.binds .any e).map (·.on)
def cDeps : List Oper → List (List Nat) → List (List Nat)
  | [], acc => acc
  | o :: l, acc => cDeps l (acc ++ [(edg o ++ (edg o).flatMap fun j => acc.getD j []).eraseDups])
def mkAll : List VO → List (List Nat) → Nat → List DI
  | [], _, _ => []
  | v :: l, ds, i => ⟨i, ds.headD [], v.g, v.i⟩ :: mkAll l ds.tail (i + 1)
theorem mkAll_get : ∀ (vl : List VO) (ds : List (List Nat)) (k i : Nat), (mkAll vl ds k)[i]? = (vl[i]?).map fun v => ⟨k + i, (ds.drop i).headD [], v.g, v.i⟩
  | [], _, _, i => by simp [mkAll]
  | v :: l, ds, k, 0 => by simp [mkAll]
  | v :: l, ds, k, i + 1 => by
    have := mkAll_get l ds.tail (k + 1) i
    simp only [mkAll, List.getElem?_cons_succ]
    rw [this]
    congr 1
    funext v
    rw [show k + 1 + i = k + (i + 1) by omega, List.drop_tail]
def dpo (all : List DI) (i : Nat) : List Nat := match all[i]? with | some d => d.deps | none => []
def drawOk (ops : List Oper) (all : List DI) (m : Nat) : Bool :=
  edgesBack ops && (List.range ops.length).all fun i => match ops[i]?, all[i]? with
    | some o, some d => d.deps.all (fun j => decide (j < i) && ((edg o).contains j || (edg o).any fun k => decide (k < i) && (dpo all k).contains j)) &&
        (List.range i).all fun j => d.deps.contains j || (decide (i < m) && match all[j]? with | some dj => apart d dj | none => false)
    | _, _ => false
def cSplit (all : List DI) : Nat := (List.range all.length).foldl (fun acc i => if (List.range i).all fun j => (dpo all i).contains j then acc else i + 1) 0
def cDraw (P : Program) (cx : Cx) (pe : List (Nat × Nat × Nat)) (ops : List Oper) : Option (List DI × List VO) :=
  match cList P cx pe ops ops with
  | some vl =>
    let all := mkAll vl (cDeps ops []) 0
    let m := cSplit all
    if drawOk ops all m && decide (m ≤ vl.length) then some (all.take m, vl.drop m) else none
  | none => none
theorem cList_get {P : Program} {cx : Cx} {pe : List (Nat × Nat × Nat)} {all : List Oper} : ∀ (l : List Oper) (vl : List VO), cList P cx pe all l = some vl → vl.length = l.length ∧ ∀ (i : Nat) (o : Oper) (v : VO), l[i]? = some o → vl[i]? = some v → cOne P cx pe all o = some v := by
  intro l
  induction l with
  | nil => intro vl h; simp only [cList, Option.some.injEq] at h; subst h; simp
  | cons x l ih =>
    intro vl h
    simp only [cList] at h
    split at h
    · rename_i v vl' hv hvl
      simp only [Option.some.injEq] at h
      subst h
      obtain ⟨h1, h2⟩ := ih vl' hvl
      refine ⟨by simp [h1], fun i o u ho hu => ?_⟩
      cases i with
      | zero => simp only [List.getElem?_cons_zero, Option.some.injEq] at ho hu; subst ho hu; exact hv
      | succ i => simp only [List.getElem?_cons_succ] at ho hu; exact h2 i o u ho hu
    · simp at h
def rem (L : Nat → Bool) (l : List DI) : List DI := l.filter fun o => !L o.n
theorem take_split {α : Type} (l : List α) {m i : Nat} (h : i < l.length) (him : i < m) : l.take m = l.take i ++ l[i] :: (l.take m).drop (i + 1) := by
  have h1 : (l.take m).take i = l.take i := by rw [List.take_take, Nat.min_eq_left (by omega)]
  have h2 := List.take_append_drop i (l.take m)
  have h3 : i < (l.take m).length := by simp; omega
  rw [h1, List.drop_eq_getElem_cons h3, List.getElem_take] at h2
  exact h2.symm
theorem rem_out {L : Nat → Bool} {all : List DI} (hn : ∀ (q : Nat) (d : DI), all[q]? = some d → d.n = q) {m i : Nat} (h : i < all.length) (him : i < m) (hL : L i = false) :
    rem L (all.take m) = rem L (all.take i) ++ all[i] :: rem L ((all.take m).drop (i + 1)) := by
  have h1 := hn i _ (List.getElem?_eq_getElem h)
  conv => lhs; rw [take_split all h him]
  unfold rem
  rw [List.filter_append, List.filter_cons, if_pos (by rw [h1, hL]; rfl)]
theorem rem_in {L : Nat → Bool} {all : List DI} (hn : ∀ (q : Nat) (d : DI), all[q]? = some d → d.n = q) {m i : Nat} (h : i < all.length) (him : i < m) :
    rem (setL L i) (all.take m) = rem L (all.take i) ++ rem L ((all.take m).drop (i + 1)) := by
  have h1 := hn i _ (List.getElem?_eq_getElem h)
  conv => lhs; rw [take_split all h him]
  unfold rem
  rw [List.filter_append, List.filter_cons, if_neg (by rw [h1]; simp [setL])]
  congr 1
  · apply List.filter_congr
    intro d hd
    obtain ⟨q, hq, rfl⟩ := List.getElem_of_mem hd
    have hq' := hq
    simp only [List.length_take] at hq'
    have := hn q all[q] (List.getElem?_eq_getElem (by omega))
    rw [List.getElem_take, this]
    simp only [setL]; rw [if_neg (by omega)]
  · apply List.filter_congr
    intro d hd
    obtain ⟨q, hq, rfl⟩ := List.getElem_of_mem hd
    have hq' := hq
    simp only [List.length_drop, List.length_take] at hq'
    have := hn (i + 1 + q) all[i + 1 + q] (List.getElem?_eq_getElem (by omega))
    rw [List.getElem_drop, List.getElem_take, this]
    simp only [setL]; rw [if_neg (by omega)]
theorem map_n {all : List DI} (hn : ∀ (q : Nat) (d : DI), all[q]? = some d → d.n = q) : all.map (·.n) = List.range all.length := by
  apply List.ext_getElem
  · simp
  · intro i h1 h2
    simp only [List.getElem_map, List.getElem_range]
    exact hn i _ (List.getElem?_eq_getElem (by simpa using h1))
theorem rem_nodup {L : Nat → Bool} {all : List DI} (hn : ∀ (q : Nat) (d : DI), all[q]? = some d → d.n = q) {i : Nat} : ((rem L (all.take i)).map (·.n)).Nodup := by
  have h1 : (all.map (·.n)).Nodup := by rw [map_n hn]; exact List.nodup_range
  refine h1.sublist (List.Sublist.map _ ?_)
  exact List.filter_sublist.trans (List.take_sublist _ _)
theorem rem_nil {L : Nat → Bool} {all : List DI} (hn : ∀ (q : Nat) (d : DI), all[q]? = some d → d.n = q) {m : Nat} (hL : ∀ q, q < m → q < all.length → L q = true) : rem L (all.take m) = [] := by
  unfold rem
  rw [List.filter_eq_nil_iff]
  intro d hd
  obtain ⟨q, hq, rfl⟩ := List.getElem_of_mem hd
  have hq' := hq
  simp only [List.length_take] at hq'
  have := hn q all[q] (List.getElem?_eq_getElem (by omega))
  rw [List.getElem_take, this, hL q (by omega) (by omega)]
  simp
set_option maxHeartbeats 1000000 in
theorem draw_sound {P : Program} {n : Nat} {cx : Cx} {pe : List (Nat × Nat × Nat)} {T0 : Nat → Bool} {wa0 : World} {id : Nat} {ops : List Oper} {Q : Exit → Act → World → Prop} {K : Fr → World → Prop} (hm : P.follows .mixedOrders = true) (hc : cx.ok = true) (hall : ∀ o ∈ ops, operFits n o = true)
    (hQ : ∀ fa a wa, FRel n fa a → inV cx T0 wa0 K fa wa → Q .normal a wa) {dlist : List DI} {tl : List VO} (hd : cDraw P cx pe ops = some (dlist, tl)) {f : Fr} {w : World} {fa : Fr} {a : Act} {wa : World} (hF : FRel n fa a) (hR : VRx cx T0 wa0 ok0 f w fa wa) {Ps : Psi}
    (h : YD P w.drew Ps (fun ok f w => Y P tl K ok f w) dlist F0 (ok0, f)) : (Code.region id ops.toArray true).wp P Q a wa := by
  unfold cDraw at hd
  split at hd
  · rename_i vl hvl
    obtain ⟨hlen, hone⟩ := cList_get ops vl hvl
    have hget := mkAll_get vl (cDeps ops []) 0
    generalize mkAll vl (cDeps ops []) 0 = all at *
    simp only [] at hd
    generalize cSplit all = m at *
    split at hd
    · rename_i hok
      simp only [Bool.and_eq_true, decide_eq_true_eq] at hok
      obtain ⟨hok, hmle⟩ := hok
      simp only [Option.some.injEq, Prod.mk.injEq] at hd
      obtain ⟨rfl, rfl⟩ := hd
      simp only [drawOk, Bool.and_eq_true] at hok
      obtain ⟨hback, hok⟩ := hok
      -- what the check says of an operation
      have hchk : ∀ (i : Nat) (o : Oper) (d : DI), ops[i]? = some o → all[i]? = some d → (∀ j ∈ d.deps, j < i ∧ (j ∈ edg o ∨ ∃ k ∈ edg o, k < i ∧ j ∈ dpo all k)) ∧ ∀ j, j < i → j ∈ d.deps ∨ (i < m ∧ ∃ dj, all[j]? = some dj ∧ apart d dj = true) := by
        intro i o d ho hdd
        have := List.all_eq_true.1 hok i (by simp only [List.mem_range]; exact (List.getElem?_eq_some_iff.1 ho).1)
        simp only [ho, hdd, Bool.and_eq_true, List.all_eq_true, decide_eq_true_eq, Bool.or_eq_true, List.contains_eq_mem, List.any_eq_true, List.mem_range] at this
        refine ⟨fun j hj => ?_, fun j hj => ?_⟩
        · obtain ⟨h1, h2⟩ := this.1 j hj
          refine ⟨h1, ?_⟩
          rcases h2 with h2 | ⟨k, h3, h4, h5⟩
          · exact .inl h2
          · exact .inr ⟨k, h3, h4, h5⟩
        · rcases this.2 j hj with h1 | ⟨h1, h2⟩
          · exact .inl h1
          · cases hj' : all[j]? with
            | none => rw [hj'] at h2; cases h2
            | some dj => rw [hj'] at h2; exact .inr ⟨h1, dj, rfl, h2⟩
      have hn : ∀ (i : Nat) (d : DI), all[i]? = some d → d.n = i ∧ ∃ v, vl[i]? = some v ∧ d.g = v.g ∧ d.i = v.i := by
        intro i d hd
        rw [hget] at hd
        obtain ⟨v, hv, rfl⟩ := Option.map_eq_some_iff.1 hd
        exact ⟨by simp, v, hv, rfl, rfl⟩
      have hallLen : all.length = vl.length := by
        have h1 : ∀ i : Nat, all[i]? = none ↔ vl[i]? = none := fun i => by rw [hget]; simp
        have h2 := (h1 vl.length).2 (by simp)
        have h3 := (h1 all.length).1 (by simp)
        rw [List.getElem?_eq_none_iff] at h2 h3
        omega
      -- down-closed sets
      have hclosed : ∀ (L : Nat → Bool), (∀ (i : Nat) (o : Oper), ops[i]? = some o → L i = true → ∀ j ∈ edg o, L j = true) → ∀ i, ∀ j ∈ dpo all i, L i = true → L j = true := by
        intro L hL i
        induction i using Nat.strongRecOn with
        | _ i ih =>
          intro j hj hLi
          unfold dpo at hj
          split at hj
          · rename_i d hd
            have hil : i < ops.length := by have := (List.getElem?_eq_some_iff.1 hd).1; omega
            have ho := List.getElem?_eq_getElem hil
            obtain ⟨h1, h2⟩ := (hchk i _ d ho hd).1 j hj
            rcases h2 with h2 | ⟨k, h3, h4, h5⟩
            · exact hL i _ ho hLi j h2
            · exact ih k h4 j h5 (hL i _ ho hLi k h3)
          · simp at hj
      let Kt : OK → Fr → World → Prop := fun ok f w => Y P (vl.drop m) K ok f w
      let I : (Nat → Bool) → Act → World → Prop := fun L a wa => (∀ (i : Nat) (o : Oper), ops[i]? = some o → L i = true → ∀ j ∈ edg o, L j = true) ∧ ∃ fa, FRel n fa a ∧
        (((∀ i, m ≤ i → L i = false) ∧ ∃ ok f w' F, VRx cx T0 wa0 ok f w' fa wa ∧ Ext w.drew w' ∧ FA F w' ∧ (∀ q, St (F q)) ∧ (∀ q, L q = false → F q = fun _ => True) ∧ YD P w.drew Ps Kt (rem L (all.take m)) F (ok, f)) ∨
          (∃ j, (∀ i, i < m + j → L i = true) ∧ (∀ i, m + j ≤ i → L i = false) ∧ ∃ ok f w', VRx cx T0 wa0 ok f w' fa wa ∧ Y P (vl.drop (m + j)) K ok f w'))
      refine XA_sound hm hback I ?_ ?_ ?_
      · refine ⟨fun i o _ h => (by cases h), fa, hF, .inl ⟨fun _ _ => rfl, ok0, f, w.drew, F0, ?_, Ext.refl _, fun _ => trivial, fun _ _ _ _ _ => trivial, fun _ _ => rfl, ?_⟩⟩
        · obtain ⟨T, B, hR⟩ := hR
          have := hR.move (Kp.drew hR.kp.tb)
          rw [tombW_drew, ← hR.tw] at this
          exact ⟨T, B, this⟩
        · have : rem (fun _ => false) (all.take m) = all.take m := by simp [rem]
          rw [this]; exact h
      · intro L a wa i o hI ho hLi hpre Kc hKc
        obtain ⟨hL, fa, hF, hI⟩ := hI
        have hil : i < ops.length := (List.getElem?_eq_some_iff.1 ho).1
        have hda : all[i]? = some all[i] := List.getElem?_eq_getElem (by omega)
        obtain ⟨hn1, v, hv, hg, hi'⟩ := hn i _ hda
        have hcomp := hone i o v ho hv
        have hof := hall o (List.mem_of_getElem? ho)
        have hedge : ∀ j ∈ edg o, L j = true := by
          intro j hj
          simp only [edg, List.mem_map, List.mem_filter] at hj
          obtain ⟨e, ⟨he, hb⟩, rfl⟩ := hj
          exact hpre e he hb
        have hdepL : ∀ j ∈ all[i].deps, L j = true := by
          intro j hj
          obtain ⟨_, h2⟩ := (hchk i o _ ho hda).1 j hj
          rcases h2 with h2 | ⟨k, h3, _, h5⟩
          · exact hedge j h2
          · exact hclosed L hL k j h5 (hedge k h3)
        have hL' : ∀ (i' : Nat) (o' : Oper), ops[i']? = some o' → setL L i i' = true → ∀ j ∈ edg o', setL L i j = true := by
          intro i' o' ho' hi' j hj
          have hmono : ∀ j, L j = true → setL L i j = true := fun j hj => by simp only [setL]; split <;> simp_all
          by_cases e : i' = i
          · subst e
            rw [ho] at ho'
            simp only [Option.some.injEq] at ho'
            subst ho'
            exact hmono j (hedge j hj)
          · simp only [setL, if_neg e] at hi'
            exact hmono j (hL i' o' ho' hi' j hj)
        -- an operation of the tail
        have htail : ∀ j, (∀ q, q < m + j → L q = true) → (∀ q, m + j ≤ q → L q = false) → m ≤ i → i = m + j → ∀ ok f w', VRx cx T0 wa0 ok f w' fa wa → Y P (vl.drop (m + j)) K ok f w' →
            if Region.wanted o (yielded ops.toArray a.tmps) then o.wp P a wa Kc Q else Kc (a.put o.dst undef) wa := by
          intro j h1 h2 hmi hij ok f w' hR hY
          rw [← hij, List.drop_eq_getElem_cons (by omega : i < vl.length), Y_cons] at hY
          have hvi : vl[i]'(by omega) = v := by
            rw [List.getElem?_eq_getElem (by omega)] at hv; exact Option.some.inj hv
          rw [hvi] at hY
          refine one_sound hc hall hof hcomp hF hR hY fun fa' a' wa' hF' ⟨ok', f', w'', hR', hk⟩ => hKc _ _ ⟨hL', fa', hF', .inr ⟨j + 1, fun q hq => ?_, fun q hq => ?_, ok', f', w'', hR', ?_⟩⟩
          · simp only [setL]; split
            · rfl
            · exact h1 q (by omega)
          · simp only [setL]; rw [if_neg (by omega)]; exact h2 q (by omega)
          · rw [show m + (j + 1) = i + 1 by omega]; exact hk
        rcases hI with ⟨hz, ok, f, w', F, hR, hE, hFA, hSt, hF0, hY⟩ | ⟨j, h1, h2, ok, f, w', hR, hY⟩
        · by_cases him : i < m
          · -- inside the part that draws
            have hnn : ∀ (q : Nat) (d : DI), all[q]? = some d → d.n = q := fun q d hd => (hn q d hd).1
            have hsplit := rem_out (L := L) hnn (by omega) him hLi
            have hsplit' := rem_in (L := L) hnn (by omega) him
            rw [hsplit] at hY
            have hnd : ((rem L (all.take i)).map (·.n)).Nodup := rem_nodup hnn
            have hpre0 : ∀ p ∈ rem L (all.take i), F p.n = fun _ => True := fun p hp => hF0 _ (by have := (List.mem_filter.1 hp).2; simpa using this)
            have hY' := take_first _ hnd (fun p hp => by
              obtain ⟨hp1, hp2⟩ := List.mem_filter.1 hp
              obtain ⟨q, hq, rfl⟩ := List.getElem_of_mem hp1
              have hqi : q < i := by simp at hq; omega
              simp only [List.getElem_take] at hp2 ⊢
              have hqa : all[q]? = some all[q] := List.getElem?_eq_getElem (by omega)
              have hqn := (hn q _ hqa).1
              rw [hqn] at hp2 ⊢
              have hLq : L q = false := by simpa using hp2
              have hnd : q ∉ all[i].deps := fun hx => by rw [hdepL q hx] at hLq; cases hLq
              refine ⟨?_, hnd, ?_, by rw [hn1]; omega⟩
              · rcases (hchk i o _ ho hda).2 q hqi with h1 | ⟨_, dj, h2, h3⟩
                · exact (hnd h1).elim
                · rw [hqa] at h2; simp only [Option.some.injEq] at h2; subst h2; exact h3
              · rw [hn1]
                intro hx
                have := ((hchk q _ _ (List.getElem?_eq_getElem (by omega)) hqa).1 i hx).1
                omega) F (ok, f) ⟨w', hE, hFA⟩ hSt (by rw [hn1]; exact hF0 i hLi) hpre0 hY
            have hvi := stepY_vi hE hFA hSt hY'
            rw [hg, hi'] at hvi
            refine one_sound hc hall hof hcomp hF hR hvi fun fa' a' wa' hF' ⟨ok', f', w'', hR', F', hFF, hE', hFA', hSt', hY''⟩ => hKc _ _ ⟨hL', fa', hF', .inl ⟨fun q hq => ?_, ok', f', w'', F', hR', hE', hFA', hSt', ?_, ?_⟩⟩
            · simp only [setL]; rw [if_neg (by omega)]; exact hz q hq
            · intro q hq
              simp only [setL] at hq
              split at hq
              · cases hq
              · rename_i hqi; rw [hFF q (by rw [hn1]; exact hqi)]; exact hF0 q hq
            · rw [hsplit']; exact hY''
          · -- the first of the tail
            have hfull : ∀ q, q < i → L q = true := by
              intro q hq
              rcases (hchk i o _ ho hda).2 q hq with h1 | ⟨h1, _⟩
              · exact hdepL q h1
              · omega
            have hi0 : i = m := by
              apply Nat.le_antisymm _ (by omega)
              apply Nat.le_of_not_lt
              intro hlt
              have := hfull m hlt
              rw [hz m (Nat.le_refl _)] at this
              cases this
            have hnil : rem L (all.take m) = [] := rem_nil (fun q d hd => (hn q d hd).1) fun q hq _ => hfull q (by omega)
            rw [hnil] at hY
            exact htail 0 (fun q hq => hfull q (by omega)) (fun q hq => hz q (by omega)) (by omega) (by omega) ok f w' hR (hY w' hE hFA)
        · have hij : i = m + j := by
            have hge : m + j ≤ i := by
              apply Nat.le_of_not_lt
              intro hlt
              rw [h1 i hlt] at hLi
              cases hLi
            apply Nat.le_antisymm _ hge
            apply Nat.le_of_not_lt
            intro hlt
            rcases (hchk i o _ ho hda).2 (m + j) hlt with h3 | ⟨h3, _⟩
            · have := hdepL _ h3
              rw [h2 _ (Nat.le_refl _)] at this
              cases this
            · omega
          exact htail j h1 h2 (by omega) hij ok f w' hR hY
      · intro L a wa hI hLall
        obtain ⟨hL, fa, hF, hI⟩ := hI
        refine hQ fa a wa hF ?_
        rcases hI with ⟨hz, ok, f, w', F, hR, hE, hFA, hSt, hF0, hY⟩ | ⟨j, h1, h2, ok, f, w', hR, hY⟩
        · have hml : m = vl.length := by
            apply Nat.le_antisymm hmle
            apply Nat.le_of_not_lt
            intro hlt
            have := hLall m (by omega)
            rw [hz m (Nat.le_refl _)] at this
            cases this
          have hnil : rem L (all.take m) = [] := rem_nil (fun q d hd => (hn q d hd).1) fun q hq hl => hLall q (by omega)
          rw [hnil] at hY
          have := hY w' hE hFA
          simp only [Kt] at this
          rw [hml, List.drop_length] at this
          obtain ⟨T, B, hR⟩ := hR
          exact ⟨f, w', ⟨T, B, hR.clear⟩, this⟩
        · have hml : vl.length ≤ m + j := by
            apply Nat.le_of_not_lt
            intro hlt
            have := hLall (m + j) (by omega)
            rw [h2 _ (Nat.le_refl _)] at this
            cases this
          rw [List.drop_eq_nil_of_le hml] at hY
          obtain ⟨T, B, hR⟩ := hR
          exact ⟨f, w', ⟨T, B, hR.clear⟩, hY⟩
    · simp at hd
  · simp at hd
end Go.W
