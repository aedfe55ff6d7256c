/-
  Code over boxes; the body of a function.
-/
import Derived.Test.YtblogcihkjhgkaaV7i
set_option linter.unusedSimpArgs false
set_option linter.unusedVariables false
namespace Go.W
inductive VC where
  | skip
  | exit (id : Nat)
  | ret
  | reg (l : List VO)
  | draw (l : List DI) (t : List VO)
  | seq (a b : VC)
  | cond (c : Operand) (a b : VC)
  | block (id : Nat) (b : VC)
  | loop (b : VC)
def cCode (P : Program) (cx : Cx) (pe : List (Nat × Nat × Nat)) : Code → Option VC
  | .skip => some .skip
  | .exit id => some (.exit id)
  | .ret => some .ret
  | .region _ ops false => (cList P cx pe ops.toList ops.toList).map .reg
  | .region _ ops true => (cDraw P cx pe ops.toList).map fun p => .draw p.1 p.2
  | .seq a b => match cCode P cx pe a, cCode P cx pe b with
    | some x, some y => some (.seq x y)
    | _, _ => none
  | .cond c a b => match cCode P cx pe a, cCode P cx pe b with
    | some x, some y => if cx.ordO c then some (.cond c x y) else none
    | _, _ => none
  | .block id b => (cCode P cx pe b).map (.block id)
  | .loop b => (cCode P cx pe b).map .loop
  | _ => none
/-- a region that draws its order -/
def DW (P : Program) (l : List DI) (K : OK → Fr → World → Prop) (f : Fr) (w : World) : Prop := (∃ Ps, YD P w.drew Ps K l F0 (ok0, f)) ∨ DIv P l K f w.drew
def VW (P : Program) : VC → (Exit → Fr → World → Prop) → Fr → World → Prop
  | .skip, Q, f, w => Q .normal f w
  | .exit id, Q, f, w => Q (.exit id) f w
  | .ret, Q, f, w => Q .ret f w
  | .reg l, Q, f, w => Y P l (Q .normal) ok0 f w
  | .draw l t, Q, f, w => DW P l (Y P t (Q .normal)) f w
  | .seq a b, Q, f, w => VW P a (thenQ (VW P b Q) Q) f w
  | .cond c a b, Q, f, w => condP (ev f c) (VW P a Q f w) (VW P b Q f w)
  | .block id b, Q, f, w => VW P b (inBlk id Q) f w
  | .loop b, Q, f, w => LoopP (VW P b) Q f w
def liftV (n : Nat) (cx : Cx) (T0 : Nat → Bool) (wa0 : World) (Q : Exit → Fr → World → Prop) : Exit → Act → World → Prop := fun e a wa => ∃ fa, FRel n fa a ∧ inV cx T0 wa0 (Q e) fa wa
theorem VW_sound {P : Program} {n : Nat} {cx : Cx} {pe : List (Nat × Nat × Nat)} {T0 : Nat → Bool} {wa0 : World} (hm : P.follows .mixedOrders = true) (hc : cx.ok = true) : ∀ (c : Code) (vc : VC), cCode P cx pe c = some vc → codeFits n c = true → ∀ (Q : Exit → Fr → World → Prop) (f : Fr) (w : World) (fa : Fr) (a : Act) (wa : World), FRel n fa a → VRx cx T0 wa0 ok0 f w fa wa →
    VW P vc Q f w → c.wp P (liftV n cx T0 wa0 Q) a wa := by
  intro c
  induction c with
  | skip => intro vc hcc _ Q f w fa a wa hF hR h; simp only [cCode, Option.some.injEq] at hcc; subst hcc; exact wp_skip ⟨fa, hF, f, w, hR, h⟩
  | exit id => intro vc hcc _ Q f w fa a wa hF hR h; simp only [cCode, Option.some.injEq] at hcc; subst hcc; exact wp_exit ⟨fa, hF, f, w, hR, h⟩
  | ret => intro vc hcc _ Q f w fa a wa hF hR h; simp only [cCode, Option.some.injEq] at hcc; subst hcc; exact wp_ret ⟨fa, hF, f, w, hR, h⟩
  | region id ops draw =>
    intro vc hcc hfit Q f w fa a wa hF hR h
    simp only [codeFits] at hfit
    have hall : ∀ o ∈ ops.toList, operFits n o = true := fun o ho => Array.all_eq_true_iff_forall_mem.1 hfit o (by simpa using ho)
    cases draw with
    | false =>
      simp only [cCode] at hcc
      obtain ⟨vl, hvl, rfl⟩ := Option.map_eq_some_iff.1 hcc
      have := Y_sound (P := P) (T0 := T0) (wa0 := wa0) (Q := liftV n cx T0 wa0 Q) (K := Q .normal) hc hall (fun fa a wa hF hI => ⟨fa, hF, hI⟩) ops.toList vl hvl hall ok0 f w fa a wa hF hR h
      have h2 := wp_region_lit (id := id) this
      simpa using h2
    | true =>
      simp only [cCode] at hcc
      obtain ⟨p, hp, rfl⟩ := Option.map_eq_some_iff.1 hcc
      obtain ⟨dlist, tl⟩ := p
      rcases h with ⟨Ps, h⟩ | h
      · have := draw_sound (id := id) (Q := liftV n cx T0 wa0 Q) (K := Q .normal) hm hc hall (fun fa a wa hF hI => ⟨fa, hF, hI⟩) hp hF hR h
        simpa using this
      · have := draw_soundI (id := id) (Q := liftV n cx T0 wa0 Q) (K := Q .normal) hm hc hall (fun fa a wa hF hI => ⟨fa, hF, hI⟩) hp hF hR h
        simpa using this
  | seq x y ihx ihy =>
    intro vc hcc hfit Q f w fa a wa hF hR h
    simp only [codeFits, Bool.and_eq_true] at hfit
    simp only [cCode] at hcc
    split at hcc
    · rename_i vx vy hx hy
      simp only [Option.some.injEq] at hcc; subst hcc
      refine wp_seq (wp_mono (ihx vx hx hfit.1 _ f w fa a wa hF hR h) ?_)
      rintro e a' wa' ⟨fa', hF', f', w', hR', hq⟩
      cases e with
      | normal => exact ihy vy hy hfit.2 Q f' w' fa' a' wa' hF' hR' hq
      | _ => exact ⟨fa', hF', f', w', hR', hq⟩
    · simp at hcc
  | cond c x y ihx ihy =>
    intro vc hcc hfit Q f w fa a wa hF hR h
    simp only [codeFits, Bool.and_eq_true] at hfit
    simp only [cCode] at hcc
    split at hcc
    · rename_i vx vy hx hy
      split at hcc
      · rename_i hord
        simp only [Option.some.injEq] at hcc; subst hcc
        simp only [VW, condP] at h
        split at h
        · rename_i b hb
          have hev : ev fa c = ev f c := let ⟨T, B, hR⟩ := hR; hR.ev hord
          refine wp_cond_split (t := b) (by rw [hF.eval hfit.1.1, hev]; exact hb) (fun e => ihx vx hx hfit.1.2 Q f w fa a wa hF hR (h.1 e)) (fun e => ihy vy hy hfit.2 Q f w fa a wa hF hR (h.2 e))
        · exact h.elim
      · simp at hcc
    · simp at hcc
  | block id b ih =>
    intro vc hcc hfit Q f w fa a wa hF hR h
    simp only [cCode] at hcc
    obtain ⟨vb, hb, rfl⟩ := Option.map_eq_some_iff.1 hcc
    refine wp_block (wp_mono (ih vb hb hfit _ f w fa a wa hF hR h) ?_)
    rintro e a' wa' ⟨fa', hF', f', w', hR', hq⟩
    cases e with
    | exit id' =>
      simp only [inBlk] at hq
      simp only [Exit.inBlock]
      split
      · rename_i e; rw [if_pos e] at hq; exact ⟨fa', hF', f', w', hR', hq⟩
      · rename_i e; rw [if_neg e] at hq; exact ⟨fa', hF', f', w', hR', hq⟩
    | _ => exact ⟨fa', hF', f', w', hR', hq⟩
  | loop b ih =>
    intro vc hcc hfit Q f w fa a wa hF hR h
    simp only [cCode] at hcc
    obtain ⟨vb, hb, rfl⟩ := Option.map_eq_some_iff.1 hcc
    obtain ⟨α, I, μ, x0, h0, hr⟩ := h
    intro bf k cs
    have key : ∀ m x f w fa a wa, μ x = m → I x f w → FRel n fa a → VRx cx T0 wa0 ok0 f w fa wa → ∃ e a' w', liftV n cx T0 wa0 Q e a' w' ∧ Arrives P (lone (bf.at a (.code b :: .inLoop b :: k)) cs wa) bf k cs e a' w' := by
      intro m
      induction m using Nat.strongRecOn with
      | _ m ihm =>
        intro x f w fa a wa hm hI hF hR
        obtain ⟨e, a₁, w₁, ⟨fa₁, hF₁, f₁, w₁', hR₁, hq⟩, harr⟩ := ih vb hb hfit _ f w fa a wa hF hR (hr x f w hI) bf (.inLoop b :: k) cs
        cases e with
        | normal =>
          obtain ⟨x', hI', hlt⟩ := hq
          obtain ⟨e₂, a₂, w₂, hq₂, harr₂⟩ := ihm (μ x') (hm ▸ hlt) x' f₁ w₁' fa₁ a₁ w₁ rfl hI' hF₁ hR₁
          exact ⟨e₂, a₂, w₂, hq₂, .of_steps (Steps.trans harr (.one step_inLoop)) harr₂⟩
        | exit id => exact ⟨_, a₁, w₁, ⟨fa₁, hF₁, f₁, w₁', hR₁, hq⟩, .pass (x := .inLoop b) rfl (fun _ _ => .inl (by simp)) harr⟩
        | goto l => exact ⟨_, a₁, w₁, ⟨fa₁, hF₁, f₁, w₁', hR₁, hq⟩, .pass (x := .inLoop b) rfl (fun _ _ => .inl (by simp)) harr⟩
        | ret => exact ⟨_, a₁, w₁, ⟨fa₁, hF₁, f₁, w₁', hR₁, hq⟩, .pass (x := .inLoop b) rfl (fun _ _ => .inl (by simp)) harr⟩
        | panic ch => exact ⟨_, a₁, w₁, ⟨fa₁, hF₁, f₁, w₁', hR₁, hq⟩, .pass (x := .inLoop b) rfl (fun _ _ => .inl (by simp)) harr⟩
        | outgrown => exact ⟨_, a₁, w₁, ⟨fa₁, hF₁, f₁, w₁', hR₁, hq⟩, .pass (x := .inLoop b) rfl (fun _ _ => .inl (by simp)) harr⟩
    obtain ⟨e, a', w', hq, harr⟩ := key _ x0 f w fa a wa rfl h0 hF hR
    exact ⟨e, a', w', hq, .of_steps (.one step_loop) harr⟩
  | _ => intro vc hcc; simp [cCode] at hcc

/-! ### a function's body -/
inductive VRV where
  | tmp (t : Nat)
  | box (b n : Nat) (ag : Bool)
  | cell (a : Nat) (t : TypeId)
def cRes (P : Program) (cx : Cx) : ResultVar → Option VRV
  | .tmp t => if cx.isV t then none else some (.tmp t)
  | .cell a t => match cx.bsz a with
    | some m => match szv P t, agb P t with
      | some n, some ag => some (.box a n ag)
      | _, _ => none
    | none => if cx.isV a then none else some (.cell a t)
def cRess (P : Program) (cx : Cx) : List ResultVar → Option (List VRV)
  | [] => some []
  | r :: l => match cRes P cx r, cRess P cx l with
    | some v, some vl => some (v :: vl)
    | _, _ => none
def rvV (P : Program) (f : Fr) (w : World) (r : VRV) (k : Value → Prop) : Prop :=
  match r with
  | .tmp t => k (f t)
  | .box b n ag => OB (sPart (f b) 0 n ag) k
  | .cell a t => B (sLoad P t (f a) w) fun v _ => k v
def resV (P : Program) (rs : List VRV) (f : Fr) (w : World) (k : Value → Prop) : Prop :=
  match rs with
  | [] => k (.tuple #[])
  | [a] => rvV P f w a k
  | [a, b] => rvV P f w a fun u => rvV P f w b fun v => k (.tuple #[u, v])
  | [a, b, c] => rvV P f w a fun u => rvV P f w b fun v => rvV P f w c fun x => k (.tuple #[u, v, x])
  | _ => False
def finV (P : Program) (rs : List VRV) (Φ : Value → World → Prop) : Exit → Fr → World → Prop
  | .normal, f, w | .ret, f, w => resV P rs f w fun v => Φ v w
  | _, _, _ => False
theorem rvV_rv {P : Program} {cx : Cx} {T0 : Nat → Bool} {wa0 : World} {ok : OK} {f : Fr} {w : World} {fa : Fr} {wa : World} {T : Nat → Bool} {B : Nat → Nat} (hR : VR cx T0 wa0 ok f w fa wa T B) {r : ResultVar} {v : VRV} (h : cRes P cx r = some v) {k k' : Value → Prop} (hk : ∀ u, k u → k' u)
    (hv : rvV P f w v k) : rv P fa wa r k' := by
  unfold cRes at h
  split at h
  · rename_i t
    split at h
    · simp at h
    · rename_i hV
      simp only [Option.some.injEq] at h; subst h
      simp only [rv, rvV] at hv ⊢
      rw [hR.ord t (by simpa using hV)]
      exact hk _ hv
  · rename_i a t
    split at h
    · rename_i m hb
      split at h
      · rename_i n ag hn hag
        simp only [Option.some.injEq] at h; subst h
        simp only [rvV, OB] at hv
        split at hv
        · rename_i u hs
          unfold sPart at hs
          split at hs
          · rename_i hl
            obtain ⟨h1, h2, h3, h4, ty', h5⟩ := hR.box a m hb hl
            have hload : sLoad P t (.pointer (some ⟨B a, 0, none⟩)) wa = some (u, wa) := by
              rw [sLoad_p, hag, hn]
              cases ag with
              | true =>
                simp only [if_true] at hs
                simp only [Option.bind_some, if_true, rd_mk, h5]
                split at hs
                · rename_i hle
                  simp only [Option.some.injEq] at hs
                  rw [if_pos hle, ← hs]
                  rfl
                · simp at hs
              | false =>
                simp only [Bool.false_eq_true, if_false] at hs
                simp only [Option.bind_some, Bool.false_eq_true, if_false, cell_mk, h5, hs, Option.map_some]
            simp only [rv, h1, hload, Go.W.B]
            exact hk _ hv
          · simp at hs
        · exact hv.elim
      · simp at h
    · rename_i hb
      split at h
      · simp at h
      · rename_i hV
        simp only [Option.some.injEq] at h; subst h
        simp only [rvV] at hv
        simp only [rv]
        rw [hR.ord a (by simpa using hV)]
        have hw := hR.tw
        subst hw
        unfold Go.W.B at hv ⊢
        split at hv
        · rename_i u w' hs
          obtain ⟨w1, h1, _, _⟩ := Tr_sLoad P t (f a) T wa u w' hR.kp.tb hs
          rw [h1]
          exact hk _ hv
        · exact hv.elim
theorem resV_res {P : Program} {cx : Cx} {T0 : Nat → Bool} {wa0 : World} {ok : OK} {f : Fr} {w : World} {fa : Fr} {wa : World} {T : Nat → Bool} {B : Nat → Nat} (hR : VR cx T0 wa0 ok f w fa wa T B) {rs : List ResultVar} {vs : List VRV} (h : cRess P cx rs = some vs) {k k' : Value → Prop} (hk : ∀ u, k u → k' u)
    (hv : resV P vs f w k) : resW P rs fa wa k' := by
  have step : ∀ (r : ResultVar) (l : List ResultVar) (vs : List VRV), cRess P cx (r :: l) = some vs → ∃ v vl, cRes P cx r = some v ∧ cRess P cx l = some vl ∧ vs = v :: vl := by
    intro r l vs h
    simp only [cRess] at h
    split at h
    · rename_i v vl h1 h2; simp only [Option.some.injEq] at h; exact ⟨v, vl, h1, h2, h.symm⟩
    · simp at h
  cases rs with
  | nil => simp only [cRess, Option.some.injEq] at h; subst h; exact hk _ hv
  | cons r1 l1 =>
    obtain ⟨v1, vl1, a1, b1, rfl⟩ := step _ _ _ h
    cases l1 with
    | nil => simp only [cRess, Option.some.injEq] at b1; subst b1; exact rvV_rv hR a1 hk hv
    | cons r2 l2 =>
      obtain ⟨v2, vl2, a2, b2, rfl⟩ := step _ _ _ b1
      cases l2 with
      | nil => simp only [cRess, Option.some.injEq] at b2; subst b2; exact rvV_rv hR a1 (k := fun u => rvV P f w v2 fun v => k (.tuple #[u, v])) (fun u hu => rvV_rv hR a2 (fun x hx => hk (.tuple #[u, x]) hx) hu) hv
      | cons r3 l3 =>
        obtain ⟨v3, vl3, a3, b3, rfl⟩ := step _ _ _ b2
        cases l3 with
        | nil => simp only [cRess, Option.some.injEq] at b3; subst b3; exact rvV_rv hR a1 (k := fun u => rvV P f w v2 fun v => rvV P f w v3 fun x => k (.tuple #[u, v, x])) (fun u hu => rvV_rv hR a2 (fun x hx => rvV_rv hR a3 (fun y hy => hk (.tuple #[u, x, y]) hy) hx) hu) hv
        | cons r4 l4 =>
          obtain ⟨v4, vl4, a4, b4, rfl⟩ := step _ _ _ b3
          exact hv.elim
theorem Ret_wp {P : Program} {g : Nat} {fn : Func} {c : Code} {args : Array Value} {w : World} {Φ : Value → World → Prop} (hf : P.funcs[g]? = some fn) (hb : fn.body = some c) (hn : enters P g = true)
    (hargs : decide (args.size ≤ fn.ntmps) = true) (hres : resFits fn.ntmps fn.results = true)
    (h : ∀ a, FRel fn.ntmps (fr0 args.toList) a → c.wp P (fun e a w' => ∃ fa, FRel fn.ntmps fa a ∧ fin P fn.results Φ e fa w') a w) : Ret P g args w Φ := by
  refine ⟨hn, calls_of_wp hf hb ?_⟩
  have hF : FRel fn.ntmps (fr0 args.toList) { tmps := args ++ Array.replicate (fn.ntmps - args.size) undef, defers := [] } := by
    refine ⟨rfl, by simp at hargs ⊢; omega, fun t ht => ?_⟩
    rw [fr0_eq]
    simp only [Array.getElem?_append]
    split
    · rename_i hlt; simp [hlt]
    · rename_i hge
      have : t - args.size < fn.ntmps - args.size := by omega
      simp [this, List.getD_eq_getElem?_getD]
      rw [Array.getElem?_eq_none (by omega)]
      rfl
  refine wp_mono (h _ hF) ?_
  rintro e a' w' ⟨f', hF', hq⟩
  have main : resW P fn.results.toList f' w' (fun v => Φ v w') → a'.defers = [] ∧ ∃ v, (results fn a'.tmps).run P w' = .ok v w' ∧ ∃ u, Ending.returned v = .returned u ∧ Φ u w' := by
    intro hr
    refine ⟨hF'.1, ?_⟩
    unfold resW at hr
    have hall := Array.all_eq_true_iff_forall_mem.1 hres
    split at hr
    · rename_i he
      have : fn.results = #[] := by apply Array.ext'; simpa using he
      exact ⟨_, by simp [results, this, Sem.run, pure], _, rfl, hr⟩
    · rename_i x he
      have hx : fn.results = #[x] := by apply Array.ext'; simpa using he
      obtain ⟨v, hk, hv⟩ := rv_run hF' (hall x (by simp [hx])) hr
      refine ⟨v, ?_, _, rfl, hk⟩
      simp only [results, hx, Array.mapM_eq_mapM_toList, List.mapM_cons, List.mapM_nil, run_bind, bind_assoc, pure_bind, map_bind, map_pure]
      cases x <;> simp only [run_bind] at hv ⊢ <;> rw [hv] <;> simp [Sem.run, pure]
    · rename_i x y he
      have hx : fn.results = #[x, y] := by apply Array.ext'; simpa using he
      obtain ⟨v, hk, hv⟩ := rv_run hF' (hall x (by simp [hx])) hr
      obtain ⟨u, hk2, hu⟩ := rv_run hF' (hall y (by simp [hx])) hk
      refine ⟨.tuple #[v, u], ?_, _, rfl, hk2⟩
      simp only [results, hx, Array.mapM_eq_mapM_toList, List.mapM_cons, List.mapM_nil, run_bind, bind_assoc, pure_bind, map_bind, map_pure]
      cases x <;> cases y <;> simp only [run_bind] at hv hu ⊢ <;> simp only [hv, hu] <;> simp [Sem.run, pure]
    · rename_i x y z he
      have hx : fn.results = #[x, y, z] := by apply Array.ext'; simpa using he
      obtain ⟨v, hk, hv⟩ := rv_run hF' (hall x (by simp [hx])) hr
      obtain ⟨u, hk2, hu⟩ := rv_run hF' (hall y (by simp [hx])) hk
      obtain ⟨t, hk3, ht⟩ := rv_run hF' (hall z (by simp [hx])) hk2
      refine ⟨.tuple #[v, u, t], ?_, _, rfl, hk3⟩
      simp only [results, hx, Array.mapM_eq_mapM_toList, List.mapM_cons, List.mapM_nil, run_bind, bind_assoc, pure_bind, map_bind, map_pure]
      cases x <;> cases y <;> cases z <;> simp only [run_bind] at hv hu ht ⊢ <;> simp only [hv, hu, ht] <;> simp [Sem.run, pure]
    · exact hr.elim
  cases e with
  | normal => exact main hq
  | ret => exact main hq
  | _ => exact hq.elim
/-- everything that the kernel checks of a function, ahead of its walk -/
structure FnOk (P : Program) (g na : Nat) (vc : VC) (rs : List VRV) : Prop where
  ok : ∃ (fn : Func) (c : Code) (cx : Cx) (pe : List (Nat × Nat × Nat)), P.funcs[g]? = some fn ∧ fn.body = some c ∧ enters P g = true ∧ codeFits fn.ntmps c = true ∧ decide (na ≤ fn.ntmps) = true ∧ resFits fn.ntmps fn.results = true ∧
    cx.ok = true ∧ cCode P cx pe c = some vc ∧ cRess P cx fn.results.toList = some rs ∧ (cx.bx.all fun b => decide (na ≤ b.1)) = true
theorem bsz_mem {cx : Cx} {d n : Nat} (h : cx.bsz d = some n) : (d, n) ∈ cx.bx := by
  unfold Cx.bsz at h
  obtain ⟨p, hp, rfl⟩ := Option.map_eq_some_iff.1 h
  have h1 := List.mem_of_find?_eq_some hp
  have h2 := List.find?_some hp
  simp only [beq_iff_eq] at h2
  obtain ⟨a, b⟩ := p
  simp only [] at h2
  subst h2
  exact h1
theorem VRet_start {P : Program} {g na : Nat} {vc : VC} {rs : List VRV} (hm : P.follows .mixedOrders = true) (hok : FnOk P g na vc rs) {args : Array Value} (hna : args.size = na) {w : World} {Φ : Value → World → Prop}
    (h : ∀ Ψ : Value → World → Prop, (∀ v w', Φ v w' → Ψ v w') → VW P vc (finV P rs Ψ) (fr0 args.toList) w) : VRet P g args w Φ := by
  obtain ⟨fn, c, cx, pe, h1, h2, h3, h4, h5, h6, h7, h8, h9, h10⟩ := hok.ok
  refine .inl ⟨h3, fun T0 wa0 hw hT => ?_⟩
  subst hna
  refine Ret_wp h1 h2 h3 h5 h6 fun a hF => ?_
  have hR : VRx cx T0 wa0 ok0 (fr0 args.toList) w (fr0 args.toList) wa0 := by
    refine ⟨T0, fun _ => 0, hw, Kp.refl hT, fun _ _ => rfl, fun d n hd hl => ?_, fun d d' n n' hd hd' hl => ?_, fun e b off he => by simp [ok0] at he⟩
    all_goals
      exfalso
      have hle := List.all_eq_true.1 h10 _ (bsz_mem hd)
      simp only [decide_eq_true_eq] at hle
      rw [fr0_eq, List.getD_eq_getElem?_getD, List.getElem?_eq_none (by simp; omega)] at hl
      cases hl
  refine wp_mono (VW_sound hm h7 c vc h8 h4 (finV P rs Φ) _ w _ a wa0 hF hR (h Φ fun _ _ h => h)) ?_
  rintro e a' wa' ⟨fa', hF', f', w', ⟨T, B, hR'⟩, hq⟩
  refine ⟨fa', hF', ?_⟩
  have main : resV P rs f' w' (fun v => Φ v w') → resW P fn.results.toList fa' wa' (fun v => upV Φ T0 wa0 v wa') := fun hq => resV_res hR' h9 (fun u hu => ⟨T, hR'.kp, by rw [← hR'.tw]; exact hu⟩) hq
  cases e with
  | normal => exact main hq
  | ret => exact main hq
  | _ => exact hq.elim
end Go.W
