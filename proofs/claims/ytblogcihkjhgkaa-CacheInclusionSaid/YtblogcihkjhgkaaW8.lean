/-
  Code: Wp; regions that draw their order; the body of a function.
-/
import Derived.Test.YtblogcihkjhgkaaW7q
set_option linter.unusedSimpArgs false
set_option linter.unusedVariables false
namespace Go.W
def thenQ (next : Fr → World → Prop) (Q : Exit → Fr → World → Prop) : Exit → Fr → World → Prop
  | .normal, f, w => next f w
  | e, f, w => Q e f w
def inBlk (id : Nat) (Q : Exit → Fr → World → Prop) : Exit → Fr → World → Prop
  | .exit id', f, w => if id' = id then Q .normal f w else Q (.exit id') f w
  | e, f, w => Q e f w
def condP (v : Value) (A B : Prop) : Prop :=
  match v with
  | .bool b => (b = true → A) ∧ (b = false → B)
  | _ => False
theorem condP_true (A B : Prop) : condP (.bool true) A B = A := by simp [condP]
theorem condP_false (A B : Prop) : condP (.bool false) A B = B := by simp [condP]
theorem condP_intro {b : Bool} {A B : Prop} (h1 : b = true → A) (h2 : b = false → B) : condP (.bool b) A B := ⟨h1, h2⟩
theorem condP_dec {p : Prop} [Decidable p] {A B : Prop} (h1 : p → A) (h2 : ¬ p → B) : condP (.bool (decide p)) A B :=
  ⟨fun h => h1 (by simpa using h), fun h => h2 (by simpa using h)⟩
theorem condP_pos {p : Prop} [Decidable p] {A B : Prop} (hp : p) (h1 : A) : condP (.bool (decide p)) A B := condP_dec (fun _ => h1) (fun h => (h hp).elim)
theorem condP_neg {p : Prop} [Decidable p] {A B : Prop} (hp : ¬ p) (h1 : B) : condP (.bool (decide p)) A B := condP_dec (fun h => (hp h).elim) (fun _ => h1)
theorem thenQ_normal (next : Fr → World → Prop) (Q : Exit → Fr → World → Prop) (f : Fr) (w : World) : thenQ next Q .normal f w = next f w := rfl
theorem thenQ_exit (next : Fr → World → Prop) (Q : Exit → Fr → World → Prop) (id : Nat) (f : Fr) (w : World) : thenQ next Q (.exit id) f w = Q (.exit id) f w := rfl
theorem thenQ_ret (next : Fr → World → Prop) (Q : Exit → Fr → World → Prop) (f : Fr) (w : World) : thenQ next Q .ret f w = Q .ret f w := rfl
theorem inBlk_normal (id : Nat) (Q : Exit → Fr → World → Prop) (f : Fr) (w : World) : inBlk id Q .normal f w = Q .normal f w := rfl
theorem inBlk_exit (id id' : Nat) (Q : Exit → Fr → World → Prop) (f : Fr) (w : World) : inBlk id Q (.exit id') f w = if id' = id then Q .normal f w else Q (.exit id') f w := rfl
theorem inBlk_exit_same (id : Nat) (Q : Exit → Fr → World → Prop) (f : Fr) (w : World) : inBlk id Q (.exit id) f w = Q .normal f w := by simp [inBlk]
theorem inBlk_exit_ne {id id' : Nat} (h : id' ≠ id) (Q : Exit → Fr → World → Prop) (f : Fr) (w : World) : inBlk id Q (.exit id') f w = Q (.exit id') f w := by simp [inBlk, h]
theorem inBlk_ret (id : Nat) (Q : Exit → Fr → World → Prop) (f : Fr) (w : World) : inBlk id Q .ret f w = Q .ret f w := rfl

/-- a region that draws its order: an invariant over the set of operations that have been done -/
def edgesBack (ops : List Oper) : Bool := ops.zipIdx.all fun p => p.1.after.all fun e => !Region.binds .any e || decide (e.on < p.2)
def setL (L : Nat → Bool) (i : Nat) : Nat → Bool := fun j => if j = i then true else L j
def XD (P : Program) (ops : List Oper) (K : Fr → World → Prop) (f : Fr) (w : World) : Prop :=
  P.follows .mixedOrders = true ∧ edgesBack ops = true ∧ ∃ I : (Nat → Bool) → Fr → World → Prop, I (fun _ => false) f w.drew ∧
    (∀ L f w i o, I L f w → ops[i]? = some o → L i = false → (∀ e ∈ o.after.toList, Region.binds .any e = true → L e.on = true) →
      match o.guard with
      | none => opW P o.op o.type f w fun v w' => I (setL L i) (updO f o.dst v) w'
      | some (j, want) => G (gv f ops j) want (opW P o.op o.type f w fun v w' => I (setL L i) (updO f o.dst v) w') (I (setL L i) (updO f o.dst undef) w)) ∧
    (∀ L f w, I L f w → (∀ i, i < ops.length → L i = true) → K f w)

/-- what follows, in every world that has grown out of w1 -/
def KE (w1 : World) (K : Fr → World → Prop) (f : Fr) : Prop := ∀ w', Ext w1 w' → K f w'
/-- a region that draws its order: by an invariant, or by one pass in the order of the text where it only reads but for calls that make memory -/
def DR (P : Program) (ops : List Oper) (K : Fr → World → Prop) (f : Fr) (w : World) : Prop :=
  XD P ops K f w ∨ (P.follows .mixedOrders = true ∧ Region.lexB .any ops.toArray = true ∧ XQ P ops w.drew ops (KE w.drew K) f)
theorem DR_inv {P : Program} {ops : List Oper} {K : Fr → World → Prop} {f : Fr} {w : World} (h : XD P ops K f w) : DR P ops K f w := .inl h
theorem DR_text {P : Program} {ops : List Oper} {K : Fr → World → Prop} {f : Fr} {w : World} (hm : P.follows .mixedOrders = true) (hB : Region.lexB .any ops.toArray = true) (h : XQ P ops w.drew ops (KE w.drew K) f) : DR P ops K f w := .inr ⟨hm, hB, h⟩
def LoopP (body : (Exit → Fr → World → Prop) → Fr → World → Prop) (Q : Exit → Fr → World → Prop) (f : Fr) (w : World) : Prop :=
  ∃ (α : Type) (I : α → Fr → World → Prop) (μ : α → Nat) (x0 : α), I x0 f w ∧
    ∀ x f w, I x f w → body (thenQ (fun f' w' => ∃ x', I x' f' w' ∧ μ x' < μ x) Q) f w
theorem LoopP_intro {α : Type} {body : (Exit → Fr → World → Prop) → Fr → World → Prop} {Q : Exit → Fr → World → Prop} {f : Fr} {w : World} (I : α → Fr → World → Prop) (μ : α → Nat) (x0 : α)
    (h0 : I x0 f w) (h : ∀ x f w, I x f w → body (thenQ (fun f' w' => ∃ x', I x' f' w' ∧ μ x' < μ x) Q) f w) : LoopP body Q f w := ⟨α, I, μ, x0, h0, h⟩

def Wp (P : Program) : Code → (Exit → Fr → World → Prop) → Fr → World → Prop
  | .skip, Q, f, w => Q .normal f w
  | .exit id, Q, f, w => Q (.exit id) f w
  | .ret, Q, f, w => Q .ret f w
  | .region _ ops false, Q, f, w => X P ops.toList ops.toList (Q .normal) f w
  | .region _ ops true, Q, f, w => DR P ops.toList (Q .normal) f w
  | .seq a b, Q, f, w => Wp P a (thenQ (Wp P b Q) Q) f w
  | .cond c a b, Q, f, w => condP (ev f c) (Wp P a Q f w) (Wp P b Q f w)
  | .block id b, Q, f, w => Wp P b (inBlk id Q) f w
  | .loop b, Q, f, w => LoopP (Wp P b) Q f w
  | _, _, _, _ => False
section
variable (P : Program) (Q : Exit → Fr → World → Prop) (f : Fr) (w : World)
theorem Wp_skip : Wp P .skip Q f w = Q .normal f w := rfl
theorem Wp_exit (id : Nat) : Wp P (.exit id) Q f w = Q (.exit id) f w := rfl
theorem Wp_ret : Wp P .ret Q f w = Q .ret f w := rfl
theorem Wp_reg (id : Nat) (l : List Oper) : Wp P (.region id l.toArray false) Q f w = X P l l (Q .normal) f w := rfl
theorem Wp_draw (id : Nat) (l : List Oper) : Wp P (.region id l.toArray true) Q f w = DR P l (Q .normal) f w := rfl
theorem Wp_seq (a b : Code) : Wp P (.seq a b) Q f w = Wp P a (thenQ (Wp P b Q) Q) f w := rfl
theorem Wp_cond (c : Operand) (a b : Code) : Wp P (.cond c a b) Q f w = condP (ev f c) (Wp P a Q f w) (Wp P b Q f w) := rfl
theorem Wp_block (id : Nat) (b : Code) : Wp P (.block id b) Q f w = Wp P b (inBlk id Q) f w := rfl
theorem Wp_loop (b : Code) : Wp P (.loop b) Q f w = LoopP (Wp P b) Q f w := rfl
end

def liftQ (n : Nat) (Q : Exit → Fr → World → Prop) : Exit → Act → World → Prop := fun e a w => ∃ f, FRel n f a ∧ Q e f w

theorem XD_sound {P : Program} {n : Nat} {id : Nat} {ops : List Oper} {Q : Exit → Fr → World → Prop} (hall : ∀ o ∈ ops, operFits n o = true) {f : Fr} {a : Act} {w : World} (hF : FRel n f a)
    (h : XD P ops (Q .normal) f w) : (Code.region id ops.toArray true).wp P (liftQ n Q) a w := by
  obtain ⟨hm, hback, I, h0, hstep, hend⟩ := h
  have key : ∀ (fuel : Nat) (listed : Array Bool) (f : Fr) (a : Act) (w : World), listed.size = ops.length → listed.toList.count false = fuel → FRel n f a →
      I (fun i => listed.getD i false) f w → wpAny P .any ops.toArray (liftQ n Q) fuel listed a w := by
    intro fuel
    have hdone : ∀ (listed : Array Bool) (f : Fr) (a : Act) (w : World), listed.size = ops.length → FRel n f a → I (fun i => listed.getD i false) f w →
        Region.ready .any ops.toArray listed = [] → liftQ n Q .normal a w := by
      intro listed f a w hsz hF hI hr
      refine ⟨f, hF, hend _ f w hI ?_⟩
      intro i
      induction i using Nat.strongRecOn with
      | _ i ih =>
        intro hi
        cases hl : listed.getD i false with
        | true => rfl
        | false =>
          exfalso
          have hmem : i ∈ Region.ready .any ops.toArray listed := by
            rw [mem_ready]
            refine ⟨?_, ops[i], by simp, fun e he hb => ?_⟩
            · have : i < listed.size := by omega
              simp only [Array.getD_eq_getD_getElem?, Array.getElem?_eq_getElem this, Option.getD_some] at hl ⊢
              exact hl
            · have h1 := List.all_eq_true.1 hback (ops[i], i) (by
                rw [List.mem_zipIdx_iff_getElem?]; simp)
              have h2 := Array.all_eq_true_iff_forall_mem.1 h1 e he
              simp only [hb, Bool.not_true, Bool.false_or, decide_eq_true_eq] at h2
              exact ih e.on h2 (by omega)
          rw [hr] at hmem
          simp at hmem
    induction fuel with
    | zero =>
      intro listed f a w hsz hc hF hI
      have hr : Region.ready .any ops.toArray listed = [] := by
        apply List.eq_nil_iff_forall_not_mem.2
        intro i hi
        rw [mem_ready] at hi
        obtain ⟨hi, o, ho, _⟩ := hi
        have hlt : i < ops.length := by
          have := (Array.getElem?_eq_some_iff.1 ho).1
          simpa using this
        have : i < listed.size := by omega
        have hmem : false ∈ listed.toList := by
          simp only [Array.getD_eq_getD_getElem?, Array.getElem?_eq_getElem this, Option.getD_some] at hi
          rw [← hi]
          simp
        have := List.count_pos_iff.2 hmem
        omega
      exact ⟨hr, hdone listed f a w hsz hF hI hr⟩
    | succ fuel ih =>
      intro listed f a w hsz hc hF hI
      refine ⟨hdone listed f a w hsz hF hI, fun i hi => ?_⟩
      rw [mem_ready] at hi
      obtain ⟨hi, o, ho, hpre⟩ := hi
      have hlt : i < ops.length := by
        have := (Array.getElem?_eq_some_iff.1 ho).1
        simpa using this
      have hol : ops[i]? = some o := by simpa using ho
      have hli : i < listed.size := by omega
      have hmemo : o ∈ ops := List.mem_of_getElem? hol
      have hof := hall o hmemo
      obtain ⟨_, _, hd⟩ := operFits_spec hof
      have hLi : listed.getD i false = false := by
        simp only [Array.getD_eq_getD_getElem?, Array.getElem?_eq_getElem hli, Option.getD_some] at hi ⊢
        exact hi
      have hlist : ∀ j, setL (fun i => listed.getD i false) i j = (listed.setIfInBounds i true).getD j false := by
        intro j
        unfold setL
        by_cases e : j = i
        · subst e; simp [Array.getD_eq_getD_getElem?, hli]
        · rw [if_neg e, getD_set_ne _ (Ne.symm e)]
      have hcount : (listed.setIfInBounds i true).toList.count false = fuel := by
        have e1 : (listed.setIfInBounds i true).toList = listed.toList.set i true := by simp
        have e2 : listed.toList[i]'(by simpa using hli) = false := by
          simp only [Array.getD_eq_getD_getElem?, Array.getElem?_eq_getElem hli, Option.getD_some] at hi
          simpa using hi
        rw [e1, List.count_set (by simpa using hli), e2, hc]
        rfl
      have hih : ∀ f' a' w', FRel n f' a' → I (setL (fun i => listed.getD i false) i) f' w' → wpAny P .any ops.toArray (liftQ n Q) fuel (listed.setIfInBounds i true) a' w' := by
        intro f' a' w' hF' hI'
        refine ih _ f' a' w' (by simpa using hsz) hcount hF' ?_
        rw [show (fun j => (listed.setIfInBounds i true).getD j false) = setL (fun i => listed.getD i false) i from funext fun j => (hlist j).symm]
        exact hI'
      have hs := hstep _ f w i o hI hol hLi (fun e he hb => hpre e (by simpa using he) hb)
      unfold wpOp
      simp only [ho]
      cases hg : o.guard with
      | none =>
        simp only [hg] at hs
        rw [if_pos (by simp [Region.wanted, hg])]
        exact .inl (raw_sound hF hof (opW_sound hs) fun v w' hx => hih _ _ _ (hF.put hd v) hx)
      | some gw =>
        obtain ⟨j, want⟩ := gw
        simp only [hg] at hs
        have hy := gv_spec hF ops j hall
        unfold G at hs
        split at hs
        · rename_i b hb
          have hyb : yielded ops.toArray a.tmps j = some b := (hy b).2 hb
          by_cases hbw : b = want
          · rw [if_pos (by simp [Region.wanted, hg, hyb, hbw])]
            exact .inl (raw_sound hF hof (opW_sound (hs.1 hbw)) fun v w' hx => hih _ _ _ (hF.put hd v) hx)
          · rw [if_neg (by simp [Region.wanted, hg, hyb, hbw])]
            exact hih _ _ _ (hF.put hd undef) (hs.2 hbw)
        · rename_i hne
          rw [if_neg (by
            simp only [Region.wanted, hg, beq_iff_eq]
            intro e
            exact hne _ ((hy want).1 e))]
          exact hih _ _ _ (hF.put hd undef) hs
  refine wp_region_any hm ?_
  have := key ops.length (Array.replicate ops.length false) f a w.drew (by simp) (by simp [List.count_replicate]) hF (by
    have : (fun i => (Array.replicate ops.length false).getD i false) = fun _ => false := funext fun i => by
      simp only [Array.getD_eq_getD_getElem?, Array.getElem?_replicate]; split <;> rfl
    rw [this]; exact h0)
  simpa using this

theorem Wp_sound {P : Program} {n : Nat} : ∀ (c : Code), codeFits n c = true → ∀ (Q : Exit → Fr → World → Prop) (f : Fr) (a : Act) (w : World), FRel n f a → Wp P c Q f w → c.wp P (liftQ n Q) a w := by
  intro c
  induction c with
  | skip => intro _ Q f a w hF h; exact wp_skip ⟨f, hF, h⟩
  | exit id => intro _ Q f a w hF h; exact wp_exit ⟨f, hF, h⟩
  | ret => intro _ Q f a w hF h; exact wp_ret ⟨f, hF, h⟩
  | region id ops draw =>
    intro hfit Q f a w hF h
    simp only [codeFits] at hfit
    have hall : ∀ o ∈ ops.toList, operFits n o = true := fun o ho => Array.all_eq_true_iff_forall_mem.1 hfit o (by simpa using ho)
    cases draw with
    | false =>
      have := X_sound (P := P) (Q := liftQ n Q) (K := Q .normal) hall (fun f a w hF hk => ⟨f, hF, hk⟩) ops.toList hall f a w hF h
      have h2 := wp_region_lit (id := id) this
      simpa using h2
    | true =>
      rcases h with h | ⟨hm, hB, h⟩
      · have h2 := XD_sound (id := id) hall hF h
        simpa using h2
      · refine wp_region_quiet (C := Ext w.drew) hm (by simpa using hB) (Ext.refl _) ?_
        have := XQ_sound (P := P) (Q := fun a' => ∀ w', Ext w.drew w' → liftQ n Q .normal a' w') hall (fun f a hF hk w' hE => ⟨f, hF, hk w' hE⟩) ops.toList hall f a hF h
        simpa using this
  | seq x y ihx ihy =>
    intro hfit Q f a w hF h
    simp only [codeFits, Bool.and_eq_true] at hfit
    refine wp_seq (wp_mono (ihx hfit.1 _ f a w hF h) ?_)
    rintro e a' w' ⟨f', hF', hq⟩
    cases e with
    | normal => exact ihy hfit.2 Q f' a' w' hF' hq
    | _ => exact ⟨f', hF', hq⟩
  | cond c x y ihx ihy =>
    intro hfit Q f a w hF h
    simp only [codeFits, Bool.and_eq_true] at hfit
    simp only [Wp, condP] at h
    split at h
    · rename_i b hb
      refine wp_cond_split (t := b) (by rw [hF.eval hfit.1.1]; exact hb) (fun e => ihx hfit.1.2 Q f a w hF (h.1 e)) (fun e => ihy hfit.2 Q f a w hF (h.2 e))
    · exact h.elim
  | block id b ih =>
    intro hfit Q f a w hF h
    refine wp_block (wp_mono (ih hfit _ f a w hF h) ?_)
    rintro e a' w' ⟨f', hF', hq⟩
    cases e with
    | exit id' =>
      simp only [inBlk] at hq
      simp only [Exit.inBlock]
      split
      · rename_i e; rw [if_pos e] at hq; exact ⟨f', hF', hq⟩
      · rename_i e; rw [if_neg e] at hq; exact ⟨f', hF', hq⟩
    | _ => exact ⟨f', hF', hq⟩
  | loop b ih =>
    intro hfit Q f a w hF h
    obtain ⟨α, I, μ, x0, h0, hr⟩ := h
    -- the ghost state is carried by a strong induction on its measure
    intro bf k cs
    have key : ∀ m x f a w, μ x = m → I x f w → FRel n f a → ∃ e a' w', liftQ n Q e a' w' ∧ Arrives P (lone (bf.at a (.code b :: .inLoop b :: k)) cs w) bf k cs e a' w' := by
      intro m
      induction m using Nat.strongRecOn with
      | _ m ihm =>
        intro x f a w hm hI hF
        obtain ⟨e, a₁, w₁, ⟨f₁, hF₁, hq⟩, harr⟩ := ih hfit _ f a w hF (hr x f w hI) bf (.inLoop b :: k) cs
        cases e with
        | normal =>
          obtain ⟨x', hI', hlt⟩ := hq
          obtain ⟨e₂, a₂, w₂, hq₂, harr₂⟩ := ihm (μ x') (hm ▸ hlt) x' f₁ a₁ w₁ rfl hI' hF₁
          exact ⟨e₂, a₂, w₂, hq₂, .of_steps (Steps.trans harr (.one step_inLoop)) harr₂⟩
        | exit id => exact ⟨_, a₁, w₁, ⟨f₁, hF₁, hq⟩, .pass (x := .inLoop b) rfl (fun _ _ => .inl (by simp)) harr⟩
        | goto l => exact ⟨_, a₁, w₁, ⟨f₁, hF₁, hq⟩, .pass (x := .inLoop b) rfl (fun _ _ => .inl (by simp)) harr⟩
        | ret => exact ⟨_, a₁, w₁, ⟨f₁, hF₁, hq⟩, .pass (x := .inLoop b) rfl (fun _ _ => .inl (by simp)) harr⟩
        | panic ch => exact ⟨_, a₁, w₁, ⟨f₁, hF₁, hq⟩, .pass (x := .inLoop b) rfl (fun _ _ => .inl (by simp)) harr⟩
        | outgrown => exact ⟨_, a₁, w₁, ⟨f₁, hF₁, hq⟩, .pass (x := .inLoop b) rfl (fun _ _ => .inl (by simp)) harr⟩
    obtain ⟨e, a', w', hq, harr⟩ := key _ x0 f a w rfl h0 hF
    exact ⟨e, a', w', hq, .of_steps (.one step_loop) harr⟩
  | _ => intro hfit; simp [codeFits] at hfit

/-! ### a function's body -/
def fr0 : List Value → Fr
  | [], _ => undef
  | v :: _, 0 => v
  | _ :: l, n + 1 => fr0 l n
theorem fr0_zero (v : Value) (l : List Value) : fr0 (v :: l) 0 = v := rfl
theorem fr0_succ (v : Value) (l : List Value) (n : Nat) : fr0 (v :: l) (n + 1) = fr0 l n := rfl
theorem fr0_eq : ∀ (l : List Value) (t : Nat), fr0 l t = l.getD t undef
  | [], t => by simp [fr0]
  | v :: l, 0 => by simp [fr0]
  | v :: l, n + 1 => by simp [fr0, fr0_eq l n]
def rv (P : Program) (f : Fr) (w : World) (r : ResultVar) (k : Value → Prop) : Prop :=
  match r with
  | .tmp t => k (f t)
  | .cell a t => B (sLoad P t (f a) w) fun v _ => k v
def resW (P : Program) (rs : List ResultVar) (f : Fr) (w : World) (k : Value → Prop) : Prop :=
  match rs with
  | [] => k (.tuple #[])
  | [a] => rv P f w a k
  | [a, b] => rv P f w a fun u => rv P f w b fun v => k (.tuple #[u, v])
  | [a, b, c] => rv P f w a fun u => rv P f w b fun v => rv P f w c fun x => k (.tuple #[u, v, x])
  | _ => False
def fin (P : Program) (rs : Array ResultVar) (Φ : Value → World → Prop) : Exit → Fr → World → Prop
  | .normal, f, w | .ret, f, w => resW P rs.toList f w fun v => Φ v w
  | _, _, _ => False
section
variable (P : Program) (Φ : Value → World → Prop) (f : Fr) (w : World)
theorem fin_ret0 : fin P #[] Φ .ret f w = Φ (.tuple #[]) w := rfl
theorem fin_end0 : fin P #[] Φ .normal f w = Φ (.tuple #[]) w := rfl
theorem fin_ret1 (a : ResultVar) : fin P #[a] Φ .ret f w = rv P f w a (fun v => Φ v w) := rfl
theorem fin_end1 (a : ResultVar) : fin P #[a] Φ .normal f w = rv P f w a (fun v => Φ v w) := rfl
theorem fin_ret2 (a b : ResultVar) : fin P #[a, b] Φ .ret f w = rv P f w a (fun u => rv P f w b fun v => Φ (.tuple #[u, v]) w) := rfl
theorem fin_ret3 (a b c : ResultVar) : fin P #[a, b, c] Φ .ret f w = rv P f w a (fun u => rv P f w b fun v => rv P f w c fun x => Φ (.tuple #[u, v, x]) w) := rfl
theorem rv_tmp (t : Nat) (k : Value → Prop) : rv P f w (.tmp t) k = k (f t) := rfl
theorem rv_cell (a : Nat) (t : TypeId) (k : Value → Prop) : rv P f w (.cell a t) k = B (sLoad P t (f a) w) fun v _ => k v := rfl
end
def resFits (n : Nat) (rs : Array ResultVar) : Bool := rs.all fun | .tmp t => decide (t < n) | .cell a _ => decide (a < n)

theorem rv_run {P : Program} {n : Nat} {f : Fr} {a : Act} {w : World} (hF : FRel n f a) {r : ResultVar} (hr : (match r with | .tmp t => decide (t < n) | .cell x _ => decide (x < n)) = true) {k : Value → Prop}
    (h : rv P f w r k) : ∃ v, k v ∧ (match r with | .tmp t => (pure (a.tmps.getD t undef) : Sem Value) | .cell x t => do loadVar t (← asAddr (a.tmps.getD x undef))).run P w = .ok v w := by
  cases r with
  | tmp t =>
    simp only [decide_eq_true_eq] at hr
    refine ⟨_, h, ?_⟩
    simp [Sem.run, pure, Array.getD_eq_getD_getElem?, hF.2.2 t hr]
  | cell x t =>
    simp only [decide_eq_true_eq] at hr
    simp only [rv, B] at h
    split at h
    · rename_i v w' hs
      obtain ⟨hl, rfl⟩ := sLoad_run hs
      refine ⟨v, h, ?_⟩
      simp only [Array.getD_eq_getD_getElem?, hF.2.2 x hr, Option.getD_some]
      cases hx : f x with
      | pointer p =>
        cases p with
        | none => simp [hx, sLoad] at hs
        | some ad => simpa [hx, Instr.loadAt, Instr.sureAddr, asAddr, run_bind, Sem.run, pure] using hl
      | _ => simp [hx, sLoad] at hs
    · exact h.elim

theorem Ret_of {P : Program} {g : Nat} {fn : Func} {c : Code} {args : Array Value} {w : World} {Φ : Value → World → Prop} (hf : P.funcs[g]? = some fn) (hb : fn.body = some c) (hn : enters P g = true)
    (hfit : codeFits fn.ntmps c = true) (hargs : decide (args.size ≤ fn.ntmps) = true) (hres : resFits fn.ntmps fn.results = true) (h : Wp P c (fin P fn.results Φ) (fr0 args.toList) w) : Ret P g args w Φ := by
  refine ⟨hn, calls_of_wp hf hb ?_⟩
  have hF : FRel fn.ntmps (fr0 args.toList) { tmps := args ++ Array.replicate (fn.ntmps - args.size) undef, defers := [] } := by
    refine ⟨rfl, by simp at hargs ⊢; omega, fun t ht => ?_⟩
    rw [fr0_eq]
    simp only [Array.getElem?_append]
    split
    · rename_i hlt; simp [hlt]
    · rename_i hge
      have : t - args.size < fn.ntmps - args.size := by omega
      simp [this, List.getD_eq_getElem?_getD]
      rw [Array.getElem?_eq_none (by omega)]
      rfl
  refine wp_mono (Wp_sound c hfit _ _ _ w hF h) ?_
  rintro e a' w' ⟨f', hF', hq⟩
  have main : resW P fn.results.toList f' w' (fun v => Φ v w') → a'.defers = [] ∧ ∃ v, (results fn a'.tmps).run P w' = .ok v w' ∧ ∃ u, Ending.returned v = .returned u ∧ Φ u w' := by
    intro hr
    refine ⟨hF'.1, ?_⟩
    unfold resW at hr
    have hall := Array.all_eq_true_iff_forall_mem.1 hres
    split at hr
    · rename_i he
      have : fn.results = #[] := by apply Array.ext'; simpa using he
      exact ⟨_, by simp [results, this, Sem.run, pure], _, rfl, hr⟩
    · rename_i x he
      have hx : fn.results = #[x] := by apply Array.ext'; simpa using he
      obtain ⟨v, hk, hv⟩ := rv_run hF' (hall x (by simp [hx])) hr
      refine ⟨v, ?_, _, rfl, hk⟩
      simp only [results, hx, Array.mapM_eq_mapM_toList, List.mapM_cons, List.mapM_nil, run_bind, bind_assoc, pure_bind, map_bind, map_pure]
      cases x <;> simp only [run_bind] at hv ⊢ <;> rw [hv] <;> simp [Sem.run, pure]
    · rename_i x y he
      have hx : fn.results = #[x, y] := by apply Array.ext'; simpa using he
      obtain ⟨v, hk, hv⟩ := rv_run hF' (hall x (by simp [hx])) hr
      obtain ⟨u, hk2, hu⟩ := rv_run hF' (hall y (by simp [hx])) hk
      refine ⟨.tuple #[v, u], ?_, _, rfl, hk2⟩
      simp only [results, hx, Array.mapM_eq_mapM_toList, List.mapM_cons, List.mapM_nil, run_bind, bind_assoc, pure_bind, map_bind, map_pure]
      cases x <;> cases y <;> simp only [run_bind] at hv hu ⊢ <;> simp only [hv, hu] <;> simp [Sem.run, pure]
    · rename_i x y z he
      have hx : fn.results = #[x, y, z] := by apply Array.ext'; simpa using he
      obtain ⟨v, hk, hv⟩ := rv_run hF' (hall x (by simp [hx])) hr
      obtain ⟨u, hk2, hu⟩ := rv_run hF' (hall y (by simp [hx])) hk
      obtain ⟨t, hk3, ht⟩ := rv_run hF' (hall z (by simp [hx])) hk2
      refine ⟨.tuple #[v, u, t], ?_, _, rfl, hk3⟩
      simp only [results, hx, Array.mapM_eq_mapM_toList, List.mapM_cons, List.mapM_nil, run_bind, bind_assoc, pure_bind, map_bind, map_pure]
      cases x <;> cases y <;> cases z <;> simp only [run_bind] at hv hu ht ⊢ <;> simp only [hv, hu, ht] <;> simp [Sem.run, pure]
    · exact hr.elim
  cases e with
  | normal => exact main hq
  | ret => exact main hq
  | _ => exact hq.elim
/-- the same, the post behind a name -/
theorem Ret_start {P : Program} {g : Nat} {fn : Func} {c : Code} {args : Array Value} {w : World} {Φ : Value → World → Prop} (hf : P.funcs[g]? = some fn) (hb : fn.body = some c) (rs : Array ResultVar) (hrs : fn.results = rs) (hn : enters P g = true)
    (hfit : codeFits fn.ntmps c = true) (hargs : decide (args.size ≤ fn.ntmps) = true) (hres : resFits fn.ntmps fn.results = true)
    (h : ∀ Ψ : Value → World → Prop, (∀ v w', Φ v w' → Ψ v w') → Wp P c (fin P rs Ψ) (fr0 args.toList) w) : Ret P g args w Φ :=
  Ret_of hf hb hn hfit hargs hres (by rw [hrs]; exact h Φ fun _ _ h => h)
end Go.W
