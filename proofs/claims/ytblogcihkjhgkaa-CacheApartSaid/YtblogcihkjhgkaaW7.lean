/-
  The chain of operations X, code Wp, calls Ret; that they are sound for the model.
-/
import Derived.Test.YtblogcihkjhgkaaW6
set_option linter.unusedSimpArgs false
set_option linter.unusedVariables false
namespace Go.W
def enters (P : Program) (g : Nat) : Bool := match P.funcs[g]? with | some fn => fn.body.isSome && !(fn.name == "runtime.NumGoroutine") | none => false
/-- the call returns, and what it returns and leaves meets Φ -/
def Ret (P : Program) (g : Nat) (args : Array Value) (w : World) (Φ : Value → World → Prop) : Prop :=
  enters P g = true ∧ Calls P g args w fun e w' => ∃ v, e = .returned v ∧ Φ v w'
theorem Ret.mono {P : Program} {g : Nat} {args : Array Value} {w : World} {Φ Ψ : Value → World → Prop} (h : Ret P g args w Φ) (hm : ∀ v w', Φ v w' → Ψ v w') : Ret P g args w Ψ :=
  ⟨h.1, h.2.mono fun _ _ ⟨v, e, hv⟩ => ⟨v, e, hm _ _ hv⟩⟩

def callW (P : Program) (c : Call) (ty : TypeId) (f : Fr) (w : World) (K : Value → World → Prop) : Prop :=
  match c with
  | ⟨.builtin b, as, ts⟩ => match b, as.toList, ts.toList with
    | .len, [x], [t] => B (sLen P t (ev f x) w) K
    | .max, [x, y], _ => B (sMax (ev f x) (ev f y) w) K
    | .min, [x, y], _ => B (sMin (ev f x) (ev f y) w) K
    | _, _, _ => raw P (.call c) ty f w K
  | ⟨.value (.func g), as, _⟩ => Ret P g (as.map (ev f)) w K
  | c => raw P (.call c) ty f w K
def opW (P : Program) (op : Op) (ty : TypeId) (f : Fr) (w : World) (K : Value → World → Prop) : Prop :=
  match op with
  | .move x => K (ev f x) w
  | .assign x => K (ev f x) w
  | .pick c a b => B (sPick (ev f c) (ev f a) (ev f b) w) K
  | .alloc t => B (sAlloc P t w) K
  | .box t x => B (sBox t (ev f x) w) K
  | .build t ps => B (sBuild P t (ps.toList.map fun p => (p.1, ev f p.2)) w) K
  | .buildSlice t n ps => sBuildSliceOk P t = true ∧ B (sBuildSlice P t n (ps.toList.map fun p => (p.1, ev f p.2)) w) K
  | .load t x => B (sLoad P t (ev f x) w) K
  | .store t x v => B (sStore P t (ev f x) (ev f v) w) K
  | .nilCheck x => B (sNil (ev f x) w) K
  | .binOp o t x y _ => B (sBin P o t (ev f x) (ev f y) w) K
  | .convert s t x => B (sConv P s t (ev f x) w) K
  | .fieldAddr s x k => B (sFieldAddr P s (ev f x) k w) K
  | .field s x k => B (sField P s (ev f x) k w) K
  | .indexAddr t x i => B (sIndexAddr P t (ev f x) (ev f i) w) K
  | .extract x i => B (sExtract (ev f x) i w) K
  | .unOp .not _ x => B (sNot (ev f x) w) K
  | .makeMap _ none => B (sMakeMap w) K
  | .makeSlice t l c => B (sMakeSlice P t (ev f l) (ev f c) w) K
  | .slice t x lo hi none => B (sSlice P t (ev f x) (lo.map (ev f)) (hi.map (ev f)) w) K
  | .call c => callW P c ty f w K
  | op => raw P op ty f w K

theorem run_callFunc {P : Program} {g : Nat} (h : enters P g = true) (args : Array Value) (w : World) : (callFunc g args).run P w = .ok (.enter g args) w := by
  unfold enters at h
  split at h
  · rename_i fn hf
    simp only [Bool.and_eq_true, Bool.not_eq_true'] at h
    have hb : fn.body.isNone = false := by cases hc : fn.body <;> simp_all
    simp only [callFunc, program, run_bind, Sem.run, hf, h.2, hb, pure, Bool.false_eq_true, if_false]
  · simp at h
theorem callW_sound {P : Program} {c : Call} {ty : TypeId} {f : Fr} {w : World} {K : Value → World → Prop} (h : callW P c ty f w K) : raw P (.call c) ty f w K := by
  unfold callW at h
  split at h
  · rename_i b as ts
    split at h
    · rename_i x t h1 h2
      obtain rfl : as = #[x] := by apply Array.ext'; simpa using h1
      obtain rfl : ts = #[t] := by apply Array.ext'; simpa using h2
      exact sLen_sound h
    · rename_i x y h1
      obtain rfl : as = #[x, y] := by apply Array.ext'; simpa using h1
      exact sMax_sound h
    · rename_i x y h1
      obtain rfl : as = #[x, y] := by apply Array.ext'; simpa using h1
      exact sMin_sound h
    · exact h
  · rename_i g as ts
    obtain ⟨h1, h2⟩ := h
    have e : (invoke (.fn (.func g) #[]) (as.map (ev f))).run P w = .ok (.enter g (as.map (ev f))) w := by
      simp [invoke, run_callFunc h1]
    simp only [raw, execOp, resolve, ev, Deferred.ofValue, run_bind, Sem.run, pure, Array.empty_append, e, upon]
    exact h2
  · exact h
theorem opW_sound {P : Program} {op : Op} {ty : TypeId} {f : Fr} {w : World} {K : Value → World → Prop} (h : opW P op ty f w K) : raw P op ty f w K := by
  unfold opW at h
  split at h
  · simpa [raw, execOp, Sem.run, pure, upon] using h
  · simpa [raw, execOp, Sem.run, pure, upon] using h
  · exact sPick_sound h
  · exact sAlloc_sound h
  · exact sBox_sound h
  · exact sBuild_sound h
  · exact sBuildSlice_sound h.1 h.2
  · exact sLoad_sound h
  · exact sStore_sound h
  · exact sNil_sound h
  · exact sBin_sound h
  · exact sConv_sound h
  · exact sFieldAddr_sound h
  · exact sField_sound h
  · exact sIndexAddr_sound h
  · exact sExtract_sound h
  · exact sNot_sound h
  · exact sMakeMap_sound h
  · exact sMakeSlice_sound h
  · exact sSlice_sound h
  · exact callW_sound h
  · exact h
theorem upon_mono {P : Program} {K K' : Value → World → Prop} (hm : ∀ v w, K v w → K' v w) {r : Result Next} (h : upon P K r) : upon P K' r := by
  cases r with
  | halt x w' => cases x <;> simp [upon] at h
  | ok nx w' =>
    cases nx with
    | value v => exact hm _ _ h
    | skip => exact hm _ _ h
    | enter g args => exact Calls.mono h fun e w'' ⟨v, he, hk⟩ => ⟨v, he, hm _ _ hk⟩
    | _ => simp [upon] at h
theorem raw_mono {P : Program} {op : Op} {ty : TypeId} {f : Fr} {w : World} {K K' : Value → World → Prop} (hm : ∀ v w, K v w → K' v w) (h : raw P op ty f w K) : raw P op ty f w K' := upon_mono hm h

/-! ### guards -/
/-- the value that a guard looks at -/
def gv (f : Fr) : List Oper → Nat → Value
  | [], _ => undef
  | o :: _, 0 => match o.dst with | some t => f t | none => undef
  | _ :: l, n + 1 => gv f l n
def G (v : Value) (want : Bool) (A B : Prop) : Prop :=
  match v with
  | .bool b => (b = want → A) ∧ (b ≠ want → B)
  | _ => B
theorem G_tt (A B : Prop) : G (.bool true) true A B = A := by simp [G]
theorem G_tf (A B : Prop) : G (.bool true) false A B = B := by simp [G]
theorem G_ft (A B : Prop) : G (.bool false) true A B = B := by simp [G]
theorem G_ff (A B : Prop) : G (.bool false) false A B = A := by simp [G]
theorem G_intro {b want : Bool} {A B : Prop} (h1 : b = want → A) (h2 : b = !want → B) : G (.bool b) want A B := by
  refine ⟨h1, fun h => h2 ?_⟩
  cases b <;> cases want <;> simp_all

/-- a chain of operations, in the order of the text; 'all' is the whole region, at which the guards look -/
def X (P : Program) (all : List Oper) : List Oper → (Fr → World → Prop) → Fr → World → Prop
  | [], K, f, w => K f w
  | o :: rest, K, f, w =>
    match o.guard with
    | none => opW P o.op o.type f w fun v w' => X P all rest K (updO f o.dst v) w'
    | some (j, want) => G (gv f all j) want (opW P o.op o.type f w fun v w' => X P all rest K (updO f o.dst v) w') (X P all rest K (updO f o.dst undef) w)
theorem X_nil (P : Program) (all : List Oper) (K : Fr → World → Prop) (f : Fr) (w : World) : X P all [] K f w = K f w := rfl
theorem X_op0 (P : Program) (all rest : List Oper) (d : Option Nat) (op : Op) (ty : TypeId) (pos : String) (af : Array Edge) (K : Fr → World → Prop) (f : Fr) (w : World) :
    X P all (⟨d, op, ty, pos, af, none⟩ :: rest) K f w = opW P op ty f w fun v w' => X P all rest K (updO f d v) w' := rfl
theorem X_gd0 (P : Program) (all rest : List Oper) (d : Option Nat) (op : Op) (ty : TypeId) (pos : String) (af : Array Edge) (j : Nat) (want : Bool) (K : Fr → World → Prop) (f : Fr) (w : World) :
    X P all (⟨d, op, ty, pos, af, some (j, want)⟩ :: rest) K f w = G (gv f all j) want (opW P op ty f w fun v w' => X P all rest K (updO f d v) w') (X P all rest K (updO f d undef) w) := rfl

theorem gv_spec {n : Nat} {f : Fr} {a : Act} (hF : FRel n f a) : ∀ (all : List Oper) (j : Nat), (∀ o ∈ all, operFits n o = true) → ∀ b, (yielded all.toArray a.tmps j = some b ↔ gv f all j = .bool b) := by
  intro all
  induction all with
  | nil => intro j _ b; simp [yielded, gv, undef]
  | cons o l ih =>
    intro j hall b
    cases j with
    | zero =>
      simp only [yielded, gv, List.getElem?_toArray, List.getElem?_cons_zero, Option.bind_some]
      cases hd : o.dst with
      | none => simp [undef]
      | some t =>
        have ht := (operFits_spec (hall o (by simp))).2.2 t hd
        simp only [Option.bind_some, hF.2.2 t ht]
        split
        · rename_i b' he; simp only [Option.some.injEq] at he; simp [he]
        · rename_i hne
          constructor
          · intro h; simp at h
          · intro h; exact (hne b (by rw [h])).elim
    | succ j =>
      have := ih j (fun o ho => hall o (by simp [ho])) b
      simpa [yielded, gv] using this

theorem X_sound {P : Program} {n : Nat} {all : List Oper} {Q : Exit → Act → World → Prop} {K : Fr → World → Prop} (hall : ∀ o ∈ all, operFits n o = true)
    (hQ : ∀ f a w, FRel n f a → K f w → Q .normal a w) : ∀ (l : List Oper), (∀ o ∈ l, operFits n o = true) → ∀ (f : Fr) (a : Act) (w : World), FRel n f a → X P all l K f w → wpList P all.toArray Q l a w := by
  intro l
  induction l with
  | nil => intro _ f a w hF h; exact hQ f a w hF h
  | cons o rest ih =>
    intro hl f a w hF h
    have ho := hl o (by simp)
    have hrest := ih (fun o h => hl o (by simp [h]))
    obtain ⟨_, _, hd⟩ := operFits_spec ho
    have main : opW P o.op o.type f w (fun v w' => X P all rest K (updO f o.dst v) w') → ∀ (Kc : Act → World → Prop), (∀ a w, wpList P all.toArray Q rest a w → Kc a w) → o.wp P a w Kc Q := by
      intro hop Kc hKc
      exact raw_sound hF ho (opW_sound hop) fun v w' hx => hKc _ _ (hrest _ _ _ (hF.put hd v) hx)
    cases hg : o.guard with
    | none =>
      simp only [X, hg] at h
      exact wpList_plain hg fun Kc hKc => main h Kc hKc
    | some gw =>
      obtain ⟨j, want⟩ := gw
      simp only [X, hg] at h
      refine wpList_step fun Kc hKc => ?_
      have hy := gv_spec hF all j hall
      unfold G at h
      split at h
      · rename_i b hb
        have hyb : yielded all.toArray a.tmps j = some b := (hy b).2 hb
        by_cases hbw : b = want
        · have : Region.wanted o (yielded all.toArray a.tmps) = true := by simp [Region.wanted, hg, hyb, hbw]
          rw [if_pos this]
          exact main (h.1 hbw) Kc hKc
        · have : ¬ Region.wanted o (yielded all.toArray a.tmps) = true := by simp [Region.wanted, hg, hyb, hbw]
          rw [if_neg this]
          exact hKc _ _ (hrest _ _ _ (hF.put hd undef) (h.2 hbw))
      · rename_i hne
        have : ¬ Region.wanted o (yielded all.toArray a.tmps) = true := by
          simp only [Region.wanted, hg, beq_iff_eq]
          intro e
          exact hne _ ((hy want).1 e)
        rw [if_neg this]
        exact hKc _ _ (hrest _ _ _ (hF.put hd undef) h)
end Go.W
