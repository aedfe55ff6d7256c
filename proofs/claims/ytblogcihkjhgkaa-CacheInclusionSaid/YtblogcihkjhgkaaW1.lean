/-
  A small program logic over the model's 'Code.wp': frames are functions from slots to values, and a straight run of operations is a chain of rewritings. Generic in the program.
-/
import Derived.WalkKit
namespace Go.W
abbrev Fr := Nat → Value
def upd (f : Fr) (d : Nat) (v : Value) : Fr := fun t => if t = d then v else f t
def updO (f : Fr) : Option Nat → Value → Fr
  | some d, v => upd f d v
  | none, _ => f
def ev (f : Fr) : Operand → Value
  | .tmp t => f t
  | .const v => v
  | .global g => .pointer (some ⟨g, 0, none⟩)
  | .func k => .func (.func k) #[] #[]
theorem ev_tmp (f : Fr) (t : Nat) : ev f (.tmp t) = f t := rfl
theorem ev_const (f : Fr) (v : Value) : ev f (.const v) = v := rfl
theorem ev_func (f : Fr) (k : Nat) : ev f (.func k) = .func (.func k) #[] #[] := rfl
theorem upd_apply (f : Fr) (d : Nat) (v : Value) (t : Nat) : upd f d v t = if t = d then v else f t := rfl
theorem upd_same (f : Fr) (d : Nat) (v : Value) : upd f d v d = v := by simp [upd]
theorem upd_ne (f : Fr) {d t : Nat} (v : Value) (h : t ≠ d) : upd f d v t = f t := by simp [upd, h]
theorem updO_some (f : Fr) (d : Nat) (v : Value) : updO f (some d) v = upd f d v := rfl
theorem updO_none (f : Fr) (v : Value) : updO f none v = f := rfl

def opdFits (n : Nat) : Operand → Bool
  | .tmp t => decide (t < n)
  | _ => true
def operFits (n : Nat) (o : Oper) : Bool :=
  (match o.op with | .select .. => false | _ => true) && o.op.operands.all (opdFits n) && (match o.dst with | some d => decide (d < n) | none => true)
def codeFits (n : Nat) : Code → Bool
  | .skip | .exit _ | .ret => true
  | .region _ ops _ => ops.all (operFits n)
  | .seq a b => codeFits n a && codeFits n b
  | .cond c a b => opdFits n c && codeFits n a && codeFits n b
  | .block _ b => codeFits n b
  | .loop b => codeFits n b
  | _ => false

def FRel (n : Nat) (f : Fr) (a : Act) : Prop := a.defers = [] ∧ a.tmps.size = n ∧ ∀ t, t < n → a.tmps[t]? = some (f t)

theorem FRel.eval {n : Nat} {f : Fr} {a : Act} (h : FRel n f a) {x : Operand} (hx : opdFits n x = true) : a.eval x = ev f x := by
  obtain ⟨_, hs, ht⟩ := h
  cases x with
  | tmp t =>
    simp only [opdFits, decide_eq_true_eq] at hx
    have := ht t hx
    simp [Act.eval, ev, Array.getD_eq_getD_getElem?, this]
  | const v => rfl
  | global g => rfl
  | func k => rfl

theorem FRel.put {n : Nat} {f : Fr} {a : Act} (h : FRel n f a) {d : Option Nat} (hd : ∀ t, d = some t → t < n) (v : Value) : FRel n (updO f d v) (a.put d v) := by
  obtain ⟨h0, hs, ht⟩ := h
  cases d with
  | none => exact ⟨h0, hs, ht⟩
  | some d =>
    refine ⟨h0, by simp [Act.put, hs], fun t hlt => ?_⟩
    simp only [Act.put, updO, upd]
    by_cases e : t = d
    · subst e; simp [hs, hlt]
    · rw [Array.getElem?_setIfInBounds_ne (Ne.symm e), ht t hlt]; simp [e]

theorem operFits_spec {n : Nat} {o : Oper} (h : operFits n o = true) :
    (∀ cs b, o.op ≠ .select cs b) ∧ (∀ x ∈ o.op.operands, opdFits n x = true) ∧ (∀ t, o.dst = some t → t < n) := by
  simp only [operFits, Bool.and_eq_true] at h
  obtain ⟨⟨h1, h2⟩, h3⟩ := h
  refine ⟨fun cs b e => by simp [e] at h1, fun x hx => Array.all_eq_true_iff_forall_mem.1 h2 x hx, fun t e => by simpa [e] using h3⟩

/-- what an operation's result means for the continuation -/
def upon (P : Program) (K : Value → World → Prop) : Result Next → Prop
  | .ok (.value v) w' => K v w'
  | .ok .skip w' => K undef w'
  | .ok (.enter g args) w' => Calls P g args w' fun e w'' => ∃ v, e = .returned v ∧ K v w''
  | _ => False
def raw (P : Program) (op : Op) (ty : TypeId) (f : Fr) (w : World) (K : Value → World → Prop) : Prop :=
  upon P K ((execOp (ev f) ⟨none, op, ty, "", #[], none⟩).run P w)

theorem execOp_only (ρ : Operand → Value) (o : Oper) : execOp ρ o = execOp ρ ⟨none, o.op, o.type, "", #[], none⟩ := by
  obtain ⟨d, op, ty, pos, af, g⟩ := o
  cases op <;> rfl

theorem raw_sound {P : Program} {n : Nat} {f : Fr} {a : Act} {o : Oper} {w : World} {K : Value → World → Prop} {next : Act → World → Prop} {Q : Exit → Act → World → Prop}
    (hF : FRel n f a) (hfit : operFits n o = true) (h : raw P o.op o.type f w K) (hK : ∀ v w', K v w' → next (a.put o.dst v) w') : o.wp P a w next Q := by
  obtain ⟨hs, hx, _⟩ := operFits_spec hfit
  have he : execOp a.eval o = execOp (ev f) o := execOp_congr o hs fun x hm => hF.eval (hx x hm)
  unfold Oper.wp
  rw [he, execOp_only]
  unfold raw at h
  generalize (execOp (ev f) ⟨none, o.op, o.type, "", #[], none⟩).run P w = r at h
  cases r with
  | halt x w' => cases x <;> simp [upon] at h
  | ok nx w' =>
    cases nx with
    | value v => exact hK _ _ h
    | skip => exact hK _ _ h
    | enter g args =>
      refine Calls.mono h ?_
      rintro e w'' ⟨v, rfl, hk⟩
      exact hK _ _ hk
    | _ => simp [upon] at h

/-! ## Deterministic operations -/
/-- bind, its continuation frozen for simp -/
def B (r : Option (Value × World)) (K : Value → World → Prop) : Prop :=
  match r with
  | some (v, w) => K v w
  | none => False
theorem B_some (v : Value) (w : World) (K : Value → World → Prop) : B (some (v, w)) K = K v w := rfl
theorem B_ite (p : Prop) [Decidable p] (r : Option (Value × World)) (K : Value → World → Prop) : B (if p then r else none) K = (p ∧ B r K) := by
  by_cases h : p <;> simp [h, B]

def inr (k : IntKind) (n : Int) : Prop := k.min ≤ n ∧ n ≤ k.max
instance (k : IntKind) (n : Int) : Decidable (inr k n) := by unfold inr; exact inferInstance
theorem inr_i64 (n : Int) : inr .i64 n = (-9223372036854775808 ≤ n ∧ n ≤ 9223372036854775807) := by
  simp [inr, IntKind.min, IntKind.max, IntKind.signed, IntKind.bits]

end Go.W
