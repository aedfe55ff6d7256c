/-
  The operations one by one: what each comes to, as a function on values and worlds, and that the model's own run comes to the same.
-/
import Derived.Test.YtblogcihkjhgkaaW1
set_option linter.unusedSimpArgs false
set_option linter.unusedVariables false
namespace Go.W
theorem wrap_inr {k : IntKind} {n : Int} (h : inr k n) : k.wrap n = n := by
  obtain ⟨h1, h2⟩ := h
  cases k <;> simp only [IntKind.min, IntKind.max, IntKind.signed, IntKind.bits, IntKind.wrap] at * <;> simp at * <;> (try split) <;> omega

/-! ### the program's types, as total functions -/
def szv (P : Program) (t : TypeId) : Option Nat := (P.info? t).map (·.size)
def byv (P : Program) (t : TypeId) : Option Nat := (P.info? t).map (·.bytes)
def zrv (P : Program) (t : TypeId) : Option Value := (P.info? t).bind (·.zero)
def agb (P : Program) (t : TypeId) : Option Bool := (P.underlying t).map fun | .struct _ | .array _ _ => true | _ => false
/-- the cells before field k, its size, whether it is an aggregate -/
def fld (P : Program) (s : TypeId) (k : Nat) : Option (Nat × Nat × Bool) :=
  match P.underlying s with
  | some (.struct fs) => match fs[k]? with
    | some f => match szv P f.type, agb P f.type with
      | some n, some b => if n = 0 then none else some (f.offset, n, b)
      | _, _ => none
    | none => none
  | _ => none
/-- a slice type's element type -/
def elt (P : Program) (t : TypeId) : Option TypeId := match P.underlying t with | some (.slice e) => some e | _ => none

theorem run_bind {α β : Type} (P : Program) (s : Sem α) (k : α → Sem β) (w : World) :
    (s >>= k).run P w = match s.run P w with | .ok a w' => (k a).run P w' | .halt h w' => .halt h w' := Sem.run_bind _ _ _ _

theorem run_underlying {P : Program} {t : TypeId} {d : TypeDesc} (h : P.underlying t = some d) (w : World) : (underlying t).run P w = .ok d w := by
  simp [underlying, program, Sem.run_bind, Sem.run, h, pure]
theorem run_typeInfo {P : Program} {t : TypeId} {i : TypeInfo} (h : P.info? t = some i) (w : World) : (typeInfo t).run P w = .ok i w := by
  simp [typeInfo, program, Sem.run_bind, Sem.run, h, pure]
theorem run_sizeOf {P : Program} {t : TypeId} {n : Nat} (h : szv P t = some n) (w : World) : (sizeOf t).run P w = .ok n w := by
  obtain ⟨i, hi, rfl⟩ := Option.map_eq_some_iff.1 h
  simp [sizeOf, Sem.run_bind, run_typeInfo hi, Sem.run, pure]
theorem run_zeroValue {P : Program} {t : TypeId} {v : Value} (h : zrv P t = some v) (w : World) : (zeroValue t).run P w = .ok v w := by
  obtain ⟨i, hi, hz⟩ := Option.bind_eq_some_iff.1 h
  simp [zeroValue, Sem.run_bind, run_typeInfo hi, hz, Sem.run, pure]
theorem run_isAgg {P : Program} {t : TypeId} {b : Bool} (h : agb P t = some b) (w : World) : (isAgg t).run P w = .ok b w := by
  obtain ⟨d, hd, rfl⟩ := Option.map_eq_some_iff.1 h
  simp only [isAgg, run_bind, run_underlying hd]
  cases d <;> rfl

/-! ### values -/
def sPick (c a b : Value) (w : World) : Option (Value × World) := match c with | .bool t => some (if t then a else b, w) | _ => none
def sNot (x : Value) (w : World) : Option (Value × World) := match x with | .bool t => some (.bool !t, w) | _ => none
def sExtract (x : Value) (i : Nat) (w : World) : Option (Value × World) := match x with | .tuple vs => (vs[i]?).map (·, w) | _ => none
/-- '&' -/
def andI (k : IntKind) (a b : Int) : Int := k.wrap (BitVec.ofInt k.bits a &&& BitVec.ofInt k.bits b).toNat
def sInt (op : BinOp) (x y : Value) (w : World) : Option (Value × World) :=
  match x, y with
  | .int k a, .int k' b =>
    if k = k' then
      match op with
      | .add => if inr k (a + b) then some (.int k (a + b), w) else none
      | .sub => if inr k (a - b) then some (.int k (a - b), w) else none
      | .mul => if inr k (a * b) then some (.int k (a * b), w) else none
      | .quo => if 0 ≤ a ∧ 0 < b ∧ inr k (a / b) then some (.int k (a / b), w) else none
      | .rem => if 0 ≤ a ∧ 0 < b then some (.int k (a % b), w) else none
      | .and => some (.int k (andI k a b), w)
      | .eql => some (.bool (decide (a = b)), w)
      | .neq => some (.bool (decide (a ≠ b)), w)
      | .lss => some (.bool (decide (a < b)), w)
      | .leq => some (.bool (decide (a ≤ b)), w)
      | .gtr => some (.bool (decide (b < a)), w)
      | .geq => some (.bool (decide (b ≤ a)), w)
      | _ => none
    else none
  | _, _ => none

theorem beq_dec (a b : Int) : (a == b) = decide (a = b) := by by_cases h : a = b <;> simp [h]

theorem run_eqGuard_int (P : Program) (op : BinOp) (t : TypeId) (x y : Operand) (k k' : IntKind) (a b : Int) (w : World) :
    (eqGuard op t x y (.int k a) (.int k' b)).run P w = .ok () w := by
  unfold eqGuard
  cases op <;> simp [Sem.run, pure]

theorem sInt_sound {P : Program} {op : BinOp} {t t' : TypeId} {x y : Operand} {ty : TypeId} {f : Fr} {w : World} {K : Value → World → Prop}
    (h : B (sInt op (ev f x) (ev f y) w) K) : raw P (.binOp op t x y t') ty f w K := by
  unfold raw
  simp only [execOp, run_bind]
  generalize ev f x = vx at *
  generalize ev f y = vy at *
  cases vx <;> cases vy <;> simp only [sInt, B] at h
  rename_i k a k' b
  rw [run_eqGuard_int]
  by_cases hk : k = k'
  · subst hk
    simp only [if_true] at h
    cases op
    case add =>
      by_cases hi : inr k (a + b)
      · simpa [binOp, Op.intArith, Sem.run, pure, upon, wrap_inr hi, hi] using h
      · simp [hi] at h
    case sub =>
      by_cases hi : inr k (a - b)
      · simpa [binOp, Op.intArith, Sem.run, pure, upon, wrap_inr hi, hi] using h
      · simp [hi] at h
    case mul =>
      by_cases hi : inr k (a * b)
      · simpa [binOp, Op.intArith, Sem.run, pure, upon, wrap_inr hi, hi] using h
      · simp [hi] at h
    case quo =>
      by_cases hi : 0 ≤ a ∧ 0 < b ∧ inr k (a / b)
      · have e : a.tdiv b = a / b := Int.tdiv_eq_ediv_of_nonneg hi.1
        have hb : b ≠ 0 := by omega
        simpa [binOp, Op.intDiv, Sem.run, pure, upon, wrap_inr hi.2.2, hi, e, hb] using h
      · simp [hi] at h
    case rem =>
      by_cases hi : 0 ≤ a ∧ 0 < b
      · have e : a.tmod b = a % b := Int.tmod_eq_emod_of_nonneg hi.1
        have hb : b ≠ 0 := by omega
        simpa [binOp, Op.intDiv, Sem.run, pure, upon, hi, e, hb] using h
      · simp [hi] at h
    all_goals first
      | (exact h.elim)
      | (simpa [binOp, Op.intCmp, Sem.run, pure, upon, beq_dec, bne] using h)
      | (simpa [binOp, Op.intBits, andI, Sem.run, pure, upon] using h)
  · simp [hk] at h
end Go.W
