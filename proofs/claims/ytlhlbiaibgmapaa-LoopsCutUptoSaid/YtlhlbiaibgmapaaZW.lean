/-
  A small program logic over the model's 'Code.wp': frames are functions from slots to values, and a straight run of operations is a chain of rewritings. Generic in the program.
-/
import Derived.WalkKit
import Derived.ChangeKeysEq
import Derived.ProofKit
import Derived.Deep.Quiet
namespace Go.W
abbrev Fr := Nat → Value
def upd (f : Fr) (d : Nat) (v : Value) : Fr := fun t => if t = d then v else f t
def updO (f : Fr) : Option Nat → Value → Fr
  | some d, v => upd f d v
  | none, _ => f
def ev (f : Fr) : Operand → Value
  | .tmp t => f t
  | .const v => v
  | .global g => .pointer (some ⟨g, 0, none⟩)
  | .func k => .func (.func k) #[] #[]
theorem ev_tmp (f : Fr) (t : Nat) : ev f (.tmp t) = f t := rfl
theorem ev_const (f : Fr) (v : Value) : ev f (.const v) = v := rfl
theorem ev_func (f : Fr) (k : Nat) : ev f (.func k) = .func (.func k) #[] #[] := rfl
theorem upd_apply (f : Fr) (d : Nat) (v : Value) (t : Nat) : upd f d v t = if t = d then v else f t := rfl
theorem upd_same (f : Fr) (d : Nat) (v : Value) : upd f d v d = v := by simp [upd]
theorem upd_ne (f : Fr) {d t : Nat} (v : Value) (h : t ≠ d) : upd f d v t = f t := by simp [upd, h]
theorem updO_some (f : Fr) (d : Nat) (v : Value) : updO f (some d) v = upd f d v := rfl
theorem updO_none (f : Fr) (v : Value) : updO f none v = f := rfl

def opdFits (n : Nat) : Operand → Bool
  | .tmp t => decide (t < n)
  | _ => true
def operFits (n : Nat) (o : Oper) : Bool :=
  (match o.op with | .select .. => false | _ => true) && o.op.operands.all (opdFits n) && (match o.dst with | some d => decide (d < n) | none => true)
def codeFits (n : Nat) : Code → Bool
  | .skip | .exit _ | .ret => true
  | .region _ ops _ => ops.all (operFits n)
  | .seq a b => codeFits n a && codeFits n b
  | .cond c a b => opdFits n c && codeFits n a && codeFits n b
  | .block _ b => codeFits n b
  | .loop b => codeFits n b
  | _ => false

def FRel (n : Nat) (f : Fr) (a : Act) : Prop := a.defers = [] ∧ a.tmps.size = n ∧ ∀ t, t < n → a.tmps[t]? = some (f t)

theorem FRel.eval {n : Nat} {f : Fr} {a : Act} (h : FRel n f a) {x : Operand} (hx : opdFits n x = true) : a.eval x = ev f x := by
  obtain ⟨_, hs, ht⟩ := h
  cases x with
  | tmp t =>
    simp only [opdFits, decide_eq_true_eq] at hx
    have := ht t hx
    simp [Act.eval, ev, Array.getD_eq_getD_getElem?, this]
  | const v => rfl
  | global g => rfl
  | func k => rfl

theorem FRel.put {n : Nat} {f : Fr} {a : Act} (h : FRel n f a) {d : Option Nat} (hd : ∀ t, d = some t → t < n) (v : Value) : FRel n (updO f d v) (a.put d v) := by
  obtain ⟨h0, hs, ht⟩ := h
  cases d with
  | none => exact ⟨h0, hs, ht⟩
  | some d =>
    refine ⟨h0, by simp [Act.put, hs], fun t hlt => ?_⟩
    simp only [Act.put, updO, upd]
    by_cases e : t = d
    · subst e; simp [hs, hlt]
    · rw [Array.getElem?_setIfInBounds_ne (Ne.symm e), ht t hlt]; simp [e]

theorem operFits_spec {n : Nat} {o : Oper} (h : operFits n o = true) :
    (∀ cs b, o.op ≠ .select cs b) ∧ (∀ x ∈ o.op.operands, opdFits n x = true) ∧ (∀ t, o.dst = some t → t < n) := by
  simp only [operFits, Bool.and_eq_true] at h
  obtain ⟨⟨h1, h2⟩, h3⟩ := h
  refine ⟨fun cs b e => by simp [e] at h1, fun x hx => Array.all_eq_true_iff_forall_mem.1 h2 x hx, fun t e => by simpa [e] using h3⟩

/-- what an operation's result means for the continuation -/
def upon (P : Program) (K : Value → World → Prop) : Result Next → Prop
  | .ok (.value v) w' => K v w'
  | .ok .skip w' => K undef w'
  | .ok (.enter g args) w' => Calls P g args w' fun e w'' => ∃ v, e = .returned v ∧ K v w''
  | _ => False
def raw (P : Program) (op : Op) (ty : TypeId) (f : Fr) (w : World) (K : Value → World → Prop) : Prop :=
  upon P K ((execOp (ev f) ⟨none, op, ty, "", #[], none⟩).run P w)

theorem execOp_only (ρ : Operand → Value) (o : Oper) : execOp ρ o = execOp ρ ⟨none, o.op, o.type, "", #[], none⟩ := by
  obtain ⟨d, op, ty, pos, af, g⟩ := o
  cases op <;> rfl

theorem raw_sound {P : Program} {n : Nat} {f : Fr} {a : Act} {o : Oper} {w : World} {K : Value → World → Prop} {next : Act → World → Prop} {Q : Exit → Act → World → Prop}
    (hF : FRel n f a) (hfit : operFits n o = true) (h : raw P o.op o.type f w K) (hK : ∀ v w', K v w' → next (a.put o.dst v) w') : o.wp P a w next Q := by
  obtain ⟨hs, hx, _⟩ := operFits_spec hfit
  have he : execOp a.eval o = execOp (ev f) o := execOp_congr o hs fun x hm => hF.eval (hx x hm)
  unfold Oper.wp
  rw [he, execOp_only]
  unfold raw at h
  generalize (execOp (ev f) ⟨none, o.op, o.type, "", #[], none⟩).run P w = r at h
  cases r with
  | halt x w' => cases x <;> simp [upon] at h
  | ok nx w' =>
    cases nx with
    | value v => exact hK _ _ h
    | skip => exact hK _ _ h
    | enter g args =>
      refine Calls.mono h ?_
      rintro e w'' ⟨v, rfl, hk⟩
      exact hK _ _ hk
    | _ => simp [upon] at h

/-! ## Deterministic operations -/
/-- bind, its continuation frozen for simp -/
def B (r : Option (Value × World)) (K : Value → World → Prop) : Prop :=
  match r with
  | some (v, w) => K v w
  | none => False
theorem B_some (v : Value) (w : World) (K : Value → World → Prop) : B (some (v, w)) K = K v w := rfl
theorem B_ite (p : Prop) [Decidable p] (r : Option (Value × World)) (K : Value → World → Prop) : B (if p then r else none) K = (p ∧ B r K) := by
  by_cases h : p <;> simp [h, B]

def inr (k : IntKind) (n : Int) : Prop := k.min ≤ n ∧ n ≤ k.max
instance (k : IntKind) (n : Int) : Decidable (inr k n) := by unfold inr; exact inferInstance
theorem inr_i64 (n : Int) : inr .i64 n = (-9223372036854775808 ≤ n ∧ n ≤ 9223372036854775807) := by
  simp [inr, IntKind.min, IntKind.max, IntKind.signed, IntKind.bits]

end Go.W
set_option linter.unusedSimpArgs false
set_option linter.unusedVariables false
namespace Go.W
theorem wrap_inr {k : IntKind} {n : Int} (h : inr k n) : k.wrap n = n := by
  obtain ⟨h1, h2⟩ := h
  cases k <;> simp only [IntKind.min, IntKind.max, IntKind.signed, IntKind.bits, IntKind.wrap] at * <;> simp at * <;> (try split) <;> omega

/-! ### the program's types, as total functions -/
def szv (P : Program) (t : TypeId) : Option Nat := (P.info? t).map (·.size)
def byv (P : Program) (t : TypeId) : Option Nat := (P.info? t).map (·.bytes)
def zrv (P : Program) (t : TypeId) : Option Value := (P.info? t).bind (·.zero)
def agb (P : Program) (t : TypeId) : Option Bool := (P.underlying t).map fun | .struct _ | .array _ _ => true | _ => false
/-- the cells before field k, its size, whether it is an aggregate -/
def fld (P : Program) (s : TypeId) (k : Nat) : Option (Nat × Nat × Bool) :=
  match P.underlying s with
  | some (.struct fs) => match fs[k]? with
    | some f => match szv P f.type, agb P f.type with
      | some n, some b => if n = 0 then none else some (f.offset, n, b)
      | _, _ => none
    | none => none
  | _ => none
/-- a slice type's element type -/
def elt (P : Program) (t : TypeId) : Option TypeId := match P.underlying t with | some (.slice e) => some e | _ => none

theorem run_bind {α β : Type} (P : Program) (s : Sem α) (k : α → Sem β) (w : World) :
    (s >>= k).run P w = match s.run P w with | .ok a w' => (k a).run P w' | .halt h w' => .halt h w' := Sem.run_bind _ _ _ _

theorem run_underlying {P : Program} {t : TypeId} {d : TypeDesc} (h : P.underlying t = some d) (w : World) : (underlying t).run P w = .ok d w := by
  simp [underlying, program, Sem.run_bind, Sem.run, h, pure]
theorem run_typeInfo {P : Program} {t : TypeId} {i : TypeInfo} (h : P.info? t = some i) (w : World) : (typeInfo t).run P w = .ok i w := by
  simp [typeInfo, program, Sem.run_bind, Sem.run, h, pure]
theorem run_sizeOf {P : Program} {t : TypeId} {n : Nat} (h : szv P t = some n) (w : World) : (sizeOf t).run P w = .ok n w := by
  obtain ⟨i, hi, rfl⟩ := Option.map_eq_some_iff.1 h
  simp [sizeOf, Sem.run_bind, run_typeInfo hi, Sem.run, pure]
theorem run_zeroValue {P : Program} {t : TypeId} {v : Value} (h : zrv P t = some v) (w : World) : (zeroValue t).run P w = .ok v w := by
  obtain ⟨i, hi, hz⟩ := Option.bind_eq_some_iff.1 h
  simp [zeroValue, Sem.run_bind, run_typeInfo hi, hz, Sem.run, pure]
theorem run_isAgg {P : Program} {t : TypeId} {b : Bool} (h : agb P t = some b) (w : World) : (isAgg t).run P w = .ok b w := by
  obtain ⟨d, hd, rfl⟩ := Option.map_eq_some_iff.1 h
  simp only [isAgg, run_bind, run_underlying hd]
  cases d <;> rfl

/-! ### values -/
def sPick (c a b : Value) (w : World) : Option (Value × World) := match c with | .bool t => some (if t then a else b, w) | _ => none
def sNot (x : Value) (w : World) : Option (Value × World) := match x with | .bool t => some (.bool !t, w) | _ => none
def sExtract (x : Value) (i : Nat) (w : World) : Option (Value × World) := match x with | .tuple vs => (vs[i]?).map (·, w) | _ => none
/-- '&' -/
def andI (k : IntKind) (a b : Int) : Int := k.wrap (BitVec.ofInt k.bits a &&& BitVec.ofInt k.bits b).toNat
def sInt (op : BinOp) (x y : Value) (w : World) : Option (Value × World) :=
  match x, y with
  | .int k a, .int k' b =>
    if k = k' then
      match op with
      | .add => if inr k (a + b) then some (.int k (a + b), w) else none
      | .sub => if inr k (a - b) then some (.int k (a - b), w) else none
      | .mul => if inr k (a * b) then some (.int k (a * b), w) else none
      | .quo => if 0 ≤ a ∧ 0 < b ∧ inr k (a / b) then some (.int k (a / b), w) else none
      | .rem => if 0 ≤ a ∧ 0 < b then some (.int k (a % b), w) else none
      | .and => some (.int k (andI k a b), w)
      | .eql => some (.bool (decide (a = b)), w)
      | .neq => some (.bool (decide (a ≠ b)), w)
      | .lss => some (.bool (decide (a < b)), w)
      | .leq => some (.bool (decide (a ≤ b)), w)
      | .gtr => some (.bool (decide (b < a)), w)
      | .geq => some (.bool (decide (b ≤ a)), w)
      | _ => none
    else none
  | _, _ => none

theorem beq_dec (a b : Int) : (a == b) = decide (a = b) := by by_cases h : a = b <;> simp [h]

theorem run_eqGuard_int (P : Program) (op : BinOp) (t : TypeId) (x y : Operand) (k k' : IntKind) (a b : Int) (w : World) :
    (eqGuard op t x y (.int k a) (.int k' b)).run P w = .ok () w := by
  unfold eqGuard
  cases op <;> simp [Sem.run, pure]

theorem sInt_sound {P : Program} {op : BinOp} {t t' : TypeId} {x y : Operand} {ty : TypeId} {f : Fr} {w : World} {K : Value → World → Prop}
    (h : B (sInt op (ev f x) (ev f y) w) K) : raw P (.binOp op t x y t') ty f w K := by
  unfold raw
  simp only [execOp, run_bind]
  generalize ev f x = vx at *
  generalize ev f y = vy at *
  cases vx <;> cases vy <;> simp only [sInt, B] at h
  rename_i k a k' b
  rw [run_eqGuard_int]
  by_cases hk : k = k'
  · subst hk
    simp only [if_true] at h
    cases op
    case add =>
      by_cases hi : inr k (a + b)
      · simpa [binOp, Op.intArith, Sem.run, pure, upon, wrap_inr hi, hi] using h
      · simp [hi] at h
    case sub =>
      by_cases hi : inr k (a - b)
      · simpa [binOp, Op.intArith, Sem.run, pure, upon, wrap_inr hi, hi] using h
      · simp [hi] at h
    case mul =>
      by_cases hi : inr k (a * b)
      · simpa [binOp, Op.intArith, Sem.run, pure, upon, wrap_inr hi, hi] using h
      · simp [hi] at h
    case quo =>
      by_cases hi : 0 ≤ a ∧ 0 < b ∧ inr k (a / b)
      · have e : a.tdiv b = a / b := Int.tdiv_eq_ediv_of_nonneg hi.1
        have hb : b ≠ 0 := by omega
        simpa [binOp, Op.intDiv, Sem.run, pure, upon, wrap_inr hi.2.2, hi, e, hb] using h
      · simp [hi] at h
    case rem =>
      by_cases hi : 0 ≤ a ∧ 0 < b
      · have e : a.tmod b = a % b := Int.tmod_eq_emod_of_nonneg hi.1
        have hb : b ≠ 0 := by omega
        simpa [binOp, Op.intDiv, Sem.run, pure, upon, hi, e, hb] using h
      · simp [hi] at h
    all_goals first
      | (exact h.elim)
      | (simpa [binOp, Op.intCmp, Sem.run, pure, upon, beq_dec, bne] using h)
      | (simpa [binOp, Op.intBits, andI, Sem.run, pure, upon] using h)
  · simp [hk] at h
end Go.W
set_option linter.unusedSimpArgs false
set_option linter.unusedVariables false
namespace Go.W
/-- the block b replaced -/
def _root_.Go.World.putb (w : World) (b : Nat) (o : Obj) : World := { w with heap := w.heap.setIfInBounds b o }
/-- n cells from an address on -/
def rd (w : World) (a : Addr) (n : Nat) : Option (Array Value) :=
  match w.heap[a.block]? with
  | some (.cells cs _ _) => if a.spot = none ∧ a.off + n ≤ cs.size then some (cs.extract a.off (a.off + n)) else none
  | _ => none
def one : Value → Bool
  | .agg _ | .tuple _ => false
  | _ => true
def spl (cs : Array Value) (off : Nat) : List Value → Array Value
  | [] => cs
  | v :: vs => spl (cs.setIfInBounds off v) (off + 1) vs
theorem spl_nil (cs : Array Value) (off : Nat) : spl cs off [] = cs := rfl
theorem spl_cons (cs : Array Value) (off : Nat) (v : Value) (vs : List Value) : spl cs off (v :: vs) = spl (cs.setIfInBounds off v) (off + 1) vs := rfl
theorem spl_size (vs : List Value) : ∀ (cs : Array Value) (off : Nat), (spl cs off vs).size = cs.size := by
  induction vs with
  | nil => intros; rfl
  | cons v vs ih => intro cs off; simp [spl, ih]

theorem add_mk (b off n : Nat) : (⟨b, off, none⟩ : Addr).add n = ⟨b, off + n, none⟩ := by
  unfold Addr.add
  by_cases h : n = 0 <;> simp [h]

theorem cell_mk (w : World) (b off : Nat) : w.cell? ⟨b, off, none⟩ = match w.heap[b]? with | some (.cells c _ _) => c[off]? | _ => none := by
  unfold World.cell?; cases w.heap[b]? with
  | none => rfl
  | some o => cases o <;> rfl

theorem run_load {P : Program} {w : World} {a : Addr} {v : Value} (h : w.cell? a = some v) (m : Mode) : (Go.load a m).run P w = .ok v w := by
  simp [Go.load, Sem.run, h]

theorem run_loadCellsFrom {P : Program} {w : World} {a : Addr} {cs : Array Value} {e : TypeId} {fz : Nat × Nat} (hb : w.heap[a.block]? = some (.cells cs e fz)) (hs : a.spot = none) :
    ∀ (n i : Nat) (acc : Array Value), a.off + i + n ≤ cs.size → (loadCellsFrom a i n acc).run P w = .ok (acc ++ cs.extract (a.off + i) (a.off + i + n)) w := by
  obtain ⟨b, off, sp⟩ := a
  simp only at hb hs
  subst hs
  intro n
  induction n with
  | zero => intro i acc _; simp only [loadCellsFrom, Sem.run, pure, Nat.add_zero]; simp; omega
  | succ n ih =>
    intro i acc hn
    simp only at hn ih ⊢
    have hc : w.cell? ((⟨b, off, none⟩ : Addr).add i) = some cs[off + i] := by
      rw [add_mk, cell_mk, hb]; simp
    simp only [loadCellsFrom, run_bind, run_load hc]
    rw [ih (i + 1) _ (by omega)]
    congr 1
    apply Array.ext'
    simp only [Array.toList_append, Array.toList_push, Array.toList_extract, List.append_assoc, List.singleton_append, List.append_cancel_left_eq]
    rw [List.extract_eq_take_drop, List.extract_eq_take_drop]
    have hlt : off + i < cs.toList.length := by simp; omega
    rw [List.drop_eq_getElem_cons hlt, show off + i + (n + 1) - (off + i) = n + 1 by omega, List.take_succ_cons, show off + (i + 1) + n - (off + (i + 1)) = n by omega]
    simp [Nat.add_assoc]

theorem run_loadCells {P : Program} {w : World} {a : Addr} {n : Nat} {vs : Array Value} (h : rd w a n = some vs) : (loadCells a n).run P w = .ok vs w := by
  unfold rd at h
  split at h
  · rename_i cs e fz hb
    split at h
    · rename_i hc
      simp only [Option.some.injEq] at h
      subst h
      have := run_loadCellsFrom (P := P) hb hc.1 n 0 #[] (by omega)
      simpa [loadCells] using this
    · simp at h
  · simp at h

theorem setCell_putb {w : World} {b off : Nat} {cs : Array Value} {e : TypeId} {fz : Nat × Nat} (hb : w.heap[b]? = some (.cells cs e fz)) (v : Value) :
    w.setCell ⟨b, off, none⟩ v = w.putb b (.cells (cs.setIfInBounds off v) e fz) := by
  unfold World.setCell World.putb
  congr 1
  have hlt := (Array.getElem?_eq_some_iff.1 hb).1
  apply Array.ext
  · simp
  · intro i h1 h2
    rw [Array.getElem_modify]
    by_cases h : b = i
    · subst h
      have hx : w.heap[b] = .cells cs e fz := (Array.getElem?_eq_some_iff.1 hb).2
      simp [hx]
    · rw [if_neg h, Array.getElem_setIfInBounds_ne _ h]

theorem putb_get_same {w : World} {b : Nat} (h : b < w.heap.size) (o : Obj) : (w.putb b o).heap[b]? = some o := by simp [World.putb, h]
theorem putb_get_ne {w : World} {b c : Nat} (h : c ≠ b) (o : Obj) : (w.putb b o).heap[c]? = w.heap[c]? := by
  simp only [World.putb]; rw [Array.getElem?_setIfInBounds_ne (Ne.symm h)]
theorem putb_size (w : World) (b : Nat) (o : Obj) : (w.putb b o).heap.size = w.heap.size := by simp [World.putb]
theorem putb_putb (w : World) (b : Nat) (o o' : Obj) : (w.putb b o).putb b o' = w.putb b o' := by simp [World.putb]
theorem alloc_size (w : World) (o : Obj) : (w.alloc o).heap.size = w.heap.size + 1 := by simp
theorem alloc_get_new (w : World) (o : Obj) : (w.alloc o).heap[w.heap.size]? = some o := by
  show (w.heap.push o)[w.heap.size]? = _
  simp
theorem alloc_get_lt {w : World} {b : Nat} (h : b < w.heap.size) (o : Obj) : (w.alloc o).heap[b]? = w.heap[b]? := by
  show (w.heap.push o)[b]? = _
  rw [Array.getElem?_push, if_neg (by omega)]
theorem get_lt {w : World} {b : Nat} {o : Obj} (h : w.heap[b]? = some o) : b < w.heap.size := (Array.getElem?_eq_some_iff.1 h).1

theorem run_storeCells {P : Program} {b off : Nat} {e : TypeId} : ∀ (vs : List Value) (i : Nat) (w : World) (cs : Array Value), w.heap[b]? = some (.cells cs e (0, 0)) → off + i + vs.length ≤ cs.size →
    (∀ v ∈ vs, one v = true) → (storeCells ⟨b, off, none⟩ vs i).run P w = .ok () (if vs = [] then w else w.putb b (.cells (spl cs (off + i) vs) e (0, 0))) := by
  intro vs
  induction vs with
  | nil => intro i w cs _ _ _; simp [storeCells, Sem.run, pure]
  | cons v vs ih =>
    intro i w cs hb hn h1
    simp only [List.length_cons] at hn
    have hlt : off + i < cs.size := by omega
    have hc : w.cell? ⟨b, off + i, none⟩ = some cs[off + i] := by
      rw [cell_mk, hb]; simp
    have hfz : w.frozen? ⟨b, off + i, none⟩ = false := by simp [World.frozen?, hb]
    have hone := h1 v (by simp)
    have hst : (Go.store ((⟨b, off, none⟩ : Addr).add i) v).run P w = .ok () (w.putb b (.cells (cs.setIfInBounds (off + i) v) e (0, 0))) := by
      rw [add_mk, ← setCell_putb hb v]
      unfold Go.store
      cases v <;> simp [Sem.run, hc, hfz, one] at hone ⊢
    simp only [storeCells, run_bind, hst]
    rw [ih (i + 1) (w.putb b (.cells (cs.setIfInBounds (off + i) v) e (0, 0))) (cs.setIfInBounds (off + i) v) (putb_get_same (get_lt hb) _) (by simp; omega) (fun u hu => h1 u (by simp [hu]))]
    by_cases hvs : vs = []
    · subst hvs; simp [spl]
    · simp [hvs, putb_putb, spl, Nat.add_assoc]

/-! ### loads, stores, new blocks -/
def sLoad (P : Program) (t : TypeId) (x : Value) (w : World) : Option (Value × World) :=
  match x with
  | .pointer (some a) => match agb P t with
    | some true => match szv P t with
      | some n => (rd w a n).map fun cs => (.agg cs, w)
      | none => none
    | some false => (w.cell? a).map (·, w)
    | none => none
  | _ => none
theorem sLoad_run {P : Program} {t : TypeId} {x v : Value} {w w' : World} (h : sLoad P t x w = some (v, w')) : (Instr.loadAt t x).run P w = .ok v w ∧ w' = w := by
  unfold sLoad at h
  split at h
  · rename_i a
    split at h
    · rename_i hb
      split at h
      · rename_i n hn
        obtain ⟨cs, hcs, he⟩ := Option.map_eq_some_iff.1 h
        simp only [Prod.mk.injEq] at he
        obtain ⟨rfl, rfl⟩ := he
        refine ⟨?_, rfl⟩
        simp [Instr.loadAt, Instr.sureAddr, loadVar, run_bind, run_isAgg hb, run_sizeOf hn, run_loadCells hcs, Sem.run, pure]
      · simp at h
    · rename_i hb
      obtain ⟨u, hu, he⟩ := Option.map_eq_some_iff.1 h
      simp only [Prod.mk.injEq] at he
      obtain ⟨rfl, rfl⟩ := he
      refine ⟨?_, rfl⟩
      simp only [Instr.loadAt, Instr.sureAddr, loadVar, run_bind, run_isAgg hb, run_load hu, Sem.run, pure, Bool.false_eq_true, if_false]
    · simp at h
  · simp at h
theorem sLoad_sound {P : Program} {t : TypeId} {x : Operand} {ty : TypeId} {f : Fr} {w : World} {K : Value → World → Prop}
    (h : B (sLoad P t (ev f x) w) K) : raw P (.load t x) ty f w K := by
  unfold B at h
  split at h
  · rename_i v w' hs
    obtain ⟨hr, rfl⟩ := sLoad_run hs
    simpa [raw, execOp, run_bind, hr, Sem.run, pure, upon] using h
  · exact h.elim

def sStore (P : Program) (t : TypeId) (x v : Value) (w : World) : Option (Value × World) :=
  match x with
  | .pointer (some ⟨b, off, none⟩) =>
    match w.heap[b]? with
    | some (.cells cs e fz) => if szv P t = some v.cells.size ∧ fz = (0, 0) ∧ off + v.cells.size ≤ cs.size ∧ v.cells.toList.all one = true ∧ 0 < v.cells.size then
        some (undef, w.putb b (.cells (spl cs off v.cells.toList) e (0, 0))) else none
    | _ => none
  | _ => none
theorem sStore_sound {P : Program} {t : TypeId} {x v : Operand} {ty : TypeId} {f : Fr} {w : World} {K : Value → World → Prop}
    (h : B (sStore P t (ev f x) (ev f v) w) K) : raw P (.store t x v) ty f w K := by
  unfold B at h
  split at h
  · rename_i u w' hs
    unfold sStore at hs
    split at hs
    · rename_i b off hx
      split at hs
      · rename_i cs e fz hb
        split at hs
        · rename_i hc
          obtain ⟨h1, rfl, h3, h4, h5⟩ := hc
          simp only [Option.some.injEq, Prod.mk.injEq] at hs
          obtain ⟨rfl, rfl⟩ := hs
          have hr := run_storeCells (P := P) (off := off) (ev f v).cells.toList 0 w cs hb (by simpa using h3) (fun u hu => by simpa using (List.all_eq_true.1 h4) u hu)
          have hne : (ev f v).cells.toList ≠ [] := by
            intro e
            have : (ev f v).cells.size = 0 := by rw [← Array.length_toList, e]; rfl
            omega
          simp only [hne, if_false, Nat.add_zero] at hr
          simpa [raw, execOp, Instr.storeAt, Instr.sureAddr, storeVar, hx, run_bind, run_sizeOf h1, hr, Sem.run, pure, upon] using h
        · simp at hs
      · simp at hs
    · simp at hs
  · exact h.elim

def sAlloc (P : Program) (t : TypeId) (w : World) : Option (Value × World) :=
  match zrv P t with
  | some z => some (.pointer (some ⟨w.heap.size, 0, none⟩), w.alloc (.cells z.cells t))
  | none => none
theorem sAlloc_sound {P : Program} {t : TypeId} {ty : TypeId} {f : Fr} {w : World} {K : Value → World → Prop}
    (h : B (sAlloc P t w) K) : raw P (.alloc t) ty f w K := by
  unfold B sAlloc at h
  split at h
  · rename_i u w' hs
    split at hs
    · rename_i z hz
      simp only [Option.some.injEq, Prod.mk.injEq] at hs
      obtain ⟨rfl, rfl⟩ := hs
      simpa [raw, execOp, Instr.alloc, run_bind, run_zeroValue hz, newVar, newRow, newObj, Sem.run, pure, upon] using h
    · simp at hs
  · exact h.elim
def sBox (t : TypeId) (x : Value) (w : World) : Option (Value × World) := some (.pointer (some ⟨w.heap.size, 0, none⟩), w.alloc (.cells x.cells t))
theorem sBox_sound {P : Program} {t : TypeId} {x : Operand} {ty : TypeId} {f : Fr} {w : World} {K : Value → World → Prop}
    (h : B (sBox t (ev f x) w) K) : raw P (.box t x) ty f w K := by
  simpa [raw, execOp, Instr.box, run_bind, newVar, newRow, newObj, Sem.run, pure, upon, sBox, B] using h

/-! ### addresses -/
def sFieldAddr (P : Program) (s : TypeId) (x : Value) (k : Nat) (w : World) : Option (Value × World) :=
  match x with
  | .pointer (some a) => (fld P s k).map fun o => (.pointer (some (a.add o.1)), w)
  | _ => none
theorem fld_spec {P : Program} {s : TypeId} {k : Nat} {o n : Nat} {b : Bool} (h : fld P s k = some (o, n, b)) :
    ∃ fs fl, P.underlying s = some (.struct fs) ∧ fs[k]? = some fl ∧ szv P fl.type = some n ∧ agb P fl.type = some b ∧ fl.offset = o ∧ n ≠ 0 := by
  unfold fld at h
  split at h
  · rename_i fs hu
    split at h
    · rename_i fl hf
      split at h
      · rename_i n' b' h1 h2
        split at h
        · simp at h
        · rename_i hne
          simp only [Option.some.injEq, Prod.mk.injEq] at h
          obtain ⟨rfl, rfl, rfl⟩ := h
          exact ⟨fs, fl, hu, hf, h1, h2, rfl, hne⟩
      · simp at h
    · simp at h
  · simp at h
theorem sFieldAddr_sound {P : Program} {s : TypeId} {x : Operand} {k : Nat} {ty : TypeId} {f : Fr} {w : World} {K : Value → World → Prop}
    (h : B (sFieldAddr P s (ev f x) k w) K) : raw P (.fieldAddr s x k) ty f w K := by
  unfold B at h
  split at h
  · rename_i u w' hs
    unfold sFieldAddr at hs
    split at hs
    · rename_i a hx
      obtain ⟨⟨o, n, b⟩, ho, he⟩ := Option.map_eq_some_iff.1 hs
      simp only [Prod.mk.injEq] at he
      obtain ⟨rfl, rfl⟩ := he
      obtain ⟨fs, fl, h1, h2, h3, h4, rfl, h6⟩ := fld_spec ho
      simpa [raw, execOp, Instr.fieldAt, hx, run_bind, run_underlying h1, h2, Instr.sureAddr, fieldPlace, run_sizeOf h3, h6, Sem.run, pure, upon] using h
    · simp at hs
  · exact h.elim

def sField (P : Program) (s : TypeId) (x : Value) (k : Nat) (w : World) : Option (Value × World) :=
  match x with
  | .agg cs => match fld P s k with
    | some (o, n, true) => some (.agg (cs.extract o (o + n)), w)
    | some (o, _, false) => (cs[o]?).map (·, w)
    | none => none
  | _ => none
theorem sField_sound {P : Program} {s : TypeId} {x : Operand} {k : Nat} {ty : TypeId} {f : Fr} {w : World} {K : Value → World → Prop}
    (h : B (sField P s (ev f x) k w) K) : raw P (.field s x k) ty f w K := by
  unfold B at h
  split at h
  · rename_i u w' hs
    unfold sField at hs
    split at hs
    · rename_i cs hx
      split at hs
      · rename_i o n ho
        obtain ⟨fs, fl, h1, h2, h3, h4, rfl, h6⟩ := fld_spec ho
        simp only [Option.some.injEq, Prod.mk.injEq] at hs
        obtain ⟨rfl, rfl⟩ := hs
        simpa [raw, execOp, Instr.field, hx, run_bind, run_underlying h1, h2, asAgg, part, run_isAgg h4, run_sizeOf h3, Sem.run, pure, upon] using h
      · rename_i o n ho
        obtain ⟨fs, fl, h1, h2, h3, h4, rfl, h6⟩ := fld_spec ho
        obtain ⟨v, hv, he⟩ := Option.map_eq_some_iff.1 hs
        simp only [Prod.mk.injEq] at he
        obtain ⟨rfl, rfl⟩ := he
        simpa [raw, execOp, Instr.field, hx, run_bind, run_underlying h1, h2, asAgg, part, run_isAgg h4, hv, Sem.run, pure, upon] using h
      · simp at hs
    · simp at hs
  · exact h.elim

theorem elt_spec {P : Program} {t e : TypeId} (h : elt P t = some e) : P.underlying t = some (.slice e) := by
  unfold elt at h
  split at h
  · rename_i e' hu; simp only [Option.some.injEq] at h; subst h; exact hu
  · simp at h
def esz (P : Program) (t : TypeId) : Option Nat := (elt P t).bind (szv P)
theorem esz_spec {P : Program} {t : TypeId} {n : Nat} (h : esz P t = some n) : ∃ e, P.underlying t = some (.slice e) ∧ szv P e = some n := by
  obtain ⟨e, he, hn⟩ := Option.bind_eq_some_iff.1 h
  exact ⟨e, elt_spec he, hn⟩
/-- an array type: its length, its elements' size -/
def arr (P : Program) (t : TypeId) : Option (Nat × Nat) := match P.underlying t with | some (.array n e) => (szv P e).map fun s => (n, s) | _ => none
theorem arr_spec {P : Program} {t : TypeId} {p : Nat × Nat} (h : arr P t = some p) : ∃ e, P.underlying t = some (.array p.1 e) ∧ szv P e = some p.2 := by
  unfold arr at h
  split at h
  · rename_i n e hu
    obtain ⟨s, hs, rfl⟩ := Option.map_eq_some_iff.1 h
    exact ⟨e, hu, hs⟩
  · simp at h
def sIndexAddr (P : Program) (t : TypeId) (x i : Value) (w : World) : Option (Value × World) :=
  match x, i with
  | .slice (some a) len _, .int _ j => match esz P t with
    | some n => if 0 ≤ j ∧ j < len then some (.pointer (some (a.add (j.toNat * n))), w) else none
    | none => none
  | .pointer (some a), .int _ j => match arr P t with
    | some p => if 0 ≤ j ∧ j < p.1 then some (.pointer (some (a.add (j.toNat * p.2))), w) else none
    | none => none
  | _, _ => none
theorem sIndexAddr_sound {P : Program} {t : TypeId} {x i : Operand} {ty : TypeId} {f : Fr} {w : World} {K : Value → World → Prop}
    (h : B (sIndexAddr P t (ev f x) (ev f i) w) K) : raw P (.indexAddr t x i) ty f w K := by
  unfold B at h
  split at h
  · rename_i u w' hs
    unfold sIndexAddr at hs
    split at hs
    · rename_i a len cap k j hx hi
      split at hs
      · rename_i n hn
        obtain ⟨e, he, hse⟩ := esz_spec hn
        split at hs
        · rename_i hc
          simp only [Option.some.injEq, Prod.mk.injEq] at hs
          obtain ⟨rfl, rfl⟩ := hs
          simpa [raw, execOp, Instr.indexAt, hx, hi, asIntOf, run_bind, run_underlying he, run_sizeOf hse, hc, Sem.run, pure, upon] using h
        · simp at hs
      · simp at hs
    · rename_i a k j hx hi
      split at hs
      · rename_i q hn
        obtain ⟨e, he, hse⟩ := arr_spec hn
        split at hs
        · rename_i hc
          simp only [Option.some.injEq, Prod.mk.injEq] at hs
          obtain ⟨rfl, rfl⟩ := hs
          simpa [raw, execOp, Instr.indexAt, hx, hi, asIntOf, run_bind, run_underlying he, run_sizeOf hse, hc, Instr.sureAddr, Sem.run, pure, upon] using h
        · simp at hs
      · simp at hs
    · simp at hs
  · exact h.elim
end Go.W
set_option linter.unusedSimpArgs false
set_option linter.unusedVariables false
namespace Go.W
/-- x[lo:hi], on slices -/
def bnd (x : Option Value) (d : Nat) (m : Nat) : Option Nat :=
  match x with
  | none => some d
  | some (.int _ i) => if 0 ≤ i ∧ i ≤ m then some i.toNat else none
  | _ => none
def sSlice (P : Program) (t : TypeId) (x : Value) (lo hi : Option Value) (w : World) : Option (Value × World) :=
  match x with
  | .slice a len cap =>
    match esz P t with
    | some n => match bnd hi len cap with
      | some h => match bnd lo 0 h with
        | some l => some (.slice (if cap = l then a else a.map (·.add (l * n))) (h - l) (cap - l), w)
        | none => none
      | none => none
    | none => none
  | _ => none
theorem run_sliceBound {P : Program} {k : IntKind} {i : Int} {y : Nat} {code : BoundsCode} {w : World} (h : 0 ≤ i ∧ i ≤ y) :
    (Instr.sliceBound (.int k i) y code).run P w = .ok i.toNat w := by
  simp [Instr.sliceBound, asIntOf, run_bind, Sem.run, pure, h]
theorem sSlice_sound {P : Program} {t : TypeId} {x : Operand} {lo hi : Option Operand} {ty : TypeId} {f : Fr} {w : World} {K : Value → World → Prop}
    (h : B (sSlice P t (ev f x) (lo.map (ev f)) (hi.map (ev f)) w) K) : raw P (.slice t x lo hi none) ty f w K := by
  unfold B at h
  split at h
  · rename_i u w' hs
    unfold sSlice at hs
    split at hs
    · rename_i a len cap hx
      split at hs
      · rename_i n hn
        obtain ⟨e, he, hse⟩ := esz_spec hn
        split at hs
        · rename_i hh hbh
          split at hs
          · rename_i ll hbl
            simp only [Option.some.injEq, Prod.mk.injEq] at hs
            obtain ⟨rfl, rfl⟩ := hs
            have e1 : (Instr.sliceBounds true len cap (lo.map (ev f)) (hi.map (ev f)) none).run P w = .ok (ll, hh, cap) w := by
              unfold Instr.sliceBounds
              simp only [run_bind]
              cases hi with
              | none =>
                simp only [Option.map_none, bnd, Option.some.injEq] at hbh
                subst hbh
                cases lo with
                | none => simp only [Option.map_none, bnd, Option.some.injEq] at hbl; subst hbl; simp [Sem.run, pure]
                | some l =>
                  simp only [Option.map_some] at hbl ⊢
                  generalize ev f l = vl at *
                  cases vl <;> simp only [bnd] at hbl <;> try (simp at hbl; done)
                  split at hbl
                  · rename_i hc
                    simp only [Option.some.injEq] at hbl
                    subst hbl
                    simp [Sem.run, pure, run_sliceBound hc]
                  · simp at hbl
              | some hv =>
                simp only [Option.map_some] at hbh ⊢
                generalize ev f hv = vh at *
                cases vh <;> simp only [bnd] at hbh <;> try (simp at hbh; done)
                split at hbh
                · rename_i hc
                  simp only [Option.some.injEq] at hbh
                  subst hbh
                  cases lo with
                  | none => simp only [Option.map_none, bnd, Option.some.injEq] at hbl; subst hbl; simp [Sem.run, pure, run_sliceBound hc]
                  | some l =>
                    simp only [Option.map_some] at hbl ⊢
                    generalize ev f l = vl at *
                    cases vl <;> simp only [bnd] at hbl <;> try (simp at hbl; done)
                    split at hbl
                    · rename_i hc'
                      simp only [Option.some.injEq] at hbl
                      subst hbl
                      simp [Sem.run, pure, run_sliceBound hc, run_sliceBound hc']
                    · simp at hbl
                · simp at hbh
            simpa [raw, execOp, Instr.sliceAt, Instr.slice, hx, run_bind, run_underlying he, run_sizeOf hse, e1, Sem.run, pure, upon] using h
          · simp at hs
        · simp at hs
      · simp at hs
    · simp at hs
  · exact h.elim

def isMapT (P : Program) (t : TypeId) : Bool := match P.underlying t with | some (.map _ _) => true | _ => false
theorem isMapT_spec {P : Program} {t : TypeId} (h : isMapT P t = true) : ∃ k e, P.underlying t = some (.map k e) := by
  unfold isMapT at h
  split at h
  · rename_i k e hu; exact ⟨k, e, hu⟩
  · simp at h
def sLen (P : Program) (t : TypeId) (x : Value) (w : World) : Option (Value × World) :=
  match x with
  | .slice _ n _ => if (elt P t).isSome then some (.int .i64 n, w) else none
  | .map none => if isMapT P t = true then some (.int .i64 0, w) else none
  | .map (some r) => match w.heap[r]? with
    | some (.map es _) => if isMapT P t = true then some (.int .i64 es.size, w) else none
    | _ => none
  | _ => none
theorem run_getObj {P : Program} {r : Nat} {w : World} {es : Array MapEntry} {c : Nat} (h : w.heap[r]? = some (.map es c)) : (Go.getObj r).run P w = .ok (.map es c) w := by
  simp [Go.getObj, Sem.run, h]
theorem sLen_sound {P : Program} {t : TypeId} {x : Operand} {ty : TypeId} {f : Fr} {w : World} {K : Value → World → Prop}
    (h : B (sLen P t (ev f x) w) K) : raw P (.call ⟨.builtin .len, #[x], #[t]⟩) ty f w K := by
  unfold B at h
  split at h
  · rename_i u w' hs
    unfold sLen at hs
    split at hs
    · rename_i a n c hx
      split at hs
      · rename_i he
        obtain ⟨e, he⟩ := Option.isSome_iff_exists.1 he
        simp only [Option.some.injEq, Prod.mk.injEq] at hs
        obtain ⟨rfl, rfl⟩ := hs
        simpa [raw, execOp, resolve, invoke, builtin, Builtin.len_, hx, run_bind, run_underlying (elt_spec he), goInt, Sem.run, pure, upon] using h
      · simp at hs
    · rename_i hx
      split at hs
      · rename_i he
        obtain ⟨k, e, he⟩ := isMapT_spec he
        simp only [Option.some.injEq, Prod.mk.injEq] at hs
        obtain ⟨rfl, rfl⟩ := hs
        simpa [raw, execOp, resolve, invoke, builtin, Builtin.len_, hx, run_bind, run_underlying he, goInt, Sem.run, pure, upon] using h
      · simp at hs
    · rename_i r hx
      split at hs
      · rename_i es c hr
        split at hs
        · rename_i he
          obtain ⟨k, e, he⟩ := isMapT_spec he
          simp only [Option.some.injEq, Prod.mk.injEq] at hs
          obtain ⟨rfl, rfl⟩ := hs
          simpa [raw, execOp, resolve, invoke, builtin, Builtin.len_, hx, run_bind, run_underlying he, run_getObj hr, goInt, Sem.run, pure, upon] using h
        · simp at hs
      · simp at hs
    · simp at hs
  · exact h.elim

def sMakeMap (w : World) : Option (Value × World) := some (.map (some w.heap.size), w.alloc (.map #[] 0))
theorem sMakeMap_sound {P : Program} {t : TypeId} {ty : TypeId} {f : Fr} {w : World} {K : Value → World → Prop}
    (h : B (sMakeMap w) K) : raw P (.makeMap t none) ty f w K := by
  simpa [raw, execOp, Instr.makeMap, run_bind, newObj, Sem.run, pure, upon, sMakeMap, B] using h

/-- make([]T, n) where T takes one cell -/
def sMakeSlice (P : Program) (t : TypeId) (l c : Value) (w : World) : Option (Value × World) :=
  match l, c with
  | .int _ n, .int _ m =>
    match elt P t with
    | some e => match zrv P e, szv P e, byv P e with
      | some z, some sz, some by_ => if n = m ∧ 0 ≤ n ∧ n ≤ 9223372036854775807 ∧ by_ * n ≤ 281474976710656 ∧ sz = 1 ∧ z.cells.size = 1 then
          some (.slice (some ⟨w.heap.size, 0, none⟩) n.toNat n.toNat, w.alloc (.cells (Array.replicate n.toNat z.cells[0]!) e)) else none
      | _, _, _ => none
    | none => none
  | _, _ => none
theorem run_askRoom (P : Program) (n : Nat) (w : World) : (askRoom n).run P w = .ok () w := by
  unfold askRoom
  split <;> simp [mark, Sem.run, pure]
theorem range_map_one (n : Nat) (z : Array Value) (hz : z.size = 1) : (Array.range n).map (fun i => z[i % z.size]!) = Array.replicate n z[0]! := by
  apply Array.ext
  · simp
  · intro i h1 h2
    simp [hz, Nat.mod_one]
theorem sMakeSlice_sound {P : Program} {t : TypeId} {l c : Operand} {ty : TypeId} {f : Fr} {w : World} {K : Value → World → Prop}
    (h : B (sMakeSlice P t (ev f l) (ev f c) w) K) : raw P (.makeSlice t l c) ty f w K := by
  unfold B at h
  split at h
  · rename_i u w' hs
    unfold sMakeSlice at hs
    split at hs
    · rename_i k n k' m hl hc
      split at hs
      · rename_i e he
        split at hs
        · rename_i z sz by_ hz hsz hby
          split at hs
          · rename_i hcond
            obtain ⟨rfl, h0, h63, hbig, rfl, hz1⟩ := hcond
            simp only [Option.some.injEq, Prod.mk.injEq] at hs
            obtain ⟨rfl, rfl⟩ := hs
            have hw : IntKind.i64.wrap n = n := wrap_inr (by rw [inr_i64]; omega)
            obtain ⟨i, hi, rfl⟩ := Option.map_eq_some_iff.1 hby
            have hneg : ¬ n < 0 := by omega
            have hbig' : ¬ (281474976710656 < (i.bytes : Int) * n) := by omega
            have hcells : (Array.range (n.toNat * 1)).map (fun i => (if n.toNat * 1 = 0 then #[] else z.cells)[i % (if n.toNat * 1 = 0 then #[] else z.cells).size]!) = Array.replicate n.toNat z.cells[0]! := by
              by_cases hn : n.toNat * 1 = 0
              · have : n.toNat = 0 := by omega
                simp [this]
              · simp only [hn, if_false]
                rw [range_map_one _ _ hz1]
                simp
            simp only [raw, execOp, Instr.makeSlice, hl, hc, run_bind, run_underlying (elt_spec he), run_typeInfo hi, asInt, asIntOf, hw, run_askRoom, run_sizeOf hsz, Sem.run, pure]
            simp only [hneg, decide_false, Bool.false_or, hbig', gt_iff_lt, Int.lt_irrefl, Bool.or_false, if_false, Bool.false_eq_true, Nat.reducePow, Int.reducePow, run_bind, run_askRoom, run_sizeOf hsz, newRow, newObj, Sem.run, pure]
            by_cases hn : n.toNat * 1 = 0
            · simp only [hn, if_true] at hcells ⊢
              simp only [run_bind, Sem.run, upon, hcells]
              exact h
            · simp only [hn, if_false] at hcells ⊢
              simp only [run_bind, run_zeroValue hz, Sem.run, upon, hcells]
              exact h
          · simp at hs
        · simp at hs
      · simp at hs
    · simp at hs
  · exact h.elim
end Go.W
set_option linter.unusedSimpArgs false
set_option linter.unusedVariables false
namespace Go.W
/-! ### literals -/
def fillV (pl : Nat → Option (Nat × Nat)) (cs : Array Value) : List (Nat × Value) → Option (Array Value)
  | [] => some cs
  | (i, v) :: rest => match pl i with
    | some (off, n) => if v.cells.size = n ∧ off + n ≤ cs.size then fillV pl (spl cs off v.cells.toList) rest else none
    | none => none
theorem foldl_spl (vs : List Value) : ∀ (cs : Array Value) (off k : Nat),
    (vs.zipIdx k).foldl (fun cs (p : Value × Nat) => cs.setIfInBounds (off + p.2) p.1) cs = spl cs (off + k) vs := by
  induction vs with
  | nil => intros; rfl
  | cons v vs ih => intro cs off k; simp only [List.zipIdx_cons, List.foldl_cons, spl]; rw [ih]; rfl
theorem fillV_fill (pl : Nat → Option (Nat × Nat)) : ∀ (parts : List (Nat × Value)) (cs out : Array Value), fillV pl cs parts = some out → Instr.fill pl cs parts = some out := by
  intro parts
  induction parts with
  | nil => intro cs out h; simpa [fillV, Instr.fill] using h
  | cons p rest ih =>
    intro cs out h
    obtain ⟨i, v⟩ := p
    simp only [fillV] at h
    split at h
    · rename_i off n hp
      split at h
      · rename_i hc
        obtain ⟨h1, h2⟩ := hc
        simp only [Instr.fill, hp]
        have h3 : ¬ (off + v.cells.size > cs.size) := by omega
        simp only [h1, ne_eq, not_true, decide_false, Bool.false_or]
        have h4 : ¬ (off + n > cs.size) := by omega
        simp only [h4, decide_false, Bool.false_eq_true, if_false]
        have := foldl_spl v.cells.toList cs off 0
        rw [← Array.foldl_toList, Array.toList_zipIdx, this, Nat.add_zero]
        exact ih _ _ h
      · simp at h
    · simp at h
def bldp (P : Program) (t : TypeId) : Option (Array Value × List (Nat × Nat)) :=
  match P.info? t, P.underlying t with
  | some it, some (.struct fields) =>
    match it.zero, fields.toList.mapM (fun f => (P.info? f.type).map fun i => (f.offset, i.size)) with
    | some z, some places => some (z.cells, places)
    | _, _ => none
  | some it, some (.array n e) =>
    match it.zero, P.info? e with
    | some z, some ie => some (z.cells, (List.range n).map fun i => (i * ie.size, ie.size))
    | _, _ => none
  | _, _ => none
theorem fillV_mono {p q : Nat → Option (Nat × Nat)} (h : ∀ i x, p i = some x → q i = some x) : ∀ (parts : List (Nat × Value)) (cs out : Array Value), fillV p cs parts = some out → fillV q cs parts = some out
  | [], cs, out, k => k
  | (i, v) :: rest, cs, out, k => by
    simp only [fillV] at k ⊢
    split at k
    · rename_i off n hp
      rw [h i _ hp]
      simp only []
      split at k
      · rename_i hc
        rw [if_pos hc]
        exact fillV_mono h rest _ _ k
      · simp at k
    · simp at k
def sBuild (P : Program) (t : TypeId) (parts : List (Nat × Value)) (w : World) : Option (Value × World) :=
  match bldp P t with
  | some (z, pl) => (fillV (pl[·]?) z parts).map fun cs => (.agg cs, w)
  | none => none
theorem sBuild_sound {P : Program} {t : TypeId} {parts : Array (Nat × Operand)} {ty : TypeId} {f : Fr} {w : World} {K : Value → World → Prop}
    (h : B (sBuild P t (parts.toList.map fun p => (p.1, ev f p.2)) w) K) : raw P (.build t parts) ty f w K := by
  unfold B at h
  split at h
  · rename_i u w' hs
    unfold sBuild at hs
    split at hs
    · rename_i z pl hb
      obtain ⟨cs, hcs, he⟩ := Option.map_eq_some_iff.1 hs
      simp only [Prod.mk.injEq] at he
      obtain ⟨rfl, rfl⟩ := he
      have hf := fillV_fill _ _ _ _ hcs
      have hbt : P.built t (parts.map fun (i, x) => (i, ev f x)).toList = some cs := by
        unfold bldp at hb
        split at hb
        · rename_i it fields hi hu
          split at hb
          · rename_i z' places hz hp
            simp only [Option.some.injEq, Prod.mk.injEq] at hb
            obtain ⟨rfl, rfl⟩ := hb
            simp only [Program.built, hi, hu, hz, hp]
            simpa using hf
          · simp at hb
        · rename_i it n e hi hu
          split at hb
          · rename_i z' ie hz he
            simp only [Option.some.injEq, Prod.mk.injEq] at hb
            obtain ⟨rfl, rfl⟩ := hb
            have hf2 := fillV_fill _ _ _ _ (fillV_mono (q := fun i => some (i * ie.size, ie.size)) (fun i x hx => by
              rw [List.getElem?_map] at hx
              obtain ⟨j, hj, rfl⟩ := Option.map_eq_some_iff.1 hx
              have hjn := (List.getElem?_eq_some_iff.1 hj).1
              rw [List.length_range] at hjn
              rw [List.getElem?_range hjn] at hj
              simp only [Option.some.injEq] at hj
              rw [hj]) _ _ _ hcs)
            simp only [Program.built, hi, hu, hz, he]
            simpa using hf2
          · simp at hb
        · simp at hb
      simpa [raw, execOp, run_bind, run_build w t _ cs hbt, Sem.run, pure, upon] using h
    · simp at hs
  · exact h.elim

/-- a slice literal -/
def sBuildSlice (P : Program) (t : TypeId) (len : Nat) (parts : List (Nat × Value)) (w : World) : Option (Value × World) :=
  match elt P t with
  | some e => match zrv P e, szv P e with
    | some z, some n => if len * n ≤ 16777216 then
        match fillV (fun i => some (i * n, n)) ((List.replicate len z.cells.toList).flatten.toArray) parts with
        | some cs => some (.slice (some ⟨w.heap.size, 0, none⟩) len len, w.alloc (.cells cs e))
        | none => none
      else none
    | _, _ => none
  | none => none
def sBuildSliceOk (P : Program) (t : TypeId) : Bool :=
  match elt P t with
  | some e => match zrv P e, szv P e with
    | some z, some n => z.cells.size == n && decide (0 < n)
    | _, _ => false
  | none => false
theorem zrow_eq (z : Array Value) (hz : 0 < z.size) : ∀ len : Nat, (Array.range (len * z.size)).map (fun i => z[i % z.size]!) = (List.replicate len z.toList).flatten.toArray := by
  intro len
  apply Array.ext'
  simp only [Array.toList_map, Array.toList_range]
  induction len with
  | zero => simp
  | succ n ih =>
    rw [Nat.succ_mul, List.range_add, List.map_append, ih, List.replicate_succ']
    rw [List.flatten_append]
    simp only [List.flatten_cons, List.flatten_nil, List.append_nil, List.append_cancel_left_eq, List.map_map]
    apply List.ext_getElem
    · simp
    · intro i h1 h2
      simp at h1
      simp [h1, Nat.mod_eq_of_lt h1, Nat.add_comm]
theorem sBuildSlice_sound {P : Program} {t : TypeId} {len : Nat} {parts : Array (Nat × Operand)} {ty : TypeId} {f : Fr} {w : World} {K : Value → World → Prop}
    (hok : sBuildSliceOk P t = true) (h : B (sBuildSlice P t len (parts.toList.map fun p => (p.1, ev f p.2)) w) K) : raw P (.buildSlice t len parts) ty f w K := by
  unfold B at h
  split at h
  · rename_i u w' hs
    unfold sBuildSlice at hs
    unfold sBuildSliceOk at hok
    split at hs
    · rename_i e he
      simp only [he] at hok
      split at hs
      · rename_i z n hz hn
        simp only [hz, hn, Bool.and_eq_true, beq_iff_eq, decide_eq_true_eq] at hok
        obtain ⟨rfl, hpos⟩ := hok
        split at hs
        · rename_i hle
          split at hs
          · rename_i cs hcs
            simp only [Option.some.injEq, Prod.mk.injEq] at hs
            obtain ⟨rfl, rfl⟩ := hs
            have hf := fillV_fill _ _ _ _ hcs
            rw [← zrow_eq _ hpos] at hf
            have hlen : ¬ (len * z.cells.size > 2 ^ 24) := by omega
            have hpl : (parts.map fun (p : Nat × Operand) => (p.1, ev f p.2)).toList = parts.toList.map fun p => (p.1, ev f p.2) := by simp
            have hlen' : ¬ (16777216 < len * z.cells.size) := by omega
            simp only [raw, execOp, Instr.buildSlice, run_bind, run_underlying (elt_spec he), run_sizeOf hn, hlen, if_false, Sem.run, pure, hpl]
            by_cases h0 : len * z.cells.size = 0
            · have hf0 : Instr.fill (fun i => some (i * z.cells.size, z.cells.size)) (Array.map (fun (x : Nat) => (#[] : Array Value)[x % (#[] : Array Value).size]!) (Array.range (len * z.cells.size))) (parts.toList.map fun p => (p.1, ev f p.2)) = some cs := by
                have e0 : ∀ g : Nat → Value, (Array.range 0).map g = #[] := fun g => by apply Array.ext' ; simp
                rw [h0, e0] at hf ⊢; exact hf
              simp only [h0, if_true, run_bind, Sem.run] at hf0 ⊢
              simp only [run_bind, Sem.run, hf0, newRow, newObj, upon]
              exact h
            · simp only [h0, if_false, run_bind, run_zeroValue hz, Sem.run, hf, newRow, newObj, upon]
              exact h
          · simp at hs
        · simp at hs
      · simp at hs
    · simp at hs
  · exact h.elim

/-! ### conversions, min, max, nil checks -/
def kd (P : Program) (t : TypeId) : Option IntKind := match P.underlying t with | some (.int k) => some k | _ => none
theorem kd_spec {P : Program} {t : TypeId} {k : IntKind} (h : kd P t = some k) : P.underlying t = some (.int k) := by
  unfold kd at h
  split at h
  · rename_i k' hu; simp only [Option.some.injEq] at h; subst h; exact hu
  · simp at h
def sConv (P : Program) (s t : TypeId) (x : Value) (w : World) : Option (Value × World) :=
  match x with
  | .int _ n => match kd P s, kd P t with
    | some _, some k => if inr k n then some (.int k n, w) else none
    | _, _ => none
  | _ => none
theorem sConv_sound {P : Program} {s t : TypeId} {x : Operand} {ty : TypeId} {f : Fr} {w : World} {K : Value → World → Prop}
    (h : B (sConv P s t (ev f x) w) K) : raw P (.convert s t x) ty f w K := by
  unfold B at h
  split at h
  · rename_i u w' hs
    unfold sConv at hs
    split at hs
    · rename_i k0 n hx
      split at hs
      · rename_i k1 k hs1 ht
        split at hs
        · rename_i hi
          simp only [Option.some.injEq, Prod.mk.injEq] at hs
          obtain ⟨rfl, rfl⟩ := hs
          simpa [raw, execOp, convert, hx, run_bind, run_underlying (kd_spec hs1), run_underlying (kd_spec ht), Conv.intToInt, wrap_inr hi, Sem.run, pure, upon] using h
        · simp at hs
      · simp at hs
    · simp at hs
  · exact h.elim
def sMax (x y : Value) (w : World) : Option (Value × World) := match x, y with | .int k a, .int _ b => some (.int k (max a b), w) | _, _ => none
def sMin (x y : Value) (w : World) : Option (Value × World) := match x, y with | .int k a, .int _ b => some (.int k (min a b), w) | _, _ => none
theorem sMax_sound {P : Program} {ts : Array TypeId} {x y : Operand} {ty : TypeId} {f : Fr} {w : World} {K : Value → World → Prop}
    (h : B (sMax (ev f x) (ev f y) w) K) : raw P (.call ⟨.builtin .max, #[x, y], ts⟩) ty f w K := by
  unfold B at h
  split at h
  · rename_i u w' hs
    unfold sMax at hs
    split at hs
    · rename_i k a k' b hx hy
      simp only [Option.some.injEq, Prod.mk.injEq] at hs
      obtain ⟨rfl, rfl⟩ := hs
      have e : (if b > a then b else a) = max a b := by split <;> omega
      simpa [raw, execOp, resolve, invoke, builtin, Builtin.max_, Builtin.max2, hx, hy, run_bind, e, Sem.run, pure, upon] using h
    · simp at hs
  · exact h.elim
theorem sMin_sound {P : Program} {ts : Array TypeId} {x y : Operand} {ty : TypeId} {f : Fr} {w : World} {K : Value → World → Prop}
    (h : B (sMin (ev f x) (ev f y) w) K) : raw P (.call ⟨.builtin .min, #[x, y], ts⟩) ty f w K := by
  unfold B at h
  split at h
  · rename_i u w' hs
    unfold sMin at hs
    split at hs
    · rename_i k a k' b hx hy
      simp only [Option.some.injEq, Prod.mk.injEq] at hs
      obtain ⟨rfl, rfl⟩ := hs
      have e : (if b < a then b else a) = min a b := by split <;> omega
      simpa [raw, execOp, resolve, invoke, builtin, Builtin.min_, Builtin.min2, hx, hy, run_bind, e, Sem.run, pure, upon] using h
    · simp at hs
  · exact h.elim
def sNil (x : Value) (w : World) : Option (Value × World) := match x with | .pointer (some a) => some (.pointer (some a), w) | _ => none
theorem sNil_sound {P : Program} {x : Operand} {ty : TypeId} {f : Fr} {w : World} {K : Value → World → Prop}
    (h : B (sNil (ev f x) w) K) : raw P (.nilCheck x) ty f w K := by
  unfold B at h
  split at h
  · rename_i u w' hs
    unfold sNil at hs
    split at hs
    · rename_i a hx
      simp only [Option.some.injEq, Prod.mk.injEq] at hs
      obtain ⟨rfl, rfl⟩ := hs
      simpa [raw, execOp, hx, Sem.run, pure, upon] using h
    · simp at hs
  · exact h.elim
theorem sPick_sound {P : Program} {c a b : Operand} {ty : TypeId} {f : Fr} {w : World} {K : Value → World → Prop}
    (h : B (sPick (ev f c) (ev f a) (ev f b) w) K) : raw P (.pick c a b) ty f w K := by
  unfold B at h
  split at h
  · rename_i u w' hs
    unfold sPick at hs
    split at hs
    · rename_i t hx
      simp only [Option.some.injEq, Prod.mk.injEq] at hs
      obtain ⟨rfl, rfl⟩ := hs
      simpa [raw, execOp, hx, asBool, run_bind, Sem.run, pure, upon] using h
    · simp at hs
  · exact h.elim
theorem sNot_sound {P : Program} {t : TypeId} {x : Operand} {ty : TypeId} {f : Fr} {w : World} {K : Value → World → Prop}
    (h : B (sNot (ev f x) w) K) : raw P (.unOp .not t x) ty f w K := by
  unfold B at h
  split at h
  · rename_i u w' hs
    unfold sNot at hs
    split at hs
    · rename_i b hx
      simp only [Option.some.injEq, Prod.mk.injEq] at hs
      obtain ⟨rfl, rfl⟩ := hs
      simpa [raw, execOp, hx, Op.unary, run_bind, Sem.run, pure, upon] using h
    · simp at hs
  · exact h.elim
theorem sExtract_sound {P : Program} {x : Operand} {i : Nat} {ty : TypeId} {f : Fr} {w : World} {K : Value → World → Prop}
    (h : B (sExtract (ev f x) i w) K) : raw P (.extract x i) ty f w K := by
  unfold B at h
  split at h
  · rename_i u w' hs
    unfold sExtract at hs
    split at hs
    · rename_i vs hx
      obtain ⟨v, hv, he⟩ := Option.map_eq_some_iff.1 hs
      simp only [Prod.mk.injEq] at he
      obtain ⟨rfl, rfl⟩ := he
      simpa [raw, execOp, hx, Instr.extract, hv, run_bind, Sem.run, pure, upon] using h
    · simp at hs
  · exact h.elim
end Go.W
set_option linter.unusedSimpArgs false
set_option linter.unusedVariables false
namespace Go.W
/-! ### equality -/
def eqInts : List Value → List Value → Option Bool
  | [], [] => some true
  | .int k a :: xs, .int k' b :: ys => if k = k' then (eqInts xs ys).map fun r => decide (a = b) && r else none
  | _, _ => none
def intField (P : Program) (p : Field × Nat) : Bool := p.1.offset == p.2 && p.1.name != "_" && (kd P p.1.type).isSome
/-- a struct type all of whose fields are integers, each in a cell -/
def intStruct (P : Program) (t : TypeId) : Bool :=
  match P.underlying t with
  | some (.struct fs) => fs.toList.zipIdx.all (intField P) && !P.stoodInHeld t && !P.eqGuardType P.depth t
  | some (.array n e) => n == 2 && (kd P e).isSome && szv P e == some 1 && !P.eqGuardType P.depth t
  | _ => false
def fieldCount (P : Program) (t : TypeId) : Nat := match P.underlying t with | some (.struct fs) => fs.size | some (.array n _) => n | _ => 0
def eqFin (op : BinOp) (r : Bool) (w : World) : Option (Value × World) := match op with | .eql => some (.bool r, w) | .neq => some (.bool !r, w) | _ => none
/-- 1: bool, 2: pointer, 3: slice -/
def tag (P : Program) (t : TypeId) : Nat := match P.underlying t with | some .bool => 1 | some (.pointer _) => 2 | some (.slice _) => 3 | _ => 0
theorem tag1 {P : Program} {t : TypeId} (h : tag P t = 1) : P.underlying t = some .bool := by
  unfold tag at h; split at h <;> first | assumption | simp at h
theorem tag2 {P : Program} {t : TypeId} (h : tag P t = 2) : ∃ e, P.underlying t = some (.pointer e) := by
  unfold tag at h; split at h <;> first | exact ⟨_, by assumption⟩ | simp at h
theorem tag3 {P : Program} {t : TypeId} (h : tag P t = 3) : ∃ e, P.underlying t = some (.slice e) := by
  unfold tag at h; split at h <;> first | exact ⟨_, by assumption⟩ | simp at h
def sEq (P : Program) (op : BinOp) (t : TypeId) (x y : Value) (w : World) : Option (Value × World) :=
  match x, y with
  | .bool a, .bool b => if tag P t = 1 then eqFin op (a == b) w else none
  | .pointer a, .pointer none => if tag P t = 2 then eqFin op a.isNone w else none
  | .slice a _ _, .slice none _ _ => if tag P t = 3 then eqFin op a.isNone w else none
  | .agg xs, .agg ys => if intStruct P t = true ∧ xs.size = fieldCount P t ∧ ys.size = fieldCount P t then (eqInts xs.toList ys.toList).bind (eqFin op · w) else none
  | _, _ => none

theorem run_eqFields {P : Program} {w : World} (d : Nat) (xs ys : Array Value) : ∀ (fs : List Field) (i : Nat) (r : Bool), (fs.zipIdx i).all (intField P) = true →
    xs.size = i + fs.length → ys.size = i + fs.length → eqInts (xs.toList.drop i) (ys.toList.drop i) = some r → (Op.eqFields (d + 1) xs ys fs).run P w = .ok r w := by
  intro fs
  induction fs with
  | nil =>
    intro i r _ hx hy h
    simp only [List.length_nil, Nat.add_zero] at hx hy
    rw [List.drop_eq_nil_of_le (by simp; omega), List.drop_eq_nil_of_le (by simp; omega)] at h
    simp only [eqInts, Option.some.injEq] at h
    subst h
    simp [Op.eqFields, Sem.run, pure]
  | cons f fs ih =>
    intro i r hall hx hy h
    simp only [List.length_cons] at hx hy
    simp only [List.zipIdx_cons, List.all_cons, Bool.and_eq_true] at hall
    obtain ⟨hf, hrest⟩ := hall
    simp only [intField, Bool.and_eq_true, beq_iff_eq, bne_iff_ne, ne_eq] at hf
    obtain ⟨⟨ho, hn⟩, hk⟩ := hf
    obtain ⟨k, hk⟩ := Option.isSome_iff_exists.1 hk
    have hxl : i < xs.toList.length := by simp; omega
    have hyl : i < ys.toList.length := by simp; omega
    rw [List.drop_eq_getElem_cons hxl, List.drop_eq_getElem_cons hyl] at h
    have hag : agb P f.type = some false := by simp [agb, kd_spec hk]
    have hxe : xs[i]? = some (xs.toList[i]) := by simp
    have hye : ys[i]? = some (ys.toList[i]) := by simp
    generalize xs.toList[i] = vx at *
    generalize ys.toList[i] = vy at *
    cases vx <;> cases vy <;> simp only [eqInts] at h <;> try (simp at h; done)
    rename_i k1 a k2 b
    split at h
    · rename_i hkk
      subst hkk
      obtain ⟨r', hr', rfl⟩ := Option.map_eq_some_iff.1 h
      have hpx : (part f.type xs f.offset).run P w = .ok (.int k1 a) w := by simp [part, run_bind, run_isAgg hag, ho, hxe, Sem.run, pure]
      have hpy : (part f.type ys f.offset).run P w = .ok (.int k1 b) w := by simp [part, run_bind, run_isAgg hag, ho, hye, Sem.run, pure]
      have heq : (Op.equalIn (d + 1) f.type (.int k1 a) (.int k1 b)).run P w = .ok (a == b) w := run_equalIn_int w d f.type k1 k a b (kd_spec hk)
      have hih := ih (i + 1) r' hrest (by omega) (by omega) hr'
      simp only [Op.eqFields, hn, not_false_eq_true, ne_eq, if_true, run_bind, hpx, hpy, heq]
      by_cases hab : a = b
      · subst hab; simpa using hih
      · simp [hab, Sem.run, pure]
    · simp at h

theorem eqFin_sound {P : Program} {op : BinOp} {t t' ty : TypeId} {x y : Operand} {f : Fr} {vx vy : Value} {r : Bool} {w w' : World} {u : Value} {K : Value → World → Prop}
    (hx : ev f x = vx) (hy : ev f y = vy) (hs : eqFin op r w = some (u, w')) (hg : (eqGuard op t x y vx vy).run P w = .ok () w) (e : (Op.equal t vx vy).run P w = .ok r w)
    (hb : (binOp .eql t vx vy).run P w = ((Op.equal t vx vy) >>= fun b => pure (.bool b)).run P w) (hn : (binOp .neq t vx vy).run P w = ((Op.equal t vx vy) >>= fun b => pure (.bool !b)).run P w)
    (h : K u w') : raw P (.binOp op t x y t') ty f w K := by
  unfold raw
  simp only [execOp, run_bind, hx, hy, hg]
  cases op <;> simp only [eqFin, Option.some.injEq, Prod.mk.injEq] at hs <;> try (simp at hs; done)
  · obtain ⟨rfl, rfl⟩ := hs; simpa [hb, run_bind, e, Sem.run, pure, upon] using h
  · obtain ⟨rfl, rfl⟩ := hs; simpa [hn, run_bind, e, Sem.run, pure, upon] using h
theorem sEq_sound {P : Program} {op : BinOp} {t t' : TypeId} {x y : Operand} {ty : TypeId} {f : Fr} {w : World} {K : Value → World → Prop}
    (h : B (sEq P op t (ev f x) (ev f y) w) K) : raw P (.binOp op t x y t') ty f w K := by
  generalize hvx : ev f x = vx at *
  generalize hvy : ev f y = vy at *
  unfold B at h
  split at h
  · rename_i u w' hs
    unfold sEq at hs
    split at hs
    · split at hs
      · rename_i a b hu
        refine eqFin_sound hvx hvy hs ?_ ?_ ?_ ?_ h
        · cases op <;> rfl
        · unfold Op.equal Op.maxDepth; exact run_equalIn_bool' w 9999 t a b (tag1 hu)
        · rfl
        · rfl
      · simp at hs
    · split at hs
      · rename_i a hu
        obtain ⟨e0, hu⟩ := tag2 hu
        refine eqFin_sound hvx hvy hs ?_ ?_ ?_ ?_ h
        · cases op <;> rfl
        · unfold Op.equal Op.maxDepth Op.equalIn
          simp only [run_bind, run_underlying hu]
          cases a <;> rfl
        · rfl
        · rfl
      · simp at hs
    · split at hs
      · rename_i a n c n' c' hu
        obtain ⟨e0, hu⟩ := tag3 hu
        refine eqFin_sound hvx hvy hs ?_ ?_ ?_ ?_ h
        · cases op <;> rfl
        · unfold Op.equal Op.maxDepth Op.equalIn
          simp only [run_bind, run_underlying hu]
          cases a <;> rfl
        · rfl
        · rfl
      · simp at hs
    · split at hs
      · rename_i xs ys hc
        obtain ⟨hi, hx, hy⟩ := hc
        unfold intStruct at hi
        unfold fieldCount at hx hy
        split at hi
        · rename_i fs hu
          simp only [hu] at hx hy
          simp only [Bool.and_eq_true, Bool.not_eq_true'] at hi
          obtain ⟨⟨hall, hst⟩, hg⟩ := hi
          obtain ⟨r, hr, hfin⟩ := Option.bind_eq_some_iff.1 hs
          have hfo : P.fieldsOf t = fs := by simp [Program.fieldsOf, hu]
          refine eqFin_sound hvx hvy hfin (run_eqGuard_agg w _ t x y xs ys hg) ?_ ?_ ?_ h
          · unfold Op.equal Op.maxDepth
            rw [run_equalIn_struct w 9999 t xs ys (by rw [hfo]; exact hu) hst, hfo]
            exact run_eqFields 9998 xs ys fs.toList 0 r hall (by simpa using hx) (by simpa using hy) (by simpa using hr)
          · rfl
          · rfl
        · rename_i n e hu
          simp only [hu] at hx hy
          simp only [Bool.and_eq_true, Bool.not_eq_true', beq_iff_eq] at hi
          obtain ⟨⟨⟨rfl, hk⟩, hsz⟩, hg⟩ := hi
          obtain ⟨k, hk⟩ := Option.isSome_iff_exists.1 hk
          obtain ⟨r, hr, hfin⟩ := Option.bind_eq_some_iff.1 hs
          refine eqFin_sound hvx hvy hfin (run_eqGuard_agg w _ t x y xs ys hg) ?_ ?_ ?_ h
          · obtain ⟨i, hin, hi1⟩ := Option.map_eq_some_iff.1 hsz
            have hce : P.cellsOf e = 1 := by simp [Program.cellsOf, hin, hi1]
            have hag : agb P e = some false := by simp [agb, kd_spec hk]
            unfold Op.equal Op.maxDepth
            rw [run_equalIn_array w 9999 xs ys hu hin, hce]
            obtain ⟨x0, x1, rfl⟩ : ∃ x0 x1, xs = #[x0, x1] := ⟨xs[0]'(by omega), xs[1]'(by omega), by apply Array.ext <;> simp [hx]; intro i hi1 hi2; rcases (show i = 0 ∨ i = 1 by omega) with rfl | rfl <;> rfl⟩
            obtain ⟨y0, y1, rfl⟩ : ∃ y0 y1, ys = #[y0, y1] := ⟨ys[0]'(by omega), ys[1]'(by omega), by apply Array.ext <;> simp [hy]; intro i hi1 hi2; rcases (show i = 0 ∨ i = 1 by omega) with rfl | rfl <;> rfl⟩
            simp only [] at hr
            cases x0 <;> cases y0 <;> simp only [eqInts] at hr <;> try (simp at hr; done)
            rename_i k1 a0 k2 b0
            split at hr
            · rename_i hk12
              subst hk12
              cases x1 <;> cases y1 <;> simp only [eqInts] at hr <;> try (simp at hr; done)
              rename_i k3 a1 k4 b1
              split at hr
              · rename_i hk34
                subst hk34
                simp only [Option.map_some, Option.some.injEq, Bool.and_true] at hr
                have e0 : (Op.equalIn 9999 e (.int k1 a0) (.int k1 b0)).run P w = .ok (a0 == b0) w := run_equalIn_int w 9998 e k1 k a0 b0 (kd_spec hk)
                have e1 : (Op.equalIn 9999 e (.int k3 a1) (.int k3 b1)).run P w = .ok (a1 == b1) w := run_equalIn_int w 9998 e k3 k a1 b1 (kd_spec hk)
                have p0 : ∀ u v : Value, (part e #[u, v] 0).run P w = .ok u w := fun u v => by simp [part, run_bind, run_isAgg hag, Sem.run, pure]
                have p1 : ∀ u v : Value, (part e #[u, v] 1).run P w = .ok v w := fun u v => by simp [part, run_bind, run_isAgg hag, Sem.run, pure]
                have hl : List.range 2 = [0, 1] := rfl
                rw [hl]
                simp only [Op.eqItems, run_bind, Nat.mul_one, p0, p1, e0, e1]
                rw [← hr]
                by_cases h0 : a0 = b0
                · subst h0
                  by_cases h1 : a1 = b1
                  · subst h1; simp [p1, e1, Result.andThen]
                  · simp [h1, p1, e1, Result.andThen]
                · simp [h0]
              · simp at hr
            · simp at hr
          · rfl
          · rfl
        · simp at hi
      · simp at hs
    · simp at hs
  · exact h.elim
/-- a binary operation -/
def sBin (P : Program) (op : BinOp) (t : TypeId) (x y : Value) (w : World) : Option (Value × World) :=
  match x, y with
  | .int _ _, .int _ _ => sInt op x y w
  | _, _ => sEq P op t x y w
theorem sBin_sound {P : Program} {op : BinOp} {t t' : TypeId} {x y : Operand} {ty : TypeId} {f : Fr} {w : World} {K : Value → World → Prop}
    (h : B (sBin P op t (ev f x) (ev f y) w) K) : raw P (.binOp op t x y t') ty f w K := by
  by_cases hi : ∃ k a k' b, ev f x = .int k a ∧ ev f y = .int k' b
  · obtain ⟨k, a, k', b, hx, hy⟩ := hi
    refine sInt_sound ?_
    rw [hx, hy] at h ⊢
    exact h
  · refine sEq_sound ?_
    have : sBin P op t (ev f x) (ev f y) w = sEq P op t (ev f x) (ev f y) w := by
      unfold sBin
      split
      · rename_i h1 h2; exact (hi ⟨_, _, _, _, h1, h2⟩).elim
      · rfl
    rw [this] at h
    exact h
end Go.W
set_option linter.unusedSimpArgs false
set_option linter.unusedVariables false
namespace Go.W
def enters (P : Program) (g : Nat) : Bool := match P.funcs[g]? with | some fn => fn.body.isSome && !(fn.name == "runtime.NumGoroutine") | none => false
/-- the call returns, and what it returns and leaves meets Φ -/
def Ret (P : Program) (g : Nat) (args : Array Value) (w : World) (Φ : Value → World → Prop) : Prop :=
  enters P g = true ∧ Calls P g args w fun e w' => ∃ v, e = .returned v ∧ Φ v w'
theorem Ret.mono {P : Program} {g : Nat} {args : Array Value} {w : World} {Φ Ψ : Value → World → Prop} (h : Ret P g args w Φ) (hm : ∀ v w', Φ v w' → Ψ v w') : Ret P g args w Ψ :=
  ⟨h.1, h.2.mono fun _ _ ⟨v, e, hv⟩ => ⟨v, e, hm _ _ hv⟩⟩

def callW (P : Program) (c : Call) (ty : TypeId) (f : Fr) (w : World) (K : Value → World → Prop) : Prop :=
  match c with
  | ⟨.builtin b, as, ts⟩ => match b, as.toList, ts.toList with
    | .len, [x], [t] => B (sLen P t (ev f x) w) K
    | .max, [x, y], _ => B (sMax (ev f x) (ev f y) w) K
    | .min, [x, y], _ => B (sMin (ev f x) (ev f y) w) K
    | _, _, _ => raw P (.call c) ty f w K
  | ⟨.value (.func g), as, _⟩ => Ret P g (as.map (ev f)) w K
  | c => raw P (.call c) ty f w K
def opW (P : Program) (op : Op) (ty : TypeId) (f : Fr) (w : World) (K : Value → World → Prop) : Prop :=
  match op with
  | .move x => K (ev f x) w
  | .assign x => K (ev f x) w
  | .pick c a b => B (sPick (ev f c) (ev f a) (ev f b) w) K
  | .alloc t => B (sAlloc P t w) K
  | .box t x => B (sBox t (ev f x) w) K
  | .build t ps => B (sBuild P t (ps.toList.map fun p => (p.1, ev f p.2)) w) K
  | .buildSlice t n ps => sBuildSliceOk P t = true ∧ B (sBuildSlice P t n (ps.toList.map fun p => (p.1, ev f p.2)) w) K
  | .load t x => B (sLoad P t (ev f x) w) K
  | .store t x v => B (sStore P t (ev f x) (ev f v) w) K
  | .nilCheck x => B (sNil (ev f x) w) K
  | .binOp o t x y _ => B (sBin P o t (ev f x) (ev f y) w) K
  | .convert s t x => B (sConv P s t (ev f x) w) K
  | .fieldAddr s x k => B (sFieldAddr P s (ev f x) k w) K
  | .field s x k => B (sField P s (ev f x) k w) K
  | .indexAddr t x i => B (sIndexAddr P t (ev f x) (ev f i) w) K
  | .extract x i => B (sExtract (ev f x) i w) K
  | .unOp .not _ x => B (sNot (ev f x) w) K
  | .makeMap _ none => B (sMakeMap w) K
  | .makeSlice t l c => B (sMakeSlice P t (ev f l) (ev f c) w) K
  | .slice t x lo hi none => B (sSlice P t (ev f x) (lo.map (ev f)) (hi.map (ev f)) w) K
  | .call c => callW P c ty f w K
  | op => raw P op ty f w K

theorem run_callFunc {P : Program} {g : Nat} (h : enters P g = true) (args : Array Value) (w : World) : (callFunc g args).run P w = .ok (.enter g args) w := by
  unfold enters at h
  split at h
  · rename_i fn hf
    simp only [Bool.and_eq_true, Bool.not_eq_true'] at h
    have hb : fn.body.isNone = false := by cases hc : fn.body <;> simp_all
    simp only [callFunc, program, run_bind, Sem.run, hf, h.2, hb, pure, Bool.false_eq_true, if_false]
  · simp at h
theorem callW_sound {P : Program} {c : Call} {ty : TypeId} {f : Fr} {w : World} {K : Value → World → Prop} (h : callW P c ty f w K) : raw P (.call c) ty f w K := by
  unfold callW at h
  split at h
  · rename_i b as ts
    split at h
    · rename_i x t h1 h2
      obtain rfl : as = #[x] := by apply Array.ext'; simpa using h1
      obtain rfl : ts = #[t] := by apply Array.ext'; simpa using h2
      exact sLen_sound h
    · rename_i x y h1
      obtain rfl : as = #[x, y] := by apply Array.ext'; simpa using h1
      exact sMax_sound h
    · rename_i x y h1
      obtain rfl : as = #[x, y] := by apply Array.ext'; simpa using h1
      exact sMin_sound h
    · exact h
  · rename_i g as ts
    obtain ⟨h1, h2⟩ := h
    have e : (invoke (.fn (.func g) #[]) (as.map (ev f))).run P w = .ok (.enter g (as.map (ev f))) w := by
      simp [invoke, run_callFunc h1]
    simp only [raw, execOp, resolve, ev, Deferred.ofValue, run_bind, Sem.run, pure, Array.empty_append, e, upon]
    exact h2
  · exact h
theorem opW_sound {P : Program} {op : Op} {ty : TypeId} {f : Fr} {w : World} {K : Value → World → Prop} (h : opW P op ty f w K) : raw P op ty f w K := by
  unfold opW at h
  split at h
  · simpa [raw, execOp, Sem.run, pure, upon] using h
  · simpa [raw, execOp, Sem.run, pure, upon] using h
  · exact sPick_sound h
  · exact sAlloc_sound h
  · exact sBox_sound h
  · exact sBuild_sound h
  · exact sBuildSlice_sound h.1 h.2
  · exact sLoad_sound h
  · exact sStore_sound h
  · exact sNil_sound h
  · exact sBin_sound h
  · exact sConv_sound h
  · exact sFieldAddr_sound h
  · exact sField_sound h
  · exact sIndexAddr_sound h
  · exact sExtract_sound h
  · exact sNot_sound h
  · exact sMakeMap_sound h
  · exact sMakeSlice_sound h
  · exact sSlice_sound h
  · exact callW_sound h
  · exact h
theorem upon_mono {P : Program} {K K' : Value → World → Prop} (hm : ∀ v w, K v w → K' v w) {r : Result Next} (h : upon P K r) : upon P K' r := by
  cases r with
  | halt x w' => cases x <;> simp [upon] at h
  | ok nx w' =>
    cases nx with
    | value v => exact hm _ _ h
    | skip => exact hm _ _ h
    | enter g args => exact Calls.mono h fun e w'' ⟨v, he, hk⟩ => ⟨v, he, hm _ _ hk⟩
    | _ => simp [upon] at h
theorem raw_mono {P : Program} {op : Op} {ty : TypeId} {f : Fr} {w : World} {K K' : Value → World → Prop} (hm : ∀ v w, K v w → K' v w) (h : raw P op ty f w K) : raw P op ty f w K' := upon_mono hm h

/-! ### guards -/
/-- the value that a guard looks at -/
def gv (f : Fr) : List Oper → Nat → Value
  | [], _ => undef
  | o :: _, 0 => match o.dst with | some t => f t | none => undef
  | _ :: l, n + 1 => gv f l n
def G (v : Value) (want : Bool) (A B : Prop) : Prop :=
  match v with
  | .bool b => (b = want → A) ∧ (b ≠ want → B)
  | _ => B
theorem G_tt (A B : Prop) : G (.bool true) true A B = A := by simp [G]
theorem G_tf (A B : Prop) : G (.bool true) false A B = B := by simp [G]
theorem G_ft (A B : Prop) : G (.bool false) true A B = B := by simp [G]
theorem G_ff (A B : Prop) : G (.bool false) false A B = A := by simp [G]
theorem G_intro {b want : Bool} {A B : Prop} (h1 : b = want → A) (h2 : b = !want → B) : G (.bool b) want A B := by
  refine ⟨h1, fun h => h2 ?_⟩
  cases b <;> cases want <;> simp_all

/-- a chain of operations, in the order of the text; 'all' is the whole region, at which the guards look -/
def X (P : Program) (all : List Oper) : List Oper → (Fr → World → Prop) → Fr → World → Prop
  | [], K, f, w => K f w
  | o :: rest, K, f, w =>
    match o.guard with
    | none => opW P o.op o.type f w fun v w' => X P all rest K (updO f o.dst v) w'
    | some (j, want) => G (gv f all j) want (opW P o.op o.type f w fun v w' => X P all rest K (updO f o.dst v) w') (X P all rest K (updO f o.dst undef) w)
theorem X_nil (P : Program) (all : List Oper) (K : Fr → World → Prop) (f : Fr) (w : World) : X P all [] K f w = K f w := rfl
theorem X_op0 (P : Program) (all rest : List Oper) (d : Option Nat) (op : Op) (ty : TypeId) (pos : String) (af : Array Edge) (K : Fr → World → Prop) (f : Fr) (w : World) :
    X P all (⟨d, op, ty, pos, af, none⟩ :: rest) K f w = opW P op ty f w fun v w' => X P all rest K (updO f d v) w' := rfl
theorem X_gd0 (P : Program) (all rest : List Oper) (d : Option Nat) (op : Op) (ty : TypeId) (pos : String) (af : Array Edge) (j : Nat) (want : Bool) (K : Fr → World → Prop) (f : Fr) (w : World) :
    X P all (⟨d, op, ty, pos, af, some (j, want)⟩ :: rest) K f w = G (gv f all j) want (opW P op ty f w fun v w' => X P all rest K (updO f d v) w') (X P all rest K (updO f d undef) w) := rfl

theorem gv_spec {n : Nat} {f : Fr} {a : Act} (hF : FRel n f a) : ∀ (all : List Oper) (j : Nat), (∀ o ∈ all, operFits n o = true) → ∀ b, (yielded all.toArray a.tmps j = some b ↔ gv f all j = .bool b) := by
  intro all
  induction all with
  | nil => intro j _ b; simp [yielded, gv, undef]
  | cons o l ih =>
    intro j hall b
    cases j with
    | zero =>
      simp only [yielded, gv, List.getElem?_toArray, List.getElem?_cons_zero, Option.bind_some]
      cases hd : o.dst with
      | none => simp [undef]
      | some t =>
        have ht := (operFits_spec (hall o (by simp))).2.2 t hd
        simp only [Option.bind_some, hF.2.2 t ht]
        split
        · rename_i b' he; simp only [Option.some.injEq] at he; simp [he]
        · rename_i hne
          constructor
          · intro h; simp at h
          · intro h; exact (hne b (by rw [h])).elim
    | succ j =>
      have := ih j (fun o ho => hall o (by simp [ho])) b
      simpa [yielded, gv] using this

theorem X_sound {P : Program} {n : Nat} {all : List Oper} {Q : Exit → Act → World → Prop} {K : Fr → World → Prop} (hall : ∀ o ∈ all, operFits n o = true)
    (hQ : ∀ f a w, FRel n f a → K f w → Q .normal a w) : ∀ (l : List Oper), (∀ o ∈ l, operFits n o = true) → ∀ (f : Fr) (a : Act) (w : World), FRel n f a → X P all l K f w → wpList P all.toArray Q l a w := by
  intro l
  induction l with
  | nil => intro _ f a w hF h; exact hQ f a w hF h
  | cons o rest ih =>
    intro hl f a w hF h
    have ho := hl o (by simp)
    have hrest := ih (fun o h => hl o (by simp [h]))
    obtain ⟨_, _, hd⟩ := operFits_spec ho
    have main : opW P o.op o.type f w (fun v w' => X P all rest K (updO f o.dst v) w') → ∀ (Kc : Act → World → Prop), (∀ a w, wpList P all.toArray Q rest a w → Kc a w) → o.wp P a w Kc Q := by
      intro hop Kc hKc
      exact raw_sound hF ho (opW_sound hop) fun v w' hx => hKc _ _ (hrest _ _ _ (hF.put hd v) hx)
    cases hg : o.guard with
    | none =>
      simp only [X, hg] at h
      exact wpList_plain hg fun Kc hKc => main h Kc hKc
    | some gw =>
      obtain ⟨j, want⟩ := gw
      simp only [X, hg] at h
      refine wpList_step fun Kc hKc => ?_
      have hy := gv_spec hF all j hall
      unfold G at h
      split at h
      · rename_i b hb
        have hyb : yielded all.toArray a.tmps j = some b := (hy b).2 hb
        by_cases hbw : b = want
        · have : Region.wanted o (yielded all.toArray a.tmps) = true := by simp [Region.wanted, hg, hyb, hbw]
          rw [if_pos this]
          exact main (h.1 hbw) Kc hKc
        · have : ¬ Region.wanted o (yielded all.toArray a.tmps) = true := by simp [Region.wanted, hg, hyb, hbw]
          rw [if_neg this]
          exact hKc _ _ (hrest _ _ _ (hF.put hd undef) (h.2 hbw))
      · rename_i hne
        have : ¬ Region.wanted o (yielded all.toArray a.tmps) = true := by
          simp only [Region.wanted, hg, beq_iff_eq]
          intro e
          exact hne _ ((hy want).1 e)
        rw [if_neg this]
        exact hKc _ _ (hrest _ _ _ (hF.put hd undef) h)
end Go.W
set_option linter.unusedSimpArgs false
set_option linter.unusedVariables false
namespace Go.W
open Go.RowKit
/-- nothing that was there has changed -/
structure Ext (w w' : World) : Prop where
  os : w'.os = w.os
  tape : w'.tape = w.tape
  output : w'.output = w.output
  size : w.heap.size ≤ w'.heap.size
  get : ∀ b, b < w.heap.size → w'.heap[b]? = w.heap[b]?
theorem Ext.refl (w : World) : Ext w w := ⟨rfl, rfl, rfl, Nat.le_refl _, fun _ _ => rfl⟩
theorem Ext.trans {a b c : World} (h : Ext a b) (k : Ext b c) : Ext a c :=
  ⟨k.os.trans h.os, k.tape.trans h.tape, k.output.trans h.output, Nat.le_trans h.size k.size, fun i hi => (k.get i (Nat.lt_of_lt_of_le hi h.size)).trans (h.get i hi)⟩
theorem Ext.alloc {a w : World} (h : Ext a w) (o : Obj) : Ext a (w.alloc o) :=
  h.trans ⟨rfl, rfl, rfl, by simp, fun k hk => alloc_get_lt hk o⟩
theorem Ext.putb {a w : World} (h : Ext a w) {b : Nat} (hb : a.heap.size ≤ b) (o : Obj) : Ext a (w.putb b o) :=
  ⟨h.os, h.tape, h.output, by rw [putb_size]; exact h.size, fun k hk => (putb_get_ne (by omega) o).trans (h.get k hk)⟩
theorem Ext.drew {a w : World} (h : Ext a w) : Ext a w.drew := ⟨h.os, h.tape, h.output, h.size, h.get⟩
theorem Ext.obj {w w' : World} (h : Ext w w') {b : Nat} {o : Obj} (hb : w.heap[b]? = some o) : w'.heap[b]? = some o := (h.get b (get_lt hb)).trans hb
theorem Ext.lt {w w' : World} (h : Ext w w') {b : Nat} (hb : b < w.heap.size) : b < w'.heap.size := Nat.lt_of_lt_of_le hb h.size
theorem Ext.cell {w w' : World} (h : Ext w w') {a : Addr} {v : Value} (hc : w.cell? a = some v) : w'.cell? a = some v := by
  rw [World.cell?_of_block (h.get a.block (World.block_lt_of_cell? w a hc))]; exact hc
theorem Ext.below {w w' : World} (h : Ext w w') : Below w.heap.size w w' := ⟨h.os, h.tape, h.output, h.size, h.get⟩
theorem Ext.of_below {w w' : World} (h : Below w.heap.size w w') : Ext w w' := ⟨h.os, h.tape, h.output, h.size, h.block⟩

/-- what an operation that only reads comes to, in a fixed world -/
def rdW (P : Program) (op : Op) (f : Fr) (w : World) : Option (Value × World) :=
  match op with
  | .move x => some (ev f x, w)
  | .assign x => some (ev f x, w)
  | .pick c a b => sPick (ev f c) (ev f a) (ev f b) w
  | .build t ps => sBuild P t (ps.toList.map fun p => (p.1, ev f p.2)) w
  | .load t x => sLoad P t (ev f x) w
  | .nilCheck x => sNil (ev f x) w
  | .binOp o t x y _ => sBin P o t (ev f x) (ev f y) w
  | .convert s t x => sConv P s t (ev f x) w
  | .fieldAddr s x k => sFieldAddr P s (ev f x) k w
  | .field s x k => sField P s (ev f x) k w
  | .indexAddr t x i => sIndexAddr P t (ev f x) (ev f i) w
  | .extract x i => sExtract (ev f x) i w
  | .unOp .not _ x => sNot (ev f x) w
  | .slice t x lo hi none => sSlice P t (ev f x) (lo.map (ev f)) (hi.map (ev f)) w
  | .call ⟨.builtin b, as, ts⟩ => match b, as.toList, ts.toList with
    | .len, [x], [t] => sLen P t (ev f x) w
    | .max, [x, y], _ => sMax (ev f x) (ev f y) w
    | .min, [x, y], _ => sMin (ev f x) (ev f y) w
    | _, _, _ => none
  | _ => none
theorem rdW_opW {P : Program} {op : Op} {ty : TypeId} {f : Fr} {w w' : World} {v : Value} {K : Value → World → Prop} (h : rdW P op f w = some (v, w')) (hk : K v w') : opW P op ty f w K := by
  unfold rdW at h
  split at h
  all_goals first
    | (simp only [Option.some.injEq, Prod.mk.injEq] at h; obtain ⟨rfl, rfl⟩ := h; exact hk)
    | (show B _ K; rw [h]; exact hk)
    | skip
  · rename_i b as ts
    split at h
    · rename_i x t h1 h2
      obtain rfl : as = #[x] := by apply Array.ext'; simpa using h1
      obtain rfl : ts = #[t] := by apply Array.ext'; simpa using h2
      show B _ K; rw [h]; exact hk
    · rename_i x y h1
      obtain rfl : as = #[x, y] := by apply Array.ext'; simpa using h1
      show B _ K; rw [h]; exact hk
    · rename_i x y h1
      obtain rfl : as = #[x, y] := by apply Array.ext'; simpa using h1
      show B _ K; rw [h]; exact hk
    · simp at h
  · simp at h
theorem rd_ext {w w2 : World} (hE : Ext w w2) {a : Addr} {n : Nat} {cs : Array Value} (h : rd w a n = some cs) : rd w2 a n = some cs := by
  unfold rd at h ⊢
  split at h
  · rename_i c t fz hb
    rw [hE.obj hb]; exact h
  · simp at h
theorem sLoad_ext {P : Program} {t : TypeId} {x v : Value} {w w' w2 : World} (hE : Ext w w2) (h : sLoad P t x w = some (v, w')) : sLoad P t x w2 = some (v, w2) := by
  unfold sLoad at h ⊢
  split at h
  · rename_i a
    split at h
    · rename_i hb
      split at h
      · rename_i n hn
        obtain ⟨cs, hcs, he⟩ := Option.map_eq_some_iff.1 h
        simp only [Prod.mk.injEq] at he
        simp only [rd_ext hE hcs, Option.map_some, he.1]
      · simp at h
    · rename_i hb
      obtain ⟨u, hu, he⟩ := Option.map_eq_some_iff.1 h
      simp only [Prod.mk.injEq] at he
      simp only [hE.cell hu, Option.map_some, he.1]
    · simp at h
  · simp at h
theorem sLen_ext {P : Program} {t : TypeId} {x v : Value} {w w' w2 : World} (hE : Ext w w2) (h : sLen P t x w = some (v, w')) : sLen P t x w2 = some (v, w2) := by
  unfold sLen at h ⊢
  split at h
  · split at h
    · rename_i hc; simp only [hc, if_true]; simp only [Option.some.injEq, Prod.mk.injEq] at h; simp [h.1]
    · simp at h
  · split at h
    · rename_i hc; simp only [hc, if_true]; simp only [Option.some.injEq, Prod.mk.injEq] at h; simp [h.1]
    · simp at h
  · split at h
    · rename_i es c hr
      simp only [hE.obj hr]
      split at h
      · rename_i hc; simp only [hc, if_true]; simp only [Option.some.injEq, Prod.mk.injEq] at h; simp [h.1]
      · simp at h
    · simp at h
  · simp at h
theorem map_fst_ext {α : Type} {r : Option α} {g : α → Value} {v : Value} {w w' w2 : World} (h : (r.map fun a => (g a, w)) = some (v, w')) : (r.map fun a => (g a, w2)) = some (v, w2) := by
  obtain ⟨a, ha, he⟩ := Option.map_eq_some_iff.1 h
  simp only [Prod.mk.injEq] at he
  simp [ha, he.1]
theorem sBin_ext {P : Program} {o : BinOp} {t : TypeId} {x y v : Value} {w w' w2 : World} (h : sBin P o t x y w = some (v, w')) : sBin P o t x y w2 = some (v, w2) := by
  unfold sBin at h ⊢
  split at h
  · rename_i k a k' b
    simp only [sInt] at h ⊢
    split at h
    · rename_i hk
      subst hk
      simp only [if_true]
      cases o <;> simp only [] at h ⊢ <;>
        first
        | (split at h
           · rename_i hc; simp only [hc, and_self, if_true]; simp only [Option.some.injEq, Prod.mk.injEq] at h; simp [h.1]
           · simp at h)
        | (simp only [Option.some.injEq, Prod.mk.injEq] at h; obtain ⟨rfl, _⟩ := h; rfl)
        | (simp at h; done)
    · simp at h
  · rename_i hni
    have e1 : ∀ (r : Bool) (v : Value) (w w' w2 : World), eqFin o r w = some (v, w') → eqFin o r w2 = some (v, w2) := by
      intro r v w w' w2 h
      cases o <;> simp only [eqFin, Option.some.injEq, Prod.mk.injEq] at h ⊢ <;> first | exact ⟨h.1, trivial⟩ | (simp at h; done)
    unfold sEq at h ⊢
    split at h
    · split at h
      · rename_i hc; simp only [hc, if_true]; exact e1 _ _ _ _ _ h
      · simp at h
    · split at h
      · rename_i hc; simp only [hc, if_true]; exact e1 _ _ _ _ _ h
      · simp at h
    · split at h
      · rename_i hc; simp only [hc, if_true]; exact e1 _ _ _ _ _ h
      · simp at h
    · split at h
      · rename_i hc
        simp only [hc, and_self, if_true]
        obtain ⟨r, hr, hf⟩ := Option.bind_eq_some_iff.1 h
        rw [hr]
        exact e1 _ _ _ _ _ hf
      · simp at h
    · simp at h
theorem rdW_ext {P : Program} {op : Op} {f : Fr} {w w' w2 : World} {v : Value} (hE : Ext w w2) (h : rdW P op f w = some (v, w')) : rdW P op f w2 = some (v, w2) := by
  unfold rdW at h ⊢
  split at h
  · simp only [Option.some.injEq, Prod.mk.injEq] at h; simp [h.1]
  · simp only [Option.some.injEq, Prod.mk.injEq] at h; simp [h.1]
  · unfold sPick at h ⊢; split at h
    · simp only [Option.some.injEq, Prod.mk.injEq] at h; simp [h.1]
    · simp at h
  · unfold sBuild at h ⊢; split at h
    · exact map_fst_ext h
    · simp at h
  · exact sLoad_ext hE h
  · unfold sNil at h ⊢; split at h
    · simp only [Option.some.injEq, Prod.mk.injEq] at h; simp [h.1]
    · simp at h
  · exact sBin_ext h
  · unfold sConv at h ⊢; split at h
    · split at h
      · split at h
        · rename_i hc; simp only [hc, if_true]; simp only [Option.some.injEq, Prod.mk.injEq] at h; simp [h.1]
        · simp at h
      · simp at h
    · simp at h
  · unfold sFieldAddr at h ⊢; split at h
    · exact map_fst_ext (g := fun o : Nat × Nat × Bool => _) h
    · simp at h
  · unfold sField at h ⊢; split at h
    · split at h
      · simp only [Option.some.injEq, Prod.mk.injEq] at h; simp [h.1]
      · exact map_fst_ext (g := fun x : Value => x) h
      · simp at h
    · simp at h
  · unfold sIndexAddr at h ⊢; split at h
    · split at h
      · split at h
        · rename_i hc; simp only [hc, and_self, if_true]; simp only [Option.some.injEq, Prod.mk.injEq] at h; simp [h.1]
        · simp at h
      · simp at h
    · split at h
      · split at h
        · rename_i hc; simp only [hc, and_self, if_true]; simp only [Option.some.injEq, Prod.mk.injEq] at h; simp [h.1]
        · simp at h
      · simp at h
    · simp at h
  · unfold sExtract at h ⊢; split at h
    · exact map_fst_ext (g := fun x : Value => x) h
    · simp at h
  · unfold sNot at h ⊢; split at h
    · simp only [Option.some.injEq, Prod.mk.injEq] at h; simp [h.1]
    · simp at h
  · unfold sSlice at h ⊢; split at h
    · split at h
      · split at h
        · split at h
          · simp only [Option.some.injEq, Prod.mk.injEq] at h; simp_all
          · simp at h
        · simp at h
      · simp at h
    · simp at h
  · split at h
    · exact sLen_ext hE h
    · unfold sMax at h ⊢; split at h
      · simp only [Option.some.injEq, Prod.mk.injEq] at h; simp [h.1]
      · simp at h
    · unfold sMin at h ⊢; split at h
      · simp only [Option.some.injEq, Prod.mk.injEq] at h; simp [h.1]
      · simp at h
    · simp at h
  · simp at h
theorem rdW_world {P : Program} {op : Op} {f : Fr} {w w' : World} {v : Value} (h : rdW P op f w = some (v, w')) : w' = w := by
  have := rdW_ext (Ext.refl w) h
  rw [h] at this
  simpa using this

/-- one operation of such a region, in any world that has grown out of w1 -/
def opQ (P : Program) (w1 : World) (op : Op) (f : Fr) (v : Value) : Prop :=
  match op with
  | .lookup t x i ok => ∀ w, Ext w1 w → (Instr.lookup t (ev f x) (ev f i) ok).run P w = .ok v w
  | .call ⟨.value (.func g), as, _⟩ => ∀ w, Ext w1 w → Ret P g (as.map (ev f)) w fun u w' => u = v ∧ Ext w w'
  | op => (rdW P op f w1).map (·.1) = some v
def XQ (P : Program) (all : List Oper) (w1 : World) : List Oper → (Fr → Prop) → Fr → Prop
  | [], K, f => K f
  | o :: rest, K, f =>
    match o.guard with
    | none => ∃ v, opQ P w1 o.op f v ∧ XQ P all w1 rest K (updO f o.dst v)
    | some (j, want) => G (gv f all j) want (∃ v, opQ P w1 o.op f v ∧ XQ P all w1 rest K (updO f o.dst v)) (XQ P all w1 rest K (updO f o.dst undef))

theorem notEnter {P : Program} {w w' : World} {g : Nat} {args : Array Value} (s : Sem Value) : (s >>= fun a => pure (Next.value a)).run P w ≠ .ok (.enter g args) w' := by
  rw [run_bind]
  cases s.run P w with
  | ok a w1 => intro h; simp [Sem.run, pure] at h
  | halt h w1 => intro h; simp at h
theorem rdW_notEnter {P : Program} {op : Op} {ty : TypeId} {f : Fr} {w w1 w' : World} {g : Nat} {args : Array Value} {r : Value × World} (h : rdW P op f w1 = some r) :
    (execOp (ev f) ⟨none, op, ty, "", #[], none⟩).run P w ≠ .ok (.enter g args) w' := by
  unfold rdW at h
  split at h
  case h_1 => simp [execOp, Sem.run, pure]
  case h_2 => simp [execOp, Sem.run, pure]
  case h_3 =>
    intro e
    unfold sPick at h
    split at h
    · rename_i hc; simp [execOp, hc, asBool, run_bind, Sem.run, pure] at e
    · simp at h
  case h_6 =>
    intro e
    unfold sNil at h
    split at h
    · rename_i hc; simp [execOp, hc, Sem.run, pure] at e
    · simp at h
  case h_15 =>
    rename_i b as ts
    split at h
    · intro e
      simp only [execOp, resolve, invoke, builtin, run_bind, Sem.run, pure] at e
      exact notEnter _ (by rw [run_bind]; exact e)
    · intro e
      simp only [execOp, resolve, invoke, builtin, run_bind, Sem.run, pure] at e
      exact notEnter _ (by rw [run_bind]; exact e)
    · intro e
      simp only [execOp, resolve, invoke, builtin, run_bind, Sem.run, pure] at e
      exact notEnter _ (by rw [run_bind]; exact e)
    · simp at h
  case h_16 => simp at h
  all_goals exact notEnter _
theorem opQ_quiet {P : Program} {n : Nat} {f : Fr} {a : Act} {o : Oper} {w1 : World} {v : Value} (hF : FRel n f a) (hfit : operFits n o = true) (h : opQ P w1 o.op f v) (w : World) (hE : Ext w1 w) : o.quietAt P a (Ext w1) w v := by
  obtain ⟨hs, hx, _⟩ := operFits_spec hfit
  have he : execOp a.eval o = execOp (ev f) o := execOp_congr o hs fun x hm => hF.eval (hx x hm)
  unfold Oper.quietAt
  rw [he, execOp_only]
  have main : ∀ op, (rdW P op f w1).map (·.1) = some v → Oper.quietUpon P (Ext w1) w v ((execOp (ev f) ⟨none, op, o.type, "", #[], none⟩).run P w) := by
    intro op hr0
    obtain ⟨⟨v', w'⟩, hr, rfl⟩ := Option.map_eq_some_iff.1 hr0
    have h2 := rdW_ext hE hr
    have h3 : raw P op o.type f w (fun u w' => u = v' ∧ w' = w) := opW_sound (rdW_opW (ty := o.type) h2 ⟨rfl, rfl⟩)
    have h4 := fun g args w' => rdW_notEnter (ty := o.type) (w := w) (w' := w') (g := g) (args := args) hr
    unfold raw at h3
    generalize (execOp (ev f) ⟨none, op, o.type, "", #[], none⟩).run P w = r at h3 h4 ⊢
    cases r with
    | halt x w' => cases x <;> simp [upon] at h3
    | ok nx w' =>
      cases nx with
      | value u => exact ⟨h3.2, h3.1⟩
      | skip => exact ⟨h3.2, h3.1.symm⟩
      | enter g args => exact (h4 g args w' rfl).elim
      | _ => simp [upon] at h3
  generalize o.op = op at h
  unfold opQ at h
  split at h
  · rename_i t x i ok
    have := h w hE
    simp only [execOp, run_bind, this, Sem.run, pure]
    exact ⟨rfl, rfl⟩
  · rename_i g as ts
    obtain ⟨h1, h2⟩ := h w hE
    have e : (invoke (.fn (.func g) #[]) (as.map (ev f))).run P w = .ok (.enter g (as.map (ev f))) w := by
      simp [invoke, run_callFunc h1]
    simp only [execOp, resolve, ev, Deferred.ofValue, run_bind, Sem.run, pure, Array.empty_append, e]
    refine ⟨rfl, h2.mono ?_⟩
    rintro e w' ⟨u, rfl, rfl, hE'⟩
    exact ⟨rfl, hE.trans hE'⟩
  · exact main op h

theorem XQ_sound {P : Program} {n : Nat} {all : List Oper} {w1 : World} {Q : Act → Prop} {K : Fr → Prop} (hall : ∀ o ∈ all, operFits n o = true)
    (hQ : ∀ f a, FRel n f a → K f → Q a) : ∀ (l : List Oper), (∀ o ∈ l, operFits n o = true) → ∀ (f : Fr) (a : Act), FRel n f a → XQ P all w1 l K f → wpQuiet P all.toArray (Ext w1) Q l a := by
  intro l
  induction l with
  | nil => intro _ f a hF h; exact hQ f a hF h
  | cons o rest ih =>
    intro hl f a hF h
    have ho := hl o (by simp)
    have hrest := ih (fun o h => hl o (by simp [h]))
    obtain ⟨_, _, hd⟩ := operFits_spec ho
    have main : (∃ v, opQ P w1 o.op f v ∧ XQ P all w1 rest K (updO f o.dst v)) → o.quiet P a (Ext w1) (wpQuiet P all.toArray (Ext w1) Q rest) := by
      rintro ⟨v, hv, hx⟩
      exact ⟨v, fun w hE => opQ_quiet hF ho hv w hE, hrest _ _ (hF.put hd v) hx⟩
    unfold wpQuiet
    cases hg : o.guard with
    | none =>
      simp only [XQ, hg] at h
      rw [if_pos (by simp [Region.wanted, hg])]
      exact main h
    | some gw =>
      obtain ⟨j, want⟩ := gw
      simp only [XQ, hg] at h
      have hy := gv_spec hF all j hall
      unfold G at h
      split at h
      · rename_i b hb
        have hyb : yielded all.toArray a.tmps j = some b := (hy b).2 hb
        by_cases hbw : b = want
        · rw [if_pos (by simp [Region.wanted, hg, hyb, hbw])]
          exact main (h.1 hbw)
        · rw [if_neg (by simp [Region.wanted, hg, hyb, hbw])]
          exact hrest _ _ (hF.put hd undef) (h.2 hbw)
      · rename_i hne
        rw [if_neg (by
          simp only [Region.wanted, hg, beq_iff_eq]
          intro e
          exact hne _ ((hy want).1 e))]
        exact hrest _ _ (hF.put hd undef) h
end Go.W
set_option linter.unusedSimpArgs false
set_option linter.unusedVariables false
namespace Go.W
def thenQ (next : Fr → World → Prop) (Q : Exit → Fr → World → Prop) : Exit → Fr → World → Prop
  | .normal, f, w => next f w
  | e, f, w => Q e f w
def inBlk (id : Nat) (Q : Exit → Fr → World → Prop) : Exit → Fr → World → Prop
  | .exit id', f, w => if id' = id then Q .normal f w else Q (.exit id') f w
  | e, f, w => Q e f w
def condP (v : Value) (A B : Prop) : Prop :=
  match v with
  | .bool b => (b = true → A) ∧ (b = false → B)
  | _ => False
theorem condP_true (A B : Prop) : condP (.bool true) A B = A := by simp [condP]
theorem condP_false (A B : Prop) : condP (.bool false) A B = B := by simp [condP]
theorem condP_intro {b : Bool} {A B : Prop} (h1 : b = true → A) (h2 : b = false → B) : condP (.bool b) A B := ⟨h1, h2⟩
theorem condP_dec {p : Prop} [Decidable p] {A B : Prop} (h1 : p → A) (h2 : ¬ p → B) : condP (.bool (decide p)) A B :=
  ⟨fun h => h1 (by simpa using h), fun h => h2 (by simpa using h)⟩
theorem condP_pos {p : Prop} [Decidable p] {A B : Prop} (hp : p) (h1 : A) : condP (.bool (decide p)) A B := condP_dec (fun _ => h1) (fun h => (h hp).elim)
theorem condP_neg {p : Prop} [Decidable p] {A B : Prop} (hp : ¬ p) (h1 : B) : condP (.bool (decide p)) A B := condP_dec (fun h => (hp h).elim) (fun _ => h1)
theorem thenQ_normal (next : Fr → World → Prop) (Q : Exit → Fr → World → Prop) (f : Fr) (w : World) : thenQ next Q .normal f w = next f w := rfl
theorem thenQ_exit (next : Fr → World → Prop) (Q : Exit → Fr → World → Prop) (id : Nat) (f : Fr) (w : World) : thenQ next Q (.exit id) f w = Q (.exit id) f w := rfl
theorem thenQ_ret (next : Fr → World → Prop) (Q : Exit → Fr → World → Prop) (f : Fr) (w : World) : thenQ next Q .ret f w = Q .ret f w := rfl
theorem inBlk_normal (id : Nat) (Q : Exit → Fr → World → Prop) (f : Fr) (w : World) : inBlk id Q .normal f w = Q .normal f w := rfl
theorem inBlk_exit (id id' : Nat) (Q : Exit → Fr → World → Prop) (f : Fr) (w : World) : inBlk id Q (.exit id') f w = if id' = id then Q .normal f w else Q (.exit id') f w := rfl
theorem inBlk_exit_same (id : Nat) (Q : Exit → Fr → World → Prop) (f : Fr) (w : World) : inBlk id Q (.exit id) f w = Q .normal f w := by simp [inBlk]
theorem inBlk_exit_ne {id id' : Nat} (h : id' ≠ id) (Q : Exit → Fr → World → Prop) (f : Fr) (w : World) : inBlk id Q (.exit id') f w = Q (.exit id') f w := by simp [inBlk, h]
theorem inBlk_ret (id : Nat) (Q : Exit → Fr → World → Prop) (f : Fr) (w : World) : inBlk id Q .ret f w = Q .ret f w := rfl

/-- a region that draws its order: an invariant over the set of operations that have been done -/
def edgesBack (ops : List Oper) : Bool := ops.zipIdx.all fun p => p.1.after.all fun e => !Region.binds .any e || decide (e.on < p.2)
def setL (L : Nat → Bool) (i : Nat) : Nat → Bool := fun j => if j = i then true else L j
def XD (P : Program) (ops : List Oper) (K : Fr → World → Prop) (f : Fr) (w : World) : Prop :=
  P.follows .mixedOrders = true ∧ edgesBack ops = true ∧ ∃ I : (Nat → Bool) → Fr → World → Prop, I (fun _ => false) f w.drew ∧
    (∀ L f w i o, I L f w → ops[i]? = some o → L i = false → (∀ e ∈ o.after.toList, Region.binds .any e = true → L e.on = true) →
      match o.guard with
      | none => opW P o.op o.type f w fun v w' => I (setL L i) (updO f o.dst v) w'
      | some (j, want) => G (gv f ops j) want (opW P o.op o.type f w fun v w' => I (setL L i) (updO f o.dst v) w') (I (setL L i) (updO f o.dst undef) w)) ∧
    (∀ L f w, I L f w → (∀ i, i < ops.length → L i = true) → K f w)

/-- what follows, in every world that has grown out of w1 -/
def KE (w1 : World) (K : Fr → World → Prop) (f : Fr) : Prop := ∀ w', Ext w1 w' → K f w'
/-- a region that draws its order: by an invariant, or by one pass in the order of the text where it only reads but for calls that make memory -/
def DR (P : Program) (ops : List Oper) (K : Fr → World → Prop) (f : Fr) (w : World) : Prop :=
  XD P ops K f w ∨ (P.follows .mixedOrders = true ∧ Region.lexB .any ops.toArray = true ∧ XQ P ops w.drew ops (KE w.drew K) f)
theorem DR_inv {P : Program} {ops : List Oper} {K : Fr → World → Prop} {f : Fr} {w : World} (h : XD P ops K f w) : DR P ops K f w := .inl h
theorem DR_text {P : Program} {ops : List Oper} {K : Fr → World → Prop} {f : Fr} {w : World} (hm : P.follows .mixedOrders = true) (hB : Region.lexB .any ops.toArray = true) (h : XQ P ops w.drew ops (KE w.drew K) f) : DR P ops K f w := .inr ⟨hm, hB, h⟩
def LoopP (body : (Exit → Fr → World → Prop) → Fr → World → Prop) (Q : Exit → Fr → World → Prop) (f : Fr) (w : World) : Prop :=
  ∃ (α : Type) (I : α → Fr → World → Prop) (μ : α → Nat) (x0 : α), I x0 f w ∧
    ∀ x f w, I x f w → body (thenQ (fun f' w' => ∃ x', I x' f' w' ∧ μ x' < μ x) Q) f w
theorem LoopP_intro {α : Type} {body : (Exit → Fr → World → Prop) → Fr → World → Prop} {Q : Exit → Fr → World → Prop} {f : Fr} {w : World} (I : α → Fr → World → Prop) (μ : α → Nat) (x0 : α)
    (h0 : I x0 f w) (h : ∀ x f w, I x f w → body (thenQ (fun f' w' => ∃ x', I x' f' w' ∧ μ x' < μ x) Q) f w) : LoopP body Q f w := ⟨α, I, μ, x0, h0, h⟩

def Wp (P : Program) : Code → (Exit → Fr → World → Prop) → Fr → World → Prop
  | .skip, Q, f, w => Q .normal f w
  | .exit id, Q, f, w => Q (.exit id) f w
  | .ret, Q, f, w => Q .ret f w
  | .region _ ops false, Q, f, w => X P ops.toList ops.toList (Q .normal) f w
  | .region _ ops true, Q, f, w => DR P ops.toList (Q .normal) f w
  | .seq a b, Q, f, w => Wp P a (thenQ (Wp P b Q) Q) f w
  | .cond c a b, Q, f, w => condP (ev f c) (Wp P a Q f w) (Wp P b Q f w)
  | .block id b, Q, f, w => Wp P b (inBlk id Q) f w
  | .loop b, Q, f, w => LoopP (Wp P b) Q f w
  | _, _, _, _ => False
section
variable (P : Program) (Q : Exit → Fr → World → Prop) (f : Fr) (w : World)
theorem Wp_skip : Wp P .skip Q f w = Q .normal f w := rfl
theorem Wp_exit (id : Nat) : Wp P (.exit id) Q f w = Q (.exit id) f w := rfl
theorem Wp_ret : Wp P .ret Q f w = Q .ret f w := rfl
theorem Wp_reg (id : Nat) (l : List Oper) : Wp P (.region id l.toArray false) Q f w = X P l l (Q .normal) f w := rfl
theorem Wp_draw (id : Nat) (l : List Oper) : Wp P (.region id l.toArray true) Q f w = DR P l (Q .normal) f w := rfl
theorem Wp_seq (a b : Code) : Wp P (.seq a b) Q f w = Wp P a (thenQ (Wp P b Q) Q) f w := rfl
theorem Wp_cond (c : Operand) (a b : Code) : Wp P (.cond c a b) Q f w = condP (ev f c) (Wp P a Q f w) (Wp P b Q f w) := rfl
theorem Wp_block (id : Nat) (b : Code) : Wp P (.block id b) Q f w = Wp P b (inBlk id Q) f w := rfl
theorem Wp_loop (b : Code) : Wp P (.loop b) Q f w = LoopP (Wp P b) Q f w := rfl
end

def liftQ (n : Nat) (Q : Exit → Fr → World → Prop) : Exit → Act → World → Prop := fun e a w => ∃ f, FRel n f a ∧ Q e f w

theorem XD_sound {P : Program} {n : Nat} {id : Nat} {ops : List Oper} {Q : Exit → Fr → World → Prop} (hall : ∀ o ∈ ops, operFits n o = true) {f : Fr} {a : Act} {w : World} (hF : FRel n f a)
    (h : XD P ops (Q .normal) f w) : (Code.region id ops.toArray true).wp P (liftQ n Q) a w := by
  obtain ⟨hm, hback, I, h0, hstep, hend⟩ := h
  have key : ∀ (fuel : Nat) (listed : Array Bool) (f : Fr) (a : Act) (w : World), listed.size = ops.length → listed.toList.count false = fuel → FRel n f a →
      I (fun i => listed.getD i false) f w → wpAny P .any ops.toArray (liftQ n Q) fuel listed a w := by
    intro fuel
    have hdone : ∀ (listed : Array Bool) (f : Fr) (a : Act) (w : World), listed.size = ops.length → FRel n f a → I (fun i => listed.getD i false) f w →
        Region.ready .any ops.toArray listed = [] → liftQ n Q .normal a w := by
      intro listed f a w hsz hF hI hr
      refine ⟨f, hF, hend _ f w hI ?_⟩
      intro i
      induction i using Nat.strongRecOn with
      | _ i ih =>
        intro hi
        cases hl : listed.getD i false with
        | true => rfl
        | false =>
          exfalso
          have hmem : i ∈ Region.ready .any ops.toArray listed := by
            rw [mem_ready]
            refine ⟨?_, ops[i], by simp, fun e he hb => ?_⟩
            · have : i < listed.size := by omega
              simp only [Array.getD_eq_getD_getElem?, Array.getElem?_eq_getElem this, Option.getD_some] at hl ⊢
              exact hl
            · have h1 := List.all_eq_true.1 hback (ops[i], i) (by
                rw [List.mem_zipIdx_iff_getElem?]; simp)
              have h2 := Array.all_eq_true_iff_forall_mem.1 h1 e he
              simp only [hb, Bool.not_true, Bool.false_or, decide_eq_true_eq] at h2
              exact ih e.on h2 (by omega)
          rw [hr] at hmem
          simp at hmem
    induction fuel with
    | zero =>
      intro listed f a w hsz hc hF hI
      have hr : Region.ready .any ops.toArray listed = [] := by
        apply List.eq_nil_iff_forall_not_mem.2
        intro i hi
        rw [mem_ready] at hi
        obtain ⟨hi, o, ho, _⟩ := hi
        have hlt : i < ops.length := by
          have := (Array.getElem?_eq_some_iff.1 ho).1
          simpa using this
        have : i < listed.size := by omega
        have hmem : false ∈ listed.toList := by
          simp only [Array.getD_eq_getD_getElem?, Array.getElem?_eq_getElem this, Option.getD_some] at hi
          rw [← hi]
          simp
        have := List.count_pos_iff.2 hmem
        omega
      exact ⟨hr, hdone listed f a w hsz hF hI hr⟩
    | succ fuel ih =>
      intro listed f a w hsz hc hF hI
      refine ⟨hdone listed f a w hsz hF hI, fun i hi => ?_⟩
      rw [mem_ready] at hi
      obtain ⟨hi, o, ho, hpre⟩ := hi
      have hlt : i < ops.length := by
        have := (Array.getElem?_eq_some_iff.1 ho).1
        simpa using this
      have hol : ops[i]? = some o := by simpa using ho
      have hli : i < listed.size := by omega
      have hmemo : o ∈ ops := List.mem_of_getElem? hol
      have hof := hall o hmemo
      obtain ⟨_, _, hd⟩ := operFits_spec hof
      have hLi : listed.getD i false = false := by
        simp only [Array.getD_eq_getD_getElem?, Array.getElem?_eq_getElem hli, Option.getD_some] at hi ⊢
        exact hi
      have hlist : ∀ j, setL (fun i => listed.getD i false) i j = (listed.setIfInBounds i true).getD j false := by
        intro j
        unfold setL
        by_cases e : j = i
        · subst e; simp [Array.getD_eq_getD_getElem?, hli]
        · rw [if_neg e, getD_set_ne _ (Ne.symm e)]
      have hcount : (listed.setIfInBounds i true).toList.count false = fuel := by
        have e1 : (listed.setIfInBounds i true).toList = listed.toList.set i true := by simp
        have e2 : listed.toList[i]'(by simpa using hli) = false := by
          simp only [Array.getD_eq_getD_getElem?, Array.getElem?_eq_getElem hli, Option.getD_some] at hi
          simpa using hi
        rw [e1, List.count_set (by simpa using hli), e2, hc]
        rfl
      have hih : ∀ f' a' w', FRel n f' a' → I (setL (fun i => listed.getD i false) i) f' w' → wpAny P .any ops.toArray (liftQ n Q) fuel (listed.setIfInBounds i true) a' w' := by
        intro f' a' w' hF' hI'
        refine ih _ f' a' w' (by simpa using hsz) hcount hF' ?_
        rw [show (fun j => (listed.setIfInBounds i true).getD j false) = setL (fun i => listed.getD i false) i from funext fun j => (hlist j).symm]
        exact hI'
      have hs := hstep _ f w i o hI hol hLi (fun e he hb => hpre e (by simpa using he) hb)
      unfold wpOp
      simp only [ho]
      cases hg : o.guard with
      | none =>
        simp only [hg] at hs
        rw [if_pos (by simp [Region.wanted, hg])]
        exact .inl (raw_sound hF hof (opW_sound hs) fun v w' hx => hih _ _ _ (hF.put hd v) hx)
      | some gw =>
        obtain ⟨j, want⟩ := gw
        simp only [hg] at hs
        have hy := gv_spec hF ops j hall
        unfold G at hs
        split at hs
        · rename_i b hb
          have hyb : yielded ops.toArray a.tmps j = some b := (hy b).2 hb
          by_cases hbw : b = want
          · rw [if_pos (by simp [Region.wanted, hg, hyb, hbw])]
            exact .inl (raw_sound hF hof (opW_sound (hs.1 hbw)) fun v w' hx => hih _ _ _ (hF.put hd v) hx)
          · rw [if_neg (by simp [Region.wanted, hg, hyb, hbw])]
            exact hih _ _ _ (hF.put hd undef) (hs.2 hbw)
        · rename_i hne
          rw [if_neg (by
            simp only [Region.wanted, hg, beq_iff_eq]
            intro e
            exact hne _ ((hy want).1 e))]
          exact hih _ _ _ (hF.put hd undef) hs
  refine wp_region_any hm ?_
  have := key ops.length (Array.replicate ops.length false) f a w.drew (by simp) (by simp [List.count_replicate]) hF (by
    have : (fun i => (Array.replicate ops.length false).getD i false) = fun _ => false := funext fun i => by
      simp only [Array.getD_eq_getD_getElem?, Array.getElem?_replicate]; split <;> rfl
    rw [this]; exact h0)
  simpa using this

theorem Wp_sound {P : Program} {n : Nat} : ∀ (c : Code), codeFits n c = true → ∀ (Q : Exit → Fr → World → Prop) (f : Fr) (a : Act) (w : World), FRel n f a → Wp P c Q f w → c.wp P (liftQ n Q) a w := by
  intro c
  induction c with
  | skip => intro _ Q f a w hF h; exact wp_skip ⟨f, hF, h⟩
  | exit id => intro _ Q f a w hF h; exact wp_exit ⟨f, hF, h⟩
  | ret => intro _ Q f a w hF h; exact wp_ret ⟨f, hF, h⟩
  | region id ops draw =>
    intro hfit Q f a w hF h
    simp only [codeFits] at hfit
    have hall : ∀ o ∈ ops.toList, operFits n o = true := fun o ho => Array.all_eq_true_iff_forall_mem.1 hfit o (by simpa using ho)
    cases draw with
    | false =>
      have := X_sound (P := P) (Q := liftQ n Q) (K := Q .normal) hall (fun f a w hF hk => ⟨f, hF, hk⟩) ops.toList hall f a w hF h
      have h2 := wp_region_lit (id := id) this
      simpa using h2
    | true =>
      rcases h with h | ⟨hm, hB, h⟩
      · have h2 := XD_sound (id := id) hall hF h
        simpa using h2
      · refine wp_region_quiet (C := Ext w.drew) hm (by simpa using hB) (Ext.refl _) ?_
        have := XQ_sound (P := P) (Q := fun a' => ∀ w', Ext w.drew w' → liftQ n Q .normal a' w') hall (fun f a hF hk w' hE => ⟨f, hF, hk w' hE⟩) ops.toList hall f a hF h
        simpa using this
  | seq x y ihx ihy =>
    intro hfit Q f a w hF h
    simp only [codeFits, Bool.and_eq_true] at hfit
    refine wp_seq (wp_mono (ihx hfit.1 _ f a w hF h) ?_)
    rintro e a' w' ⟨f', hF', hq⟩
    cases e with
    | normal => exact ihy hfit.2 Q f' a' w' hF' hq
    | _ => exact ⟨f', hF', hq⟩
  | cond c x y ihx ihy =>
    intro hfit Q f a w hF h
    simp only [codeFits, Bool.and_eq_true] at hfit
    simp only [Wp, condP] at h
    split at h
    · rename_i b hb
      refine wp_cond_split (t := b) (by rw [hF.eval hfit.1.1]; exact hb) (fun e => ihx hfit.1.2 Q f a w hF (h.1 e)) (fun e => ihy hfit.2 Q f a w hF (h.2 e))
    · exact h.elim
  | block id b ih =>
    intro hfit Q f a w hF h
    refine wp_block (wp_mono (ih hfit _ f a w hF h) ?_)
    rintro e a' w' ⟨f', hF', hq⟩
    cases e with
    | exit id' =>
      simp only [inBlk] at hq
      simp only [Exit.inBlock]
      split
      · rename_i e; rw [if_pos e] at hq; exact ⟨f', hF', hq⟩
      · rename_i e; rw [if_neg e] at hq; exact ⟨f', hF', hq⟩
    | _ => exact ⟨f', hF', hq⟩
  | loop b ih =>
    intro hfit Q f a w hF h
    obtain ⟨α, I, μ, x0, h0, hr⟩ := h
    -- the ghost state is carried by a strong induction on its measure
    intro bf k cs
    have key : ∀ m x f a w, μ x = m → I x f w → FRel n f a → ∃ e a' w', liftQ n Q e a' w' ∧ Arrives P (lone (bf.at a (.code b :: .inLoop b :: k)) cs w) bf k cs e a' w' := by
      intro m
      induction m using Nat.strongRecOn with
      | _ m ihm =>
        intro x f a w hm hI hF
        obtain ⟨e, a₁, w₁, ⟨f₁, hF₁, hq⟩, harr⟩ := ih hfit _ f a w hF (hr x f w hI) bf (.inLoop b :: k) cs
        cases e with
        | normal =>
          obtain ⟨x', hI', hlt⟩ := hq
          obtain ⟨e₂, a₂, w₂, hq₂, harr₂⟩ := ihm (μ x') (hm ▸ hlt) x' f₁ a₁ w₁ rfl hI' hF₁
          exact ⟨e₂, a₂, w₂, hq₂, .of_steps (Steps.trans harr (.one step_inLoop)) harr₂⟩
        | exit id => exact ⟨_, a₁, w₁, ⟨f₁, hF₁, hq⟩, .pass (x := .inLoop b) rfl (fun _ _ => .inl (by simp)) harr⟩
        | goto l => exact ⟨_, a₁, w₁, ⟨f₁, hF₁, hq⟩, .pass (x := .inLoop b) rfl (fun _ _ => .inl (by simp)) harr⟩
        | ret => exact ⟨_, a₁, w₁, ⟨f₁, hF₁, hq⟩, .pass (x := .inLoop b) rfl (fun _ _ => .inl (by simp)) harr⟩
        | panic ch => exact ⟨_, a₁, w₁, ⟨f₁, hF₁, hq⟩, .pass (x := .inLoop b) rfl (fun _ _ => .inl (by simp)) harr⟩
        | outgrown => exact ⟨_, a₁, w₁, ⟨f₁, hF₁, hq⟩, .pass (x := .inLoop b) rfl (fun _ _ => .inl (by simp)) harr⟩
    obtain ⟨e, a', w', hq, harr⟩ := key _ x0 f a w rfl h0 hF
    exact ⟨e, a', w', hq, .of_steps (.one step_loop) harr⟩
  | _ => intro hfit; simp [codeFits] at hfit

/-! ### a function's body -/
def fr0 : List Value → Fr
  | [], _ => undef
  | v :: _, 0 => v
  | _ :: l, n + 1 => fr0 l n
theorem fr0_zero (v : Value) (l : List Value) : fr0 (v :: l) 0 = v := rfl
theorem fr0_succ (v : Value) (l : List Value) (n : Nat) : fr0 (v :: l) (n + 1) = fr0 l n := rfl
theorem fr0_eq : ∀ (l : List Value) (t : Nat), fr0 l t = l.getD t undef
  | [], t => by simp [fr0]
  | v :: l, 0 => by simp [fr0]
  | v :: l, n + 1 => by simp [fr0, fr0_eq l n]
def rv (P : Program) (f : Fr) (w : World) (r : ResultVar) (k : Value → Prop) : Prop :=
  match r with
  | .tmp t => k (f t)
  | .cell a t => B (sLoad P t (f a) w) fun v _ => k v
def resW (P : Program) (rs : List ResultVar) (f : Fr) (w : World) (k : Value → Prop) : Prop :=
  match rs with
  | [] => k (.tuple #[])
  | [a] => rv P f w a k
  | [a, b] => rv P f w a fun u => rv P f w b fun v => k (.tuple #[u, v])
  | [a, b, c] => rv P f w a fun u => rv P f w b fun v => rv P f w c fun x => k (.tuple #[u, v, x])
  | _ => False
def fin (P : Program) (rs : Array ResultVar) (Φ : Value → World → Prop) : Exit → Fr → World → Prop
  | .normal, f, w | .ret, f, w => resW P rs.toList f w fun v => Φ v w
  | _, _, _ => False
section
variable (P : Program) (Φ : Value → World → Prop) (f : Fr) (w : World)
theorem fin_ret0 : fin P #[] Φ .ret f w = Φ (.tuple #[]) w := rfl
theorem fin_end0 : fin P #[] Φ .normal f w = Φ (.tuple #[]) w := rfl
theorem fin_ret1 (a : ResultVar) : fin P #[a] Φ .ret f w = rv P f w a (fun v => Φ v w) := rfl
theorem fin_end1 (a : ResultVar) : fin P #[a] Φ .normal f w = rv P f w a (fun v => Φ v w) := rfl
theorem fin_ret2 (a b : ResultVar) : fin P #[a, b] Φ .ret f w = rv P f w a (fun u => rv P f w b fun v => Φ (.tuple #[u, v]) w) := rfl
theorem fin_ret3 (a b c : ResultVar) : fin P #[a, b, c] Φ .ret f w = rv P f w a (fun u => rv P f w b fun v => rv P f w c fun x => Φ (.tuple #[u, v, x]) w) := rfl
theorem rv_tmp (t : Nat) (k : Value → Prop) : rv P f w (.tmp t) k = k (f t) := rfl
theorem rv_cell (a : Nat) (t : TypeId) (k : Value → Prop) : rv P f w (.cell a t) k = B (sLoad P t (f a) w) fun v _ => k v := rfl
end
def resFits (n : Nat) (rs : Array ResultVar) : Bool := rs.all fun | .tmp t => decide (t < n) | .cell a _ => decide (a < n)

theorem rv_run {P : Program} {n : Nat} {f : Fr} {a : Act} {w : World} (hF : FRel n f a) {r : ResultVar} (hr : (match r with | .tmp t => decide (t < n) | .cell x _ => decide (x < n)) = true) {k : Value → Prop}
    (h : rv P f w r k) : ∃ v, k v ∧ (match r with | .tmp t => (pure (a.tmps.getD t undef) : Sem Value) | .cell x t => do loadVar t (← asAddr (a.tmps.getD x undef))).run P w = .ok v w := by
  cases r with
  | tmp t =>
    simp only [decide_eq_true_eq] at hr
    refine ⟨_, h, ?_⟩
    simp [Sem.run, pure, Array.getD_eq_getD_getElem?, hF.2.2 t hr]
  | cell x t =>
    simp only [decide_eq_true_eq] at hr
    simp only [rv, B] at h
    split at h
    · rename_i v w' hs
      obtain ⟨hl, rfl⟩ := sLoad_run hs
      refine ⟨v, h, ?_⟩
      simp only [Array.getD_eq_getD_getElem?, hF.2.2 x hr, Option.getD_some]
      cases hx : f x with
      | pointer p =>
        cases p with
        | none => simp [hx, sLoad] at hs
        | some ad => simpa [hx, Instr.loadAt, Instr.sureAddr, asAddr, run_bind, Sem.run, pure] using hl
      | _ => simp [hx, sLoad] at hs
    · exact h.elim

theorem Ret_of {P : Program} {g : Nat} {fn : Func} {c : Code} {args : Array Value} {w : World} {Φ : Value → World → Prop} (hf : P.funcs[g]? = some fn) (hb : fn.body = some c) (hn : enters P g = true)
    (hfit : codeFits fn.ntmps c = true) (hargs : decide (args.size ≤ fn.ntmps) = true) (hres : resFits fn.ntmps fn.results = true) (h : Wp P c (fin P fn.results Φ) (fr0 args.toList) w) : Ret P g args w Φ := by
  refine ⟨hn, calls_of_wp hf hb ?_⟩
  have hF : FRel fn.ntmps (fr0 args.toList) { tmps := args ++ Array.replicate (fn.ntmps - args.size) undef, defers := [] } := by
    refine ⟨rfl, by simp at hargs ⊢; omega, fun t ht => ?_⟩
    rw [fr0_eq]
    simp only [Array.getElem?_append]
    split
    · rename_i hlt; simp [hlt]
    · rename_i hge
      have : t - args.size < fn.ntmps - args.size := by omega
      simp [this, List.getD_eq_getElem?_getD]
      rw [Array.getElem?_eq_none (by omega)]
      rfl
  refine wp_mono (Wp_sound c hfit _ _ _ w hF h) ?_
  rintro e a' w' ⟨f', hF', hq⟩
  have main : resW P fn.results.toList f' w' (fun v => Φ v w') → a'.defers = [] ∧ ∃ v, (results fn a'.tmps).run P w' = .ok v w' ∧ ∃ u, Ending.returned v = .returned u ∧ Φ u w' := by
    intro hr
    refine ⟨hF'.1, ?_⟩
    unfold resW at hr
    have hall := Array.all_eq_true_iff_forall_mem.1 hres
    split at hr
    · rename_i he
      have : fn.results = #[] := by apply Array.ext'; simpa using he
      exact ⟨_, by simp [results, this, Sem.run, pure], _, rfl, hr⟩
    · rename_i x he
      have hx : fn.results = #[x] := by apply Array.ext'; simpa using he
      obtain ⟨v, hk, hv⟩ := rv_run hF' (hall x (by simp [hx])) hr
      refine ⟨v, ?_, _, rfl, hk⟩
      simp only [results, hx, Array.mapM_eq_mapM_toList, List.mapM_cons, List.mapM_nil, run_bind, bind_assoc, pure_bind, map_bind, map_pure]
      cases x <;> simp only [run_bind] at hv ⊢ <;> rw [hv] <;> simp [Sem.run, pure]
    · rename_i x y he
      have hx : fn.results = #[x, y] := by apply Array.ext'; simpa using he
      obtain ⟨v, hk, hv⟩ := rv_run hF' (hall x (by simp [hx])) hr
      obtain ⟨u, hk2, hu⟩ := rv_run hF' (hall y (by simp [hx])) hk
      refine ⟨.tuple #[v, u], ?_, _, rfl, hk2⟩
      simp only [results, hx, Array.mapM_eq_mapM_toList, List.mapM_cons, List.mapM_nil, run_bind, bind_assoc, pure_bind, map_bind, map_pure]
      cases x <;> cases y <;> simp only [run_bind] at hv hu ⊢ <;> simp only [hv, hu] <;> simp [Sem.run, pure]
    · rename_i x y z he
      have hx : fn.results = #[x, y, z] := by apply Array.ext'; simpa using he
      obtain ⟨v, hk, hv⟩ := rv_run hF' (hall x (by simp [hx])) hr
      obtain ⟨u, hk2, hu⟩ := rv_run hF' (hall y (by simp [hx])) hk
      obtain ⟨t, hk3, ht⟩ := rv_run hF' (hall z (by simp [hx])) hk2
      refine ⟨.tuple #[v, u, t], ?_, _, rfl, hk3⟩
      simp only [results, hx, Array.mapM_eq_mapM_toList, List.mapM_cons, List.mapM_nil, run_bind, bind_assoc, pure_bind, map_bind, map_pure]
      cases x <;> cases y <;> cases z <;> simp only [run_bind] at hv hu ht ⊢ <;> simp only [hv, hu, ht] <;> simp [Sem.run, pure]
    · exact hr.elim
  cases e with
  | normal => exact main hq
  | ret => exact main hq
  | _ => exact hq.elim
/-- the same, the post behind a name -/
theorem Ret_start {P : Program} {g : Nat} {fn : Func} {c : Code} {args : Array Value} {w : World} {Φ : Value → World → Prop} (hf : P.funcs[g]? = some fn) (hb : fn.body = some c) (rs : Array ResultVar) (hrs : fn.results = rs) (hn : enters P g = true)
    (hfit : codeFits fn.ntmps c = true) (hargs : decide (args.size ≤ fn.ntmps) = true) (hres : resFits fn.ntmps fn.results = true)
    (h : ∀ Ψ : Value → World → Prop, (∀ v w', Φ v w' → Ψ v w') → Wp P c (fin P rs Ψ) (fr0 args.toList) w) : Ret P g args w Φ :=
  Ret_of hf hb hn hfit hargs hres (by rw [hrs]; exact h Φ fun _ _ h => h)
end Go.W
set_option linter.unusedSimpArgs false
set_option linter.unusedVariables false
set_option linter.defProp false
namespace Go.W
theorem gv_zero (f : Fr) (t : Nat) (op : Op) (ty : TypeId) (pos : String) (af : Array Edge) (g : Option (Nat × Bool)) (l : List Oper) : gv f (⟨some t, op, ty, pos, af, g⟩ :: l) 0 = f t := rfl
theorem gv_succ (f : Fr) (o : Oper) (l : List Oper) (n : Nat) : gv f (o :: l) (n + 1) = gv f l n := rfl
def evl (f : Fr) (as : List Operand) : List Value := as.map (ev f)
def evs (f : Fr) (ps : List (Nat × Operand)) : List (Nat × Value) := ps.map fun p => (p.1, ev f p.2)
def evo (f : Fr) (x : Option Operand) : Option Value := x.map (ev f)
theorem evl_nil (f : Fr) : evl f [] = [] := rfl
theorem evl_cons (f : Fr) (x : Operand) (l : List Operand) : evl f (x :: l) = ev f x :: evl f l := rfl
theorem evs_nil (f : Fr) : evs f [] = [] := rfl
theorem evs_cons (f : Fr) (i : Nat) (x : Operand) (l : List (Nat × Operand)) : evs f ((i, x) :: l) = (i, ev f x) :: evs f l := rfl
theorem evo_none (f : Fr) : evo f none = none := rfl
theorem evo_some (f : Fr) (x : Operand) : evo f (some x) = some (ev f x) := rfl
/-- one operation, and what follows it: forms without a binder, so that a rewriting stops where it cannot go on -/
def XO (P : Program) (all rest : List Oper) (K : Fr → World → Prop) (d : Option Nat) (f : Fr) (w : World) (op : Op) (ty : TypeId) : Prop := opW P op ty f w fun v w' => X P all rest K (updO f d v) w'
def XB (P : Program) (all rest : List Oper) (K : Fr → World → Prop) (d : Option Nat) (f : Fr) (r : Option (Value × World)) : Prop := B r fun v w' => X P all rest K (updO f d v) w'
def XR (P : Program) (all rest : List Oper) (K : Fr → World → Prop) (d : Option Nat) (f : Fr) (g : Nat) (args : Array Value) (w : World) : Prop := Ret P g args w fun v w' => X P all rest K (updO f d v) w'
def XG (P : Program) (all rest : List Oper) (K : Fr → World → Prop) (d : Option Nat) (f : Fr) (w : World) (op : Op) (ty : TypeId) (v : Value) (want : Bool) : Prop := G v want (XO P all rest K d f w op ty) (X P all rest K (updO f d undef) w)
def cnd (P : Program) (a b : Code) (Q : Exit → Fr → World → Prop) (f : Fr) (w : World) (v : Value) : Prop := condP v (Wp P a Q f w) (Wp P b Q f w)
section
variable (P : Program) (all rest : List Oper) (K : Fr → World → Prop) (d : Option Nat) (f : Fr) (w : World) (ty : TypeId)
theorem X_op (op : Op) (pos : String) (af : Array Edge) : X P all (⟨d, op, ty, pos, af, none⟩ :: rest) K f w = XO P all rest K d f w op ty := rfl
theorem X_gd (op : Op) (pos : String) (af : Array Edge) (j : Nat) (want : Bool) : X P all (⟨d, op, ty, pos, af, some (j, want)⟩ :: rest) K f w = XG P all rest K d f w op ty (gv f all j) want := rfl
theorem XG_tt (op : Op) : XG P all rest K d f w op ty (.bool true) true = XO P all rest K d f w op ty := by simp [XG, G]
theorem XG_ff (op : Op) : XG P all rest K d f w op ty (.bool false) false = XO P all rest K d f w op ty := by simp [XG, G]
theorem XG_tf (op : Op) : XG P all rest K d f w op ty (.bool true) false = X P all rest K (updO f d undef) w := by simp [XG, G]
theorem XG_ft (op : Op) : XG P all rest K d f w op ty (.bool false) true = X P all rest K (updO f d undef) w := by simp [XG, G]
theorem XB_some (v : Value) (w' : World) : XB P all rest K d f (some (v, w')) = X P all rest K (updO f d v) w' := rfl
theorem XB_ite (p : Prop) [Decidable p] (r : Option (Value × World)) : XB P all rest K d f (if p then r else none) = (p ∧ XB P all rest K d f r) := B_ite p r _
theorem XO_move (x : Operand) : XO P all rest K d f w (.move x) ty = X P all rest K (updO f d (ev f x)) w := rfl
theorem XO_assign (x : Operand) : XO P all rest K d f w (.assign x) ty = X P all rest K (updO f d (ev f x)) w := rfl
theorem XO_pick (c a b : Operand) : XO P all rest K d f w (.pick c a b) ty = XB P all rest K d f (sPick (ev f c) (ev f a) (ev f b) w) := rfl
theorem XO_alloc (t : TypeId) : XO P all rest K d f w (.alloc t) ty = XB P all rest K d f (sAlloc P t w) := rfl
theorem XO_box (t : TypeId) (x : Operand) : XO P all rest K d f w (.box t x) ty = XB P all rest K d f (sBox t (ev f x) w) := rfl
theorem XO_build (t : TypeId) (ps : List (Nat × Operand)) : XO P all rest K d f w (.build t ps.toArray) ty = XB P all rest K d f (sBuild P t (evs f ps) w) := rfl
theorem XO_buildSlice (t : TypeId) (n : Nat) (ps : List (Nat × Operand)) : XO P all rest K d f w (.buildSlice t n ps.toArray) ty = (sBuildSliceOk P t = true ∧ XB P all rest K d f (sBuildSlice P t n (evs f ps) w)) := rfl
theorem XO_load (t : TypeId) (x : Operand) : XO P all rest K d f w (.load t x) ty = XB P all rest K d f (sLoad P t (ev f x) w) := rfl
theorem XO_store (t : TypeId) (x v : Operand) : XO P all rest K d f w (.store t x v) ty = XB P all rest K d f (sStore P t (ev f x) (ev f v) w) := rfl
theorem XO_nilCheck (x : Operand) : XO P all rest K d f w (.nilCheck x) ty = XB P all rest K d f (sNil (ev f x) w) := rfl
theorem XO_bin (o : BinOp) (t t' : TypeId) (x y : Operand) : XO P all rest K d f w (.binOp o t x y t') ty = XB P all rest K d f (sBin P o t (ev f x) (ev f y) w) := rfl
theorem XO_convert (s t : TypeId) (x : Operand) : XO P all rest K d f w (.convert s t x) ty = XB P all rest K d f (sConv P s t (ev f x) w) := rfl
theorem XO_fieldAddr (s : TypeId) (x : Operand) (k : Nat) : XO P all rest K d f w (.fieldAddr s x k) ty = XB P all rest K d f (sFieldAddr P s (ev f x) k w) := rfl
theorem XO_field (s : TypeId) (x : Operand) (k : Nat) : XO P all rest K d f w (.field s x k) ty = XB P all rest K d f (sField P s (ev f x) k w) := rfl
theorem XO_indexAddr (t : TypeId) (x i : Operand) : XO P all rest K d f w (.indexAddr t x i) ty = XB P all rest K d f (sIndexAddr P t (ev f x) (ev f i) w) := rfl
theorem XO_extract (x : Operand) (i : Nat) : XO P all rest K d f w (.extract x i) ty = XB P all rest K d f (sExtract (ev f x) i w) := rfl
theorem XO_not (t : TypeId) (x : Operand) : XO P all rest K d f w (.unOp .not t x) ty = XB P all rest K d f (sNot (ev f x) w) := rfl
theorem XO_makeMap (t : TypeId) : XO P all rest K d f w (.makeMap t none) ty = XB P all rest K d f (sMakeMap w) := rfl
theorem XO_makeSlice (t : TypeId) (l c : Operand) : XO P all rest K d f w (.makeSlice t l c) ty = XB P all rest K d f (sMakeSlice P t (ev f l) (ev f c) w) := rfl
theorem XO_slice (t : TypeId) (x : Operand) (lo hi : Option Operand) : XO P all rest K d f w (.slice t x lo hi none) ty = XB P all rest K d f (sSlice P t (ev f x) (evo f lo) (evo f hi) w) := rfl
theorem XO_len (x : Operand) (t : TypeId) : XO P all rest K d f w (.call ⟨.builtin .len, #[x], #[t]⟩) ty = XB P all rest K d f (sLen P t (ev f x) w) := rfl
theorem XO_max (x y : Operand) (ts : Array TypeId) : XO P all rest K d f w (.call ⟨.builtin .max, #[x, y], ts⟩) ty = XB P all rest K d f (sMax (ev f x) (ev f y) w) := rfl
theorem XO_min (x y : Operand) (ts : Array TypeId) : XO P all rest K d f w (.call ⟨.builtin .min, #[x, y], ts⟩) ty = XB P all rest K d f (sMin (ev f x) (ev f y) w) := rfl
theorem XO_func (g : Nat) (as : List Operand) (ts : Array TypeId) : XO P all rest K d f w (.call ⟨.value (.func g), as.toArray, ts⟩) ty = XR P all rest K d f g (evl f as).toArray w := by
  simp only [XO, XR, opW, callW, List.map_toArray, evl]
theorem Wp_cnd (c : Operand) (a b : Code) (Q : Exit → Fr → World → Prop) : Wp P (.cond c a b) Q f w = cnd P a b Q f w (ev f c) := rfl
theorem cnd_true (a b : Code) (Q : Exit → Fr → World → Prop) : cnd P a b Q f w (.bool true) = Wp P a Q f w := by simp [cnd, condP]
theorem cnd_false (a b : Code) (Q : Exit → Fr → World → Prop) : cnd P a b Q f w (.bool false) = Wp P b Q f w := by simp [cnd, condP]
end
section
variable {P : Program} {all rest : List Oper} {K : Fr → World → Prop} {d : Option Nat} {f : Fr} {w : World} {ty : TypeId}
/-- at a call: the callee's contract, and what follows under what it says -/
theorem XR_intro {g : Nat} {args : Array Value} {Φ : Value → World → Prop} (h : Ret P g args w Φ) (hk : ∀ v w', Φ v w' → X P all rest K (updO f d v) w') : XR P all rest K d f g args w := h.mono hk
theorem cnd_dec {p : Prop} [Decidable p] {a b : Code} {Q : Exit → Fr → World → Prop} (h1 : p → Wp P a Q f w) (h2 : ¬ p → Wp P b Q f w) : cnd P a b Q f w (.bool (decide p)) := condP_dec h1 h2
theorem cnd_bool {t : Bool} {a b : Code} {Q : Exit → Fr → World → Prop} (h1 : t = true → Wp P a Q f w) (h2 : t = false → Wp P b Q f w) : cnd P a b Q f w (.bool t) := ⟨h1, h2⟩
theorem XG_dec {p : Prop} [Decidable p] {op : Op} {want : Bool} (h1 : decide p = want → XO P all rest K d f w op ty) (h2 : decide p = !want → X P all rest K (updO f d undef) w) : XG P all rest K d f w op ty (.bool (decide p)) want := G_intro h1 h2
theorem XG_bool {t : Bool} {op : Op} {want : Bool} (h1 : t = want → XO P all rest K d f w op ty) (h2 : t = !want → X P all rest K (updO f d undef) w) : XG P all rest K d f w op ty (.bool t) want := G_intro h1 h2
end
/-- a region that draws its order, by an invariant over what has been done: one goal for each operation -/
def stepD (P : Program) (ops : List Oper) (I : (Nat → Bool) → Fr → World → Prop) (L : Nat → Bool) (f : Fr) (w : World) (i : Nat) (o : Oper) : Prop :=
  match o.guard with
  | none => XO P ops [] (I (setL L i)) o.dst f w o.op o.type
  | some (j, want) => XG P ops [] (I (setL L i)) o.dst f w o.op o.type (gv f ops j) want
def preD (L : Nat → Bool) : List Edge → Prop
  | [] => True
  | e :: l => (Region.binds .any e = true → L e.on = true) ∧ preD L l
theorem preD_of {L : Nat → Bool} : ∀ {l : List Edge}, (∀ e ∈ l, Region.binds .any e = true → L e.on = true) → preD L l
  | [], _ => trivial
  | e :: l, h => ⟨h e (by simp), preD_of fun e' he => h e' (by simp [he])⟩
def stepsD (P : Program) (ops : List Oper) (I : (Nat → Bool) → Fr → World → Prop) (L : Nat → Bool) (f : Fr) (w : World) : Nat → List Oper → Prop
  | _, [] => True
  | i, o :: l => (L i = false → preD L o.after.toList → stepD P ops I L f w i o) ∧ stepsD P ops I L f w (i + 1) l
theorem stepsD_get {P : Program} {ops : List Oper} {I : (Nat → Bool) → Fr → World → Prop} {L : Nat → Bool} {f : Fr} {w : World} : ∀ (l : List Oper) (k : Nat), stepsD P ops I L f w k l →
    ∀ i o, l[i]? = some o → L (k + i) = false → preD L o.after.toList → stepD P ops I L f w (k + i) o
  | [], _, _, i, o, h => by simp at h
  | x :: l, k, hs, 0, o, h => by simp only [List.getElem?_cons_zero, Option.some.injEq] at h; subst h; exact hs.1
  | x :: l, k, hs, i + 1, o, h => by
    have := stepsD_get l (k + 1) hs.2 i o (by simpa using h)
    rw [show k + (i + 1) = k + 1 + i by omega]
    exact this
theorem XD_intro {P : Program} {ops : List Oper} {K : Fr → World → Prop} {f : Fr} {w : World} (I : (Nat → Bool) → Fr → World → Prop) (hm : P.follows .mixedOrders = true) (hB : edgesBack ops = true)
    (h0 : I (fun _ => false) f w.drew) (hs : ∀ L f w, I L f w → stepsD P ops I L f w 0 ops) (he : ∀ L f w, I L f w → (∀ i, i < ops.length → L i = true) → K f w) : DR P ops K f w := by
  refine DR_inv ⟨hm, hB, I, h0, ?_, he⟩
  intro L f w i o hI ho hL hpre
  have := stepsD_get ops 0 (hs L f w hI) i o ho (by simpa using hL) (preD_of hpre)
  rw [Nat.zero_add] at this
  exact this
theorem stepD_op (P : Program) (ops : List Oper) (I : (Nat → Bool) → Fr → World → Prop) (L : Nat → Bool) (f : Fr) (w : World) (i : Nat) (d : Option Nat) (op : Op) (ty : TypeId) (pos : String) (af : Array Edge) :
    stepD P ops I L f w i ⟨d, op, ty, pos, af, none⟩ = XO P ops [] (I (setL L i)) d f w op ty := rfl
theorem stepD_gd (P : Program) (ops : List Oper) (I : (Nat → Bool) → Fr → World → Prop) (L : Nat → Bool) (f : Fr) (w : World) (i : Nat) (d : Option Nat) (op : Op) (ty : TypeId) (pos : String) (af : Array Edge) (j : Nat) (want : Bool) :
    stepD P ops I L f w i ⟨d, op, ty, pos, af, some (j, want)⟩ = XG P ops [] (I (setL L i)) d f w op ty (gv f ops j) want := rfl
theorem setL_apply (L : Nat → Bool) (i j : Nat) : setL L i j = if j = i then true else L j := rfl
/-! ### the same for a region that draws its order -/
def QO (P : Program) (all : List Oper) (w1 : World) (rest : List Oper) (K : Fr → Prop) (d : Option Nat) (f : Fr) (op : Op) : Prop := ∃ v, opQ P w1 op f v ∧ XQ P all w1 rest K (updO f d v)
def QB (P : Program) (all : List Oper) (w1 : World) (rest : List Oper) (K : Fr → Prop) (d : Option Nat) (f : Fr) (r : Option (Value × World)) : Prop := ∃ v, r.map (·.1) = some v ∧ XQ P all w1 rest K (updO f d v)
def QL (P : Program) (all : List Oper) (w1 : World) (rest : List Oper) (K : Fr → Prop) (d : Option Nat) (f : Fr) (s : Sem Value) : Prop := ∃ v, (∀ w, Ext w1 w → s.run P w = .ok v w) ∧ XQ P all w1 rest K (updO f d v)
def QR (P : Program) (all : List Oper) (w1 : World) (rest : List Oper) (K : Fr → Prop) (d : Option Nat) (f : Fr) (g : Nat) (args : Array Value) : Prop := ∃ v, (∀ w, Ext w1 w → Ret P g args w fun u w' => u = v ∧ Ext w w') ∧ XQ P all w1 rest K (updO f d v)
def QG (P : Program) (all : List Oper) (w1 : World) (rest : List Oper) (K : Fr → Prop) (d : Option Nat) (f : Fr) (op : Op) (v : Value) (want : Bool) : Prop := G v want (QO P all w1 rest K d f op) (XQ P all w1 rest K (updO f d undef))
section
variable (P : Program) (all : List Oper) (w1 : World) (rest : List Oper) (K : Fr → Prop) (d : Option Nat) (f : Fr) (ty : TypeId)
theorem XQ_nil : XQ P all w1 [] K f = K f := rfl
theorem XQ_op (op : Op) (pos : String) (af : Array Edge) : XQ P all w1 (⟨d, op, ty, pos, af, none⟩ :: rest) K f = QO P all w1 rest K d f op := rfl
theorem XQ_gd (op : Op) (pos : String) (af : Array Edge) (j : Nat) (want : Bool) : XQ P all w1 (⟨d, op, ty, pos, af, some (j, want)⟩ :: rest) K f = QG P all w1 rest K d f op (gv f all j) want := rfl
theorem QG_tt (op : Op) : QG P all w1 rest K d f op (.bool true) true = QO P all w1 rest K d f op := by simp [QG, G]
theorem QG_ff (op : Op) : QG P all w1 rest K d f op (.bool false) false = QO P all w1 rest K d f op := by simp [QG, G]
theorem QG_tf (op : Op) : QG P all w1 rest K d f op (.bool true) false = XQ P all w1 rest K (updO f d undef) := by simp [QG, G]
theorem QG_ft (op : Op) : QG P all w1 rest K d f op (.bool false) true = XQ P all w1 rest K (updO f d undef) := by simp [QG, G]
theorem QB_some (v : Value) (w' : World) : QB P all w1 rest K d f (some (v, w')) = XQ P all w1 rest K (updO f d v) := by simp [QB]
theorem QB_ite (p : Prop) [Decidable p] (r : Option (Value × World)) : QB P all w1 rest K d f (if p then r else none) = (p ∧ QB P all w1 rest K d f r) := by
  by_cases h : p <;> simp [QB, h]
theorem QO_move (x : Operand) : QO P all w1 rest K d f (.move x) = XQ P all w1 rest K (updO f d (ev f x)) := by simp [QO, opQ, rdW]
theorem QO_assign (x : Operand) : QO P all w1 rest K d f (.assign x) = XQ P all w1 rest K (updO f d (ev f x)) := by simp [QO, opQ, rdW]
theorem QO_pick (c a b : Operand) : QO P all w1 rest K d f (.pick c a b) = QB P all w1 rest K d f (sPick (ev f c) (ev f a) (ev f b) w1) := rfl
theorem QO_build (t : TypeId) (ps : List (Nat × Operand)) : QO P all w1 rest K d f (.build t ps.toArray) = QB P all w1 rest K d f (sBuild P t (evs f ps) w1) := rfl
theorem QO_load (t : TypeId) (x : Operand) : QO P all w1 rest K d f (.load t x) = QB P all w1 rest K d f (sLoad P t (ev f x) w1) := rfl
theorem QO_nilCheck (x : Operand) : QO P all w1 rest K d f (.nilCheck x) = QB P all w1 rest K d f (sNil (ev f x) w1) := rfl
theorem QO_bin (o : BinOp) (t t' : TypeId) (x y : Operand) : QO P all w1 rest K d f (.binOp o t x y t') = QB P all w1 rest K d f (sBin P o t (ev f x) (ev f y) w1) := rfl
theorem QO_convert (s t : TypeId) (x : Operand) : QO P all w1 rest K d f (.convert s t x) = QB P all w1 rest K d f (sConv P s t (ev f x) w1) := rfl
theorem QO_fieldAddr (s : TypeId) (x : Operand) (k : Nat) : QO P all w1 rest K d f (.fieldAddr s x k) = QB P all w1 rest K d f (sFieldAddr P s (ev f x) k w1) := rfl
theorem QO_field (s : TypeId) (x : Operand) (k : Nat) : QO P all w1 rest K d f (.field s x k) = QB P all w1 rest K d f (sField P s (ev f x) k w1) := rfl
theorem QO_indexAddr (t : TypeId) (x i : Operand) : QO P all w1 rest K d f (.indexAddr t x i) = QB P all w1 rest K d f (sIndexAddr P t (ev f x) (ev f i) w1) := rfl
theorem QO_extract (x : Operand) (i : Nat) : QO P all w1 rest K d f (.extract x i) = QB P all w1 rest K d f (sExtract (ev f x) i w1) := rfl
theorem QO_not (t : TypeId) (x : Operand) : QO P all w1 rest K d f (.unOp .not t x) = QB P all w1 rest K d f (sNot (ev f x) w1) := rfl
theorem QO_slice (t : TypeId) (x : Operand) (lo hi : Option Operand) : QO P all w1 rest K d f (.slice t x lo hi none) = QB P all w1 rest K d f (sSlice P t (ev f x) (evo f lo) (evo f hi) w1) := rfl
theorem QO_len (x : Operand) (t : TypeId) : QO P all w1 rest K d f (.call ⟨.builtin .len, #[x], #[t]⟩) = QB P all w1 rest K d f (sLen P t (ev f x) w1) := rfl
theorem QO_max (x y : Operand) (ts : Array TypeId) : QO P all w1 rest K d f (.call ⟨.builtin .max, #[x, y], ts⟩) = QB P all w1 rest K d f (sMax (ev f x) (ev f y) w1) := rfl
theorem QO_min (x y : Operand) (ts : Array TypeId) : QO P all w1 rest K d f (.call ⟨.builtin .min, #[x, y], ts⟩) = QB P all w1 rest K d f (sMin (ev f x) (ev f y) w1) := rfl
theorem QO_lookup (t : TypeId) (x i : Operand) (ok : Bool) : QO P all w1 rest K d f (.lookup t x i ok) = QL P all w1 rest K d f (Instr.lookup t (ev f x) (ev f i) ok) := rfl
theorem QO_func (g : Nat) (as : List Operand) (ts : Array TypeId) : QO P all w1 rest K d f (.call ⟨.value (.func g), as.toArray, ts⟩) = QR P all w1 rest K d f g (evl f as).toArray := by
  simp only [QO, QR, opQ, List.map_toArray, evl]
end
section
variable {P : Program} {all : List Oper} {w1 : World} {rest : List Oper} {K : Fr → Prop} {d : Option Nat} {f : Fr}
theorem QL_intro {s : Sem Value} (v : Value) (h : ∀ w, Ext w1 w → s.run P w = .ok v w) (hk : XQ P all w1 rest K (updO f d v)) : QL P all w1 rest K d f s := ⟨v, h, hk⟩
theorem QR_intro {g : Nat} {args : Array Value} (v : Value) (h : ∀ w, Ext w1 w → Ret P g args w fun u w' => u = v ∧ Ext w w') (hk : XQ P all w1 rest K (updO f d v)) : QR P all w1 rest K d f g args := ⟨v, h, hk⟩
theorem QG_dec {p : Prop} [Decidable p] {op : Op} {want : Bool} (h1 : decide p = want → QO P all w1 rest K d f op) (h2 : decide p = !want → XQ P all w1 rest K (updO f d undef)) : QG P all w1 rest K d f op (.bool (decide p)) want := G_intro h1 h2
theorem QG_bool {t : Bool} {op : Op} {want : Bool} (h1 : t = want → QO P all w1 rest K d f op) (h2 : t = !want → XQ P all w1 rest K (updO f d undef)) : QG P all w1 rest K d f op (.bool t) want := G_intro h1 h2
end
/-- the end of a body -/
def RB (Φ : Value → World → Prop) (w : World) (r : Option (Value × World)) : Prop := B r fun v _ => Φ v w
def RBt (Φ : Value → World → Prop) (w : World) (u : Value) (r : Option (Value × World)) : Prop := B r fun v _ => Φ (.tuple #[v, u]) w
def RBB (Φ : Value → World → Prop) (w : World) (r s : Option (Value × World)) : Prop := B r fun v _ => B s fun u _ => Φ (.tuple #[v, u]) w
section
variable (P : Program) (Φ : Value → World → Prop) (f : Fr) (w : World)
theorem fin_t (t : Nat) : fin P #[.tmp t] Φ .ret f w = Φ (f t) w := rfl
theorem fin_c (a : Nat) (t : TypeId) : fin P #[.cell a t] Φ .ret f w = RB Φ w (sLoad P t (f a) w) := rfl
theorem fin_tt (a b : Nat) : fin P #[.tmp a, .tmp b] Φ .ret f w = Φ (.tuple #[f a, f b]) w := rfl
theorem fin_ct (a : Nat) (t : TypeId) (b : Nat) : fin P #[.cell a t, .tmp b] Φ .ret f w = RBt Φ w (f b) (sLoad P t (f a) w) := rfl
theorem fin_cc (a : Nat) (t : TypeId) (b : Nat) (u : TypeId) : fin P #[.cell a t, .cell b u] Φ .ret f w = RBB Φ w (sLoad P t (f a) w) (sLoad P u (f b) w) := rfl
theorem fin_ttt (a b c : Nat) : fin P #[.tmp a, .tmp b, .tmp c] Φ .ret f w = Φ (.tuple #[f a, f b, f c]) w := rfl
theorem RB_some (v : Value) (w' : World) : RB Φ w (some (v, w')) = Φ v w := rfl
theorem RBt_some (u v : Value) (w' : World) : RBt Φ w u (some (v, w')) = Φ (.tuple #[v, u]) w := rfl
theorem RBB_some (u v : Value) (w' w'' : World) : RBB Φ w (some (v, w')) (some (u, w'')) = Φ (.tuple #[v, u]) w := rfl
end
section
variable (P : Program) (w : World)
theorem sPick_b (t : Bool) (a b : Value) : sPick (.bool t) a b w = some (if t then a else b, w) := rfl
theorem sNot_b (t : Bool) : sNot (.bool t) w = some (.bool !t, w) := rfl
theorem sExtract_t (vs : List Value) (i : Nat) : sExtract (.tuple vs.toArray) i w = (vs[i]?).map (·, w) := by simp [sExtract]
theorem sBin_add (t : TypeId) (k : IntKind) (a b : Int) : sBin P .add t (.int k a) (.int k b) w = if inr k (a + b) then some (.int k (a + b), w) else none := by simp [sBin, sInt]
theorem sBin_sub (t : TypeId) (k : IntKind) (a b : Int) : sBin P .sub t (.int k a) (.int k b) w = if inr k (a - b) then some (.int k (a - b), w) else none := by simp [sBin, sInt]
theorem sBin_mul (t : TypeId) (k : IntKind) (a b : Int) : sBin P .mul t (.int k a) (.int k b) w = if inr k (a * b) then some (.int k (a * b), w) else none := by simp [sBin, sInt]
theorem sBin_quo (t : TypeId) (k : IntKind) (a b : Int) : sBin P .quo t (.int k a) (.int k b) w = if 0 ≤ a ∧ 0 < b ∧ inr k (a / b) then some (.int k (a / b), w) else none := by simp [sBin, sInt]
theorem sBin_rem (t : TypeId) (k : IntKind) (a b : Int) : sBin P .rem t (.int k a) (.int k b) w = if 0 ≤ a ∧ 0 < b then some (.int k (a % b), w) else none := by simp [sBin, sInt]
theorem sBin_and (t : TypeId) (k : IntKind) (a b : Int) : sBin P .and t (.int k a) (.int k b) w = some (.int k (andI k a b), w) := by simp [sBin, sInt]
theorem sBin_eql (t : TypeId) (k : IntKind) (a b : Int) : sBin P .eql t (.int k a) (.int k b) w = some (.bool (decide (a = b)), w) := by simp [sBin, sInt]
theorem sBin_neq (t : TypeId) (k : IntKind) (a b : Int) : sBin P .neq t (.int k a) (.int k b) w = some (.bool (decide (a ≠ b)), w) := by simp [sBin, sInt]
theorem sBin_lss (t : TypeId) (k : IntKind) (a b : Int) : sBin P .lss t (.int k a) (.int k b) w = some (.bool (decide (a < b)), w) := by simp [sBin, sInt]
theorem sBin_leq (t : TypeId) (k : IntKind) (a b : Int) : sBin P .leq t (.int k a) (.int k b) w = some (.bool (decide (a ≤ b)), w) := by simp [sBin, sInt]
theorem sBin_gtr (t : TypeId) (k : IntKind) (a b : Int) : sBin P .gtr t (.int k a) (.int k b) w = some (.bool (decide (b < a)), w) := by simp [sBin, sInt]
theorem sBin_geq (t : TypeId) (k : IntKind) (a b : Int) : sBin P .geq t (.int k a) (.int k b) w = some (.bool (decide (b ≤ a)), w) := by simp [sBin, sInt]
theorem sBin_eqlb (t : TypeId) (a b : Bool) : sBin P .eql t (.bool a) (.bool b) w = if tag P t = 1 then some (.bool (a == b), w) else none := by simp [sBin, sEq, eqFin]
theorem sBin_neqb (t : TypeId) (a b : Bool) : sBin P .neq t (.bool a) (.bool b) w = if tag P t = 1 then some (.bool !(a == b), w) else none := by simp [sBin, sEq, eqFin]
theorem sBin_eqlp (t : TypeId) (a : Option Addr) : sBin P .eql t (.pointer a) (.pointer none) w = if tag P t = 2 then some (.bool a.isNone, w) else none := by simp [sBin, sEq, eqFin]
theorem sBin_neqp (t : TypeId) (a : Option Addr) : sBin P .neq t (.pointer a) (.pointer none) w = if tag P t = 2 then some (.bool !a.isNone, w) else none := by simp [sBin, sEq, eqFin]
theorem sBin_eqls (t : TypeId) (a : Option Addr) (n c n' c' : Nat) : sBin P .eql t (.slice a n c) (.slice none n' c') w = if tag P t = 3 then some (.bool a.isNone, w) else none := by simp [sBin, sEq, eqFin]
theorem sBin_neqs (t : TypeId) (a : Option Addr) (n c n' c' : Nat) : sBin P .neq t (.slice a n c) (.slice none n' c') w = if tag P t = 3 then some (.bool !a.isNone, w) else none := by simp [sBin, sEq, eqFin]
theorem sBin_eqla (t : TypeId) (xs ys : List Value) : sBin P .eql t (.agg xs.toArray) (.agg ys.toArray) w =
    if intStruct P t = true ∧ xs.length = fieldCount P t ∧ ys.length = fieldCount P t then (eqInts xs ys).map fun r => (.bool r, w) else none := by
  simp only [sBin, sEq, eqFin, List.size_toArray]; split
  · cases eqInts xs ys <;> rfl
  · rfl
theorem sBin_neqa (t : TypeId) (xs ys : List Value) : sBin P .neq t (.agg xs.toArray) (.agg ys.toArray) w =
    if intStruct P t = true ∧ xs.length = fieldCount P t ∧ ys.length = fieldCount P t then (eqInts xs ys).map fun r => (.bool !r, w) else none := by
  simp only [sBin, sEq, eqFin, List.size_toArray]; split
  · cases eqInts xs ys <;> rfl
  · rfl
theorem eqInts_nil : eqInts [] [] = some true := rfl
theorem eqInts_cons (k : IntKind) (a b : Int) (xs ys : List Value) : eqInts (.int k a :: xs) (.int k b :: ys) = (eqInts xs ys).map fun r => decide (a = b) && r := by simp [eqInts]
theorem sConv_i (s t : TypeId) (k : IntKind) (n : Int) : sConv P s t (.int k n) w = (kd P s).bind fun _ => (kd P t).bind fun k' => if inr k' n then some (.int k' n, w) else none := by
  simp only [sConv]; cases kd P s <;> cases kd P t <;> rfl
theorem sFieldAddr_p (s : TypeId) (a : Addr) (k : Nat) : sFieldAddr P s (.pointer (some a)) k w = (fld P s k).map fun o => (.pointer (some (a.add o.1)), w) := rfl
theorem sField_a (s : TypeId) (cs : List Value) (k : Nat) : sField P s (.agg cs.toArray) k w = (fld P s k).bind fun o => if o.2.2 = true then some (.agg ((cs.drop o.1).take o.2.1).toArray, w) else (cs[o.1]?).map (·, w) := by
  simp only [sField]
  cases h : fld P s k with
  | none => rfl
  | some o =>
    obtain ⟨o, n, b⟩ := o
    cases b <;> simp [List.extract_eq_take_drop]
theorem sIndexAddr_s (t : TypeId) (a : Addr) (len c : Nat) (k : IntKind) (j : Int) : sIndexAddr P t (.slice (some a) len c) (.int k j) w =
    (esz P t).bind fun n => if 0 ≤ j ∧ j < len then some (.pointer (some (a.add (j.toNat * n))), w) else none := by
  simp only [sIndexAddr]; cases esz P t <;> rfl
theorem sIndexAddr_a (t : TypeId) (a : Addr) (k : IntKind) (j : Int) : sIndexAddr P t (.pointer (some a)) (.int k j) w =
    (arr P t).bind fun p => if 0 ≤ j ∧ j < p.1 then some (.pointer (some (a.add (j.toNat * p.2))), w) else none := by
  simp only [sIndexAddr]; cases arr P t <;> rfl
theorem sLen_s (t : TypeId) (a : Option Addr) (n c : Nat) : sLen P t (.slice a n c) w = if (elt P t).isSome then some (.int .i64 n, w) else none := rfl
theorem sLen_m0 (t : TypeId) : sLen P t (.map none) w = if isMapT P t = true then some (.int .i64 0, w) else none := rfl
theorem sSlice_s (t : TypeId) (a : Option Addr) (len cap : Nat) (lo hi : Option Value) : sSlice P t (.slice a len cap) lo hi w =
    (esz P t).bind fun n => (bnd hi len cap).bind fun h => (bnd lo 0 h).bind fun l => some (.slice (if cap = l then a else a.map (·.add (l * n))) (h - l) (cap - l), w) := by
  simp only [sSlice]
  cases esz P t with
  | none => rfl
  | some n =>
    cases h : bnd hi len cap with
    | none => simp [h]
    | some hh => cases h2 : bnd lo 0 hh <;> simp [h, h2]
theorem bnd_none (d m : Nat) : bnd none d m = some d := rfl
theorem bnd_some (k : IntKind) (i : Int) (d m : Nat) : bnd (some (.int k i)) d m = if 0 ≤ i ∧ i ≤ m then some i.toNat else none := rfl
theorem sMakeMap_e : sMakeMap w = some (.map (some w.heap.size), w.alloc (.map #[] 0)) := rfl
theorem sMakeSlice_i (t : TypeId) (k k' : IntKind) (n m : Int) : sMakeSlice P t (.int k n) (.int k' m) w =
    (elt P t).bind fun e => (zrv P e).bind fun z => (szv P e).bind fun sz => (byv P e).bind fun by_ =>
      if n = m ∧ 0 ≤ n ∧ n ≤ 9223372036854775807 ∧ by_ * n ≤ 281474976710656 ∧ sz = 1 ∧ z.cells.size = 1 then
          some (.slice (some ⟨w.heap.size, 0, none⟩) n.toNat n.toNat, w.alloc (.cells (Array.replicate n.toNat z.cells[0]!) e)) else none := by
  simp only [sMakeSlice]
  cases elt P t with
  | none => rfl
  | some e =>
    simp only [Option.bind_some]
    cases zrv P e <;> cases szv P e <;> cases byv P e <;> rfl
theorem sAlloc_e (t : TypeId) : sAlloc P t w = (zrv P t).bind fun z => some (.pointer (some ⟨w.heap.size, 0, none⟩), w.alloc (.cells z.cells t)) := by
  simp only [sAlloc]; cases zrv P t <;> rfl
theorem sBox_e (t : TypeId) (x : Value) : sBox t x w = some (.pointer (some ⟨w.heap.size, 0, none⟩), w.alloc (.cells x.cells t)) := rfl
theorem sLoad_p (t : TypeId) (a : Addr) : sLoad P t (.pointer (some a)) w = (agb P t).bind fun g => if g = true then (szv P t).bind fun n => (rd w a n).map fun cs => (.agg cs, w) else (w.cell? a).map (·, w) := by
  simp only [sLoad]
  cases agb P t with
  | none => rfl
  | some g => cases g <;> cases szv P t <;> rfl
theorem sStore_p (t : TypeId) (b off : Nat) (v : Value) : sStore P t (.pointer (some ⟨b, off, none⟩)) v w =
    match w.heap[b]? with
    | some (.cells cs e fz) => if szv P t = some v.cells.size ∧ fz = (0, 0) ∧ off + v.cells.size ≤ cs.size ∧ v.cells.toList.all one = true ∧ 0 < v.cells.size then
        some (undef, w.putb b (.cells (spl cs off v.cells.toList) e (0, 0))) else none
    | _ => none := rfl
theorem sBuild_e (t : TypeId) (ps : List (Nat × Value)) : sBuild P t ps w = (bldp P t).bind fun z => (fillV (z.2[·]?) z.1 ps).map fun cs => (.agg cs, w) := by
  simp only [sBuild]; cases bldp P t <;> rfl
theorem fillV_nil (pl : Nat → Option (Nat × Nat)) (cs : Array Value) : fillV pl cs [] = some cs := rfl
theorem fillV_cons (pl : Nat → Option (Nat × Nat)) (cs : Array Value) (i : Nat) (v : Value) (rest : List (Nat × Value)) : fillV pl cs ((i, v) :: rest) =
    (pl i).bind fun o => if v.cells.size = o.2 ∧ o.1 + o.2 ≤ cs.size then fillV pl (spl cs o.1 v.cells.toList) rest else none := by
  simp only [fillV]; cases pl i <;> rfl
theorem sBuildSlice_e (t : TypeId) (len : Nat) (ps : List (Nat × Value)) : sBuildSlice P t len ps w =
    (elt P t).bind fun e => (zrv P e).bind fun z => (szv P e).bind fun n => if len * n ≤ 16777216 then
        (fillV (fun i => some (i * n, n)) ((List.replicate len z.cells.toList).flatten.toArray) ps).bind fun cs => some (.slice (some ⟨w.heap.size, 0, none⟩) len len, w.alloc (.cells cs e))
      else none := by
  simp only [sBuildSlice]
  cases elt P t with
  | none => rfl
  | some e =>
    simp only [Option.bind_some]
    cases zrv P e <;> cases szv P e <;> try rfl
    simp only [Option.bind_some]
    split
    · split
      · rename_i h; simp [h]
      · rename_i h; simp [h]
    · rfl
theorem sMax_i (k k' : IntKind) (a b : Int) : sMax (.int k a) (.int k' b) w = some (.int k (max a b), w) := rfl
theorem sMin_i (k k' : IntKind) (a b : Int) : sMin (.int k a) (.int k' b) w = some (.int k (min a b), w) := rfl
theorem sNil_p (a : Addr) : sNil (.pointer (some a)) w = some (.pointer (some a), w) := rfl
theorem rd_mk (b off n : Nat) : rd w ⟨b, off, none⟩ n = match w.heap[b]? with | some (.cells cs _ _) => if off + n ≤ cs.size then some (cs.extract off (off + n)) else none | _ => none := by
  simp only [rd]
  cases w.heap[b]? with
  | none => rfl
  | some o => cases o <;> simp
end
theorem alloc_get_if (w : World) (o : Obj) (b : Nat) : (w.alloc o).heap[b]? = if b = w.heap.size then some o else w.heap[b]? := by
  show (w.heap.push o)[b]? = _
  rw [Array.getElem?_push]
theorem putb_get_if (w : World) (b c : Nat) (o : Obj) : (w.putb b o).heap[c]? = if c = b then (if b < w.heap.size then some o else none) else w.heap[c]? := by
  simp only [World.putb, Array.getElem?_setIfInBounds]
  by_cases h : c = b
  · subst h; simp
  · have h' : ¬ b = c := fun e => h e.symm
    simp [h, h']
theorem alloc_putb (w : World) (o o' : Obj) : (w.alloc o).putb w.heap.size o' = w.alloc o' := by
  show ({ w with heap := (w.heap.push o).setIfInBounds w.heap.size o' } : World) = { w with heap := w.heap.push o' }
  congr 1
  apply Array.ext'
  simp
theorem ne_add1 (n k : Nat) : (n = n + (k + 1)) = False := by simp
theorem ne_add2 (n k : Nat) : (n + (k + 1) = n) = False := by simp
theorem eq_addadd (n a b : Nat) : (n + a = n + b) = (a = b) := by simp
theorem lt_addadd (n a b : Nat) : (n + a < n + b) = (a < b) := by simp
theorem lt_add1 (n k : Nat) : (n < n + (k + 1)) = True := by simp
theorem addadd (n a b : Nat) : n + a + b = n + (a + b) := Nat.add_assoc n a b
theorem drew_heap (w : World) : w.drew.heap = w.heap := rfl
theorem cells_int (k : IntKind) (n : Int) : (Value.int k n).cells = #[.int k n] := rfl
theorem cells_bool (b : Bool) : (Value.bool b).cells = #[.bool b] := rfl
theorem cells_slice (a : Option Addr) (n c : Nat) : (Value.slice a n c).cells = #[.slice a n c] := rfl
theorem cells_map (a : Option Nat) : (Value.map a).cells = #[.map a] := rfl
theorem cells_ptr (a : Option Addr) : (Value.pointer a).cells = #[.pointer a] := rfl
theorem cells_agg (a : Array Value) : (Value.agg a).cells = a := rfl
theorem cells_func (fn : Fn) (a b : Array Value) : (Value.func fn a b).cells = #[.func fn a b] := rfl
theorem cells_nilFunc : (Value.nilFunc).cells = #[.nilFunc] := rfl
theorem one_int (k : IntKind) (n : Int) : one (Value.int k n) = true := rfl
theorem one_bool (b : Bool) : one (Value.bool b) = true := rfl
theorem one_slice (a : Option Addr) (n c : Nat) : one (Value.slice a n c) = true := rfl
theorem one_map (a : Option Nat) : one (Value.map a) = true := rfl
theorem one_ptr (a : Option Addr) : one (Value.pointer a) = true := rfl
theorem one_func (fn : Fn) (a b : Array Value) : one (Value.func fn a b) = true := rfl
theorem one_nilFunc : one Value.nilFunc = true := rfl
theorem extract_lit (l : List Value) (i j : Nat) : l.toArray.extract i j = ((l.drop i).take (j - i)).toArray := by simp [List.extract_eq_take_drop]
theorem set_lit (l : List Value) (i : Nat) (v : Value) : l.toArray.setIfInBounds i v = (l.set i v).toArray := by simp
theorem get_lit (l : List Value) (i : Nat) : l.toArray[i]? = l[i]? := by simp
theorem get_putb (w : World) (b c : Nat) (o : Obj) (h : b < w.heap.size) : (w.putb b o).heap[c]? = if c = b then some o else w.heap[c]? := by
  by_cases e : c = b
  · subst e; rw [if_pos rfl, putb_get_same h]
  · rw [if_neg e, putb_get_ne e]
/-- the rules of control, of operations, of values -/
def S := And.intro @Wp_skip (And.intro @Wp_exit (And.intro @Wp_ret (And.intro @Wp_reg (And.intro @Wp_draw (And.intro @Wp_seq (And.intro @Wp_cnd (And.intro @Wp_block (And.intro @Wp_loop (And.intro @thenQ_normal (And.intro @thenQ_exit (And.intro @thenQ_ret (And.intro @inBlk_normal (And.intro @inBlk_exit_same (And.intro @inBlk_exit (And.intro @inBlk_ret (And.intro @X_nil (And.intro @X_op (And.intro @X_gd (And.intro @gv_zero (And.intro @gv_succ (And.intro @XG_tt (And.intro @XG_ff (And.intro @XG_tf (And.intro @XG_ft (And.intro @cnd_true (And.intro @cnd_false (And.intro @XB_some (And.intro @XB_ite (And.intro @XO_move (And.intro @XO_assign (And.intro @XO_pick (And.intro @XO_alloc (And.intro @XO_box (And.intro @XO_build (And.intro @XO_buildSlice (And.intro @XO_load (And.intro @XO_store (And.intro @XO_nilCheck (And.intro @XO_bin (And.intro @XO_convert (And.intro @XO_fieldAddr (And.intro @XO_field (And.intro @XO_indexAddr (And.intro @XO_extract (And.intro @XO_not (And.intro @XO_makeMap (And.intro @XO_makeSlice (And.intro @XO_slice (And.intro @XO_len (And.intro @XO_max (And.intro @XO_min (@XO_func))))))))))))))))))))))))))))))))))))))))))))))))))))
def SQ := And.intro @XQ_nil (And.intro @XQ_op (And.intro @XQ_gd (And.intro @QG_tt (And.intro @QG_ff (And.intro @QG_tf (And.intro @QG_ft (And.intro @QB_some (And.intro @QB_ite (And.intro @QO_move (And.intro @QO_assign (And.intro @QO_pick (And.intro @QO_build (And.intro @QO_load (And.intro @QO_nilCheck (And.intro @QO_bin (And.intro @QO_convert (And.intro @QO_fieldAddr (And.intro @QO_field (And.intro @QO_indexAddr (And.intro @QO_extract (And.intro @QO_not (And.intro @QO_slice (And.intro @QO_len (And.intro @QO_max (And.intro @QO_min (And.intro @QO_lookup (@QO_func)))))))))))))))))))))))))))
def SV := And.intro @ev_tmp (And.intro @ev_const (And.intro @ev_func (And.intro @evl_nil (And.intro @evl_cons (And.intro @evs_nil (And.intro @evs_cons (And.intro @evo_none (And.intro @evo_some (And.intro @upd_apply (And.intro @updO_some (And.intro @updO_none (And.intro @fr0_zero (And.intro @fr0_succ (And.intro @inr_i64 (And.intro @sPick_b (And.intro @sNot_b (And.intro @sExtract_t (And.intro @sBin_add (And.intro @sBin_sub (And.intro @sBin_mul (And.intro @sBin_quo (And.intro @sBin_rem (And.intro @sBin_and (And.intro @sBin_eql (And.intro @sBin_neq (And.intro @sBin_lss (And.intro @sBin_leq (And.intro @sBin_gtr (And.intro @sBin_geq (And.intro @sBin_eqlb (And.intro @sBin_neqb (And.intro @sBin_eqlp (And.intro @sBin_neqp (And.intro @sBin_eqls (And.intro @sBin_neqs (And.intro @sBin_eqla (And.intro @sBin_neqa (And.intro @sConv_i (And.intro @sFieldAddr_p (And.intro @sField_a (And.intro @sIndexAddr_s (And.intro @sIndexAddr_a (And.intro @sLen_s (And.intro @sLen_m0 (And.intro @sSlice_s (And.intro @sMakeMap_e (And.intro @sMakeSlice_i (And.intro @sAlloc_e (And.intro @sBox_e (And.intro @sLoad_p (And.intro @sStore_p (And.intro @sBuild_e (And.intro @sBuildSlice_e (And.intro @sMax_i (And.intro @sMin_i (And.intro @sNil_p (And.intro @eqInts_nil (And.intro @eqInts_cons (And.intro @bnd_none (And.intro @bnd_some (And.intro @fillV_nil (And.intro @fillV_cons (And.intro @rd_mk (And.intro @alloc_get_if (And.intro @putb_get_if (And.intro @alloc_putb (And.intro @ne_add1 (And.intro @ne_add2 (And.intro @eq_addadd (And.intro @lt_addadd (And.intro @lt_add1 (And.intro @addadd (And.intro @drew_heap (And.intro @cells_int (And.intro @cells_bool (And.intro @cells_slice (And.intro @cells_map (And.intro @cells_ptr (And.intro @cells_agg (And.intro @cells_func (And.intro @cells_nilFunc (And.intro @one_int (And.intro @one_bool (And.intro @one_slice (And.intro @one_map (And.intro @one_ptr (And.intro @one_func (And.intro @one_nilFunc (And.intro @extract_lit (And.intro @set_lit (And.intro @get_lit (And.intro @cell_mk (And.intro @add_mk (And.intro @alloc_size (And.intro @alloc_size (And.intro @putb_size (And.intro @putb_putb (And.intro @spl_nil (And.intro @spl_cons (And.intro @fin_t (And.intro @fin_c (And.intro @fin_tt (And.intro @fin_ct (And.intro @fin_cc (And.intro @fin_ttt (And.intro @RB_some (And.intro @RBt_some (@RBB_some))))))))))))))))))))))))))))))))))))))))))))))))))))))))))))))))))))))))))))))))))))))))))))))))))))))))))))
theorem if_true_m (α : Type) [h : Decidable True] (a b : α) : (@ite α True h a b) = a := if_pos trivial
theorem if_false_m (α : Type) [h : Decidable False] (a b : α) : (@ite α False h a b) = b := if_neg id
theorem decide_true_m [h : Decidable True] : @decide True h = true := by simp
theorem decide_false_m [h : Decidable False] : @decide False h = false := by simp
/-- lists and options -/
def SL := And.intro (@Option.map_some Value (Value × World)) (And.intro (@Option.map_none Value (Value × World)) (And.intro (@Option.map_some (Nat × Nat × Bool) (Value × World)) (And.intro (@Option.map_none (Nat × Nat × Bool) (Value × World)) (And.intro (@Option.map_some (Array Value) (Value × World)) (And.intro (@Option.map_none (Array Value) (Value × World)) (And.intro (@Option.map_some Bool (Value × World)) (And.intro (@Option.map_none Bool (Value × World)) (And.intro (@Option.map_some Bool Bool) (And.intro (@Option.map_none Bool Bool) (And.intro (@Option.bind_some Nat (Value × World)) (And.intro (@Option.bind_none Nat (Value × World)) (And.intro (@Option.bind_some IntKind (Value × World)) (And.intro (@Option.bind_none IntKind (Value × World)) (And.intro (@Option.bind_some Value (Value × World)) (And.intro (@Option.bind_none Value (Value × World)) (And.intro (@Option.bind_some Bool (Value × World)) (And.intro (@Option.bind_none Bool (Value × World)) (And.intro (@Option.bind_some (Nat × Nat × Bool) (Value × World)) (And.intro (@Option.bind_none (Nat × Nat × Bool) (Value × World)) (And.intro (@Option.bind_some (Array Value × List (Nat × Nat)) (Value × World)) (And.intro (@Option.bind_none (Array Value × List (Nat × Nat)) (Value × World)) (And.intro (@Option.bind_some (Nat × Nat) (Array Value)) (And.intro (@Option.bind_none (Nat × Nat) (Array Value)) (And.intro (@Option.bind_some (Array Value) (Value × World)) (And.intro (@Option.bind_none (Array Value) (Value × World)) (And.intro (@Option.bind_some TypeId (Value × World)) (And.intro (@Option.bind_none TypeId (Value × World)) (And.intro (@List.getElem?_cons_zero Value) (And.intro (@List.getElem?_cons_succ Value) (And.intro (@List.length_cons Value) (And.intro (@List.length_nil Value) (And.intro (@List.getElem?_cons_zero (Nat × Nat)) (And.intro (@List.getElem?_cons_succ (Nat × Nat)) (And.intro (@List.length_cons (Nat × Nat)) (And.intro (@List.length_nil (Nat × Nat)) (And.intro (@List.size_toArray Value) (And.intro (@List.drop_zero Value) (And.intro (@List.drop_succ_cons Value) (And.intro (@List.take_succ_cons Value) (And.intro (@List.take_zero Value) (And.intro (@List.take_nil Value) (And.intro (@List.drop_nil Value) (And.intro (@List.set_cons_zero Value) (And.intro (@List.set_cons_succ Value) (And.intro (@List.toList_toArray Value) (And.intro (@List.all_cons Value) (And.intro (@List.all_nil Value) (And.intro (@List.flatten_cons Value) (And.intro (@List.flatten_nil Value) (And.intro (@List.cons_append Value) (And.intro (@List.nil_append Value) (And.intro (@List.replicate_succ (List Value)) (And.intro (@List.replicate_zero (List Value)) (And.intro (@Option.isSome_some TypeId) (And.intro (@Option.isNone_some Addr) (And.intro (@Option.isNone_none Addr) (And.intro (@Bool.and_true) (And.intro (@Bool.true_and) (And.intro (@Bool.not_true) (And.intro (@Bool.not_false) (And.intro (@and_self) (And.intro (@true_and) (And.intro (@and_true) (And.intro (@Nat.zero_add) (And.intro (@Nat.add_zero) (And.intro (@Nat.mul_one) (And.intro (@Bool.false_eq_true) (And.intro (@not_true_eq_false) (And.intro (@not_false_eq_true) (And.intro (@Bool.and_false) (And.intro (@Bool.false_and) (And.intro (@eq_self TypeId) (And.intro (@eq_self IntKind) (And.intro (@eq_self Int) (And.intro (@eq_self Bool) (And.intro (@ne_eq Int) (And.intro (if_true_m (Option Obj)) (And.intro (if_false_m (Option Obj)) (And.intro (if_true_m Value) (And.intro (if_true_m (Option (Value × World))) (And.intro (if_true_m (Option (Array Value))) (And.intro (if_true_m Prop) (And.intro (if_true_m Int) (And.intro (if_false_m Value) (And.intro (if_false_m (Option (Value × World))) (And.intro (if_false_m (Option (Array Value))) (And.intro (if_false_m Prop) (And.intro (if_false_m Int) (And.intro (@decide_true_m) (@decide_false_m))))))))))))))))))))))))))))))))))))))))))))))))))))))))))))))))))))))))))))))))))))))))))
end Go.W
set_option linter.unusedSimpArgs false
set_option linter.unusedVariables false
namespace Go.W
open Go.RowKit
theorem cell_obj {w : World} {b o : Nat} {v : Value} (h : w.cell? ⟨b, o, none⟩ = some v) : ∃ cs e fz, w.heap[b]? = some (.cells cs e fz) ∧ cs[o]? = some v := by
  rw [cell_mk] at h
  split at h
  · rename_i cs e fz hb; exact ⟨cs, e, fz, hb, h⟩
  · simp at h
/-! ### operations that are met by a run -/
def XV (P : Program) (all rest : List Oper) (K : Fr → World → Prop) (d : Option Nat) (f : Fr) (w : World) (s : Sem Value) : Prop :=
  match s.run P w with
  | .ok v w' => X P all rest K (updO f d v) w'
  | .halt _ _ => False
def XU (P : Program) (all rest : List Oper) (K : Fr → World → Prop) (d : Option Nat) (f : Fr) (w : World) (s : Sem Unit) : Prop :=
  match s.run P w with
  | .ok _ w' => X P all rest K (updO f d undef) w'
  | .halt _ _ => False
section
variable {P : Program} {all rest : List Oper} {K : Fr → World → Prop} {d : Option Nat} {f : Fr} {w : World}
theorem XV_of {s : Sem Value} {v : Value} {w' : World} (hr : s.run P w = .ok v w') (h : X P all rest K (updO f d v) w') : XV P all rest K d f w s := by
  unfold XV; rw [hr]; exact h
theorem XU_of {s : Sem Unit} {w' : World} (hr : s.run P w = .ok () w') (h : X P all rest K (updO f d undef) w') : XU P all rest K d f w s := by
  unfold XU; rw [hr]; exact h
theorem XV_ex {s : Sem Value} {Φ : Value → World → Prop} (hr : ∃ v w', s.run P w = .ok v w' ∧ Φ v w') (h : ∀ v w', Φ v w' → X P all rest K (updO f d v) w') : XV P all rest K d f w s := by
  obtain ⟨v, w', hr, hp⟩ := hr
  exact XV_of hr (h v w' hp)
end
theorem raw_XV {P : Program} {K : Value → World → Prop} {w : World} (s : Sem Value) :
    upon P K ((s >>= fun a => pure (Next.value a)).run P w) = (match s.run P w with | .ok v w' => K v w' | .halt _ _ => False) := by
  rw [run_bind]
  cases s.run P w with
  | ok a w' => rfl
  | halt h w' => cases h <;> rfl
theorem raw_XU {P : Program} {K : Value → World → Prop} {w : World} (s : Sem Unit) :
    upon P K ((s >>= fun _ => pure Next.skip).run P w) = (match s.run P w with | .ok _ w' => K undef w' | .halt _ _ => False) := by
  rw [run_bind]
  cases s.run P w with
  | ok a w' => rfl
  | halt h w' => cases h <;> rfl
section
variable (P : Program) (all rest : List Oper) (K : Fr → World → Prop) (d : Option Nat) (f : Fr) (w : World) (ty : TypeId)
theorem XO_lookup (t : TypeId) (x i : Operand) (ok : Bool) : XO P all rest K d f w (.lookup t x i ok) ty = XV P all rest K d f w (Instr.lookup t (ev f x) (ev f i) ok) := raw_XV _
theorem XO_range (t : TypeId) (x : Operand) : XO P all rest K d f w (.range t x) ty = XV P all rest K d f w (Instr.range t (ev f x)) := raw_XV _
theorem XO_next (x : Operand) (s : Bool) : XO P all rest K d f w (.next x s) ty = XV P all rest K d f w (Instr.next (ev f x) s ty) := raw_XV _
theorem XO_entry (x : Operand) : XO P all rest K d f w (.entry x) ty = XV P all rest K d f w (Instr.entry (ev f x)) := raw_XV _
theorem XO_mapUpdate (t : TypeId) (m k v : Operand) : XO P all rest K d f w (.mapUpdate t m k v) ty = XU P all rest K d f w (Instr.mapUpdate t (ev f m) (ev f k) (ev f v)) := raw_XU _
theorem XO_append (s x : Operand) (ts : Array TypeId) : XO P all rest K d f w (.call ⟨.builtin .append, #[s, x], ts⟩) ty = XV P all rest K d f w (Builtin.append_ ts ty #[ev f s, ev f x]) := by
  refine Eq.trans ?_ (raw_XV (P := P) (K := fun v w' => X P all rest K (updO f d v) w') (w := w) (Builtin.append_ ts ty #[ev f s, ev f x]))
  simp only [XO, opW, callW, raw, execOp, resolve, invoke, builtin, run_bind, Sem.run, pure, List.map_toArray, List.map_cons, List.map_nil]
theorem XO_delete (s x : Operand) (ts : Array TypeId) : XO P all rest K d f w (.call ⟨.builtin .delete, #[s, x], ts⟩) ty = XV P all rest K d f w (Builtin.delete_ ts ty #[ev f s, ev f x]) := by
  refine Eq.trans ?_ (raw_XV (P := P) (K := fun v w' => X P all rest K (updO f d v) w') (w := w) (Builtin.delete_ ts ty #[ev f s, ev f x]))
  simp only [XO, opW, callW, raw, execOp, resolve, invoke, builtin, run_bind, Sem.run, pure, List.map_toArray, List.map_cons, List.map_nil]
theorem XO_copy (s x : Operand) (ts : Array TypeId) : XO P all rest K d f w (.call ⟨.builtin .copy, #[s, x], ts⟩) ty = XV P all rest K d f w (Builtin.copy_ ts ty #[ev f s, ev f x]) := by
  refine Eq.trans ?_ (raw_XV (P := P) (K := fun v w' => X P all rest K (updO f d v) w') (w := w) (Builtin.copy_ ts ty #[ev f s, ev f x]))
  simp only [XO, opW, callW, raw, execOp, resolve, invoke, builtin, run_bind, Sem.run, pure, List.map_toArray, List.map_cons, List.map_nil]
end

/-! ### maps with integer keys -/
abbrev Ent := Int × Value × Nat
def mk (l : List Ent) : Array MapEntry := (l.map fun p => (⟨.int .i64 p.1, p.2.1, p.2.2⟩ : MapEntry)).toArray
def mget (l : List Ent) (k : Int) : Option Value := (l.find? (·.1 == k)).map (·.2.1)
def mdel (l : List Ent) (k : Int) : List Ent := l.filter (·.1 != k)
def mset (l : List Ent) (c : Nat) (k : Int) (v : Value) : List Ent × Nat :=
  if (mget l k).isSome then (l.map fun p => if p.1 = k then (k, v, p.2.2) else p, c) else (l ++ [(k, v, c)], c + 1)
structure MWF (l : List Ent) (c : Nat) : Prop where
  keys : (l.map (·.1)).Nodup
  borns : (l.map (·.2.2)).Nodup
  lt : ∀ p ∈ l, p.2.2 < c
theorem MWF_nil : MWF [] 0 := ⟨by simp, by simp, by simp⟩
theorem mget_nil (k : Int) : mget [] k = none := rfl
theorem mget_cons (p : Ent) (l : List Ent) (k : Int) : mget (p :: l) k = if p.1 = k then some p.2.1 else mget l k := by
  unfold mget
  by_cases h : p.1 = k <;> simp [List.find?_cons, h]
theorem mget_none {l : List Ent} {k : Int} : mget l k = none ↔ ∀ p ∈ l, p.1 ≠ k := by
  induction l with
  | nil => simp [mget_nil]
  | cons p l ih => rw [mget_cons]; by_cases h : p.1 = k <;> simp [h, ih]
theorem mget_mem {l : List Ent} (hk : (l.map (·.1)).Nodup) {p : Ent} (hp : p ∈ l) : mget l p.1 = some p.2.1 := by
  induction l with
  | nil => cases hp
  | cons q l ih =>
    rw [mget_cons]
    simp only [List.map_cons, List.nodup_cons] at hk
    cases hp with
    | head => simp
    | tail _ h =>
      have : q.1 ≠ p.1 := fun e => hk.1 (e ▸ List.mem_map.2 ⟨p, h, rfl⟩)
      rw [if_neg this, ih hk.2 h]
theorem mget_some_mem {l : List Ent} {k : Int} {v : Value} (h : mget l k = some v) : ∃ b, (k, v, b) ∈ l := by
  induction l with
  | nil => simp [mget_nil] at h
  | cons q l ih =>
    rw [mget_cons] at h
    by_cases e : q.1 = k
    · rw [if_pos e] at h
      obtain ⟨a, b, c⟩ := q
      simp only [Option.some.injEq] at h e
      subst e h
      exact ⟨c, by simp⟩
    · rw [if_neg e] at h
      obtain ⟨b, hb⟩ := ih h
      exact ⟨b, by simp [hb]⟩
theorem mget_append (l l' : List Ent) (k : Int) : mget (l ++ l') k = (mget l k).or (mget l' k) := by
  induction l with
  | nil => simp [mget_nil]
  | cons p l ih => rw [List.cons_append, mget_cons, mget_cons, ih]; by_cases h : p.1 = k <;> simp [h]
theorem mget_mdel (l : List Ent) (k k' : Int) : mget (mdel l k) k' = if k' = k then none else mget l k' := by
  induction l with
  | nil => simp [mdel, mget_nil]
  | cons p l ih =>
    unfold mdel at *
    rw [List.filter_cons]
    by_cases h : p.1 = k
    · simp only [h, bne_self_eq_false, Bool.false_eq_true, if_false, ih]
      by_cases e : k' = k
      · simp [e]
      · rw [if_neg e, if_neg e, mget_cons, if_neg (by rw [h]; exact fun x => e x.symm)]
    · simp only [bne_iff_ne, ne_eq, h, not_false_eq_true, if_true, mget_cons, ih]
      by_cases e : k' = k
      · simp [e, h]
      · simp [e]
theorem mget_map_set (l : List Ent) (k : Int) (v : Value) (k' : Int) : mget (l.map fun p => if p.1 = k then (k, v, p.2.2) else p) k' = if k' = k then (mget l k).map (fun _ => v) else mget l k' := by
  induction l with
  | nil => simp [mget_nil]
  | cons p l ih =>
    rw [List.map_cons, mget_cons, ih, mget_cons, mget_cons]
    by_cases h : p.1 = k
    · by_cases e : k' = k
      · simp [h, e]
      · have : ¬ k = k' := fun x => e x.symm
        simp [h, e, this]
    · by_cases e : k' = k
      · subst e; simp [h]
      · simp [h, e]
theorem mget_mset (l : List Ent) (c : Nat) (k : Int) (v : Value) (k' : Int) : mget (mset l c k v).1 k' = if k' = k then some v else mget l k' := by
  unfold mset
  cases h : mget l k with
  | some u =>
    simp only [Option.isSome_some, if_true]
    rw [mget_map_set, h]; rfl
  | none =>
    simp only [Option.isSome_none, Bool.false_eq_true, if_false]
    rw [mget_append, mget_cons, mget_nil]
    by_cases e : k' = k
    · subst e; simp [h]
    · have : ¬ k = k' := fun x => e x.symm
      simp [e, this]
theorem MWF.del {l : List Ent} {c : Nat} (h : MWF l c) (k : Int) : MWF (mdel l k) c := by
  unfold mdel
  exact ⟨h.keys.sublist (List.Sublist.map _ List.filter_sublist), h.borns.sublist (List.Sublist.map _ List.filter_sublist), fun p hp => h.lt p (List.mem_filter.1 hp).1⟩
theorem map_keys_set (l : List Ent) (k : Int) (v : Value) : (l.map fun p => if p.1 = k then (k, v, p.2.2) else p).map (·.1) = l.map (·.1) := by
  rw [List.map_map]; apply List.map_congr_left; intro p hp; simp only [Function.comp]; split <;> simp_all
theorem map_borns_set (l : List Ent) (k : Int) (v : Value) : (l.map fun p => if p.1 = k then (k, v, p.2.2) else p).map (·.2.2) = l.map (·.2.2) := by
  rw [List.map_map]; apply List.map_congr_left; intro p hp; simp only [Function.comp]; split <;> simp_all
theorem MWF.set {l : List Ent} {c : Nat} (h : MWF l c) (k : Int) (v : Value) : MWF (mset l c k v).1 (mset l c k v).2 := by
  unfold mset
  split
  · refine ⟨by rw [map_keys_set]; exact h.keys, by rw [map_borns_set]; exact h.borns, ?_⟩
    intro p hp
    obtain ⟨q, hq, rfl⟩ := List.mem_map.1 hp
    have := h.lt q hq
    split <;> simpa using this
  · rename_i hn
    have hnone : mget l k = none := by cases hm : mget l k <;> simp_all
    refine ⟨?_, ?_, ?_⟩
    · simp only [List.map_append, List.map_cons, List.map_nil]
      rw [List.nodup_append]
      refine ⟨h.keys, by simp, ?_⟩
      intro a ha b hb
      simp only [List.mem_singleton] at hb
      obtain ⟨p, hp, rfl⟩ := List.mem_map.1 ha
      subst hb
      exact mget_none.1 hnone p hp
    · simp only [List.map_append, List.map_cons, List.map_nil]
      rw [List.nodup_append]
      refine ⟨h.borns, by simp, ?_⟩
      intro a ha b hb
      simp only [List.mem_singleton] at hb
      obtain ⟨p, hp, rfl⟩ := List.mem_map.1 ha
      subst hb
      have := h.lt p hp
      omega
    · intro p hp
      simp only [List.mem_append, List.mem_singleton] at hp
      rcases hp with hp | rfl
      · have := h.lt p hp
        simp only []
        omega
      · simp
theorem mk_size (l : List Ent) : (mk l).size = l.length := by simp [mk]
theorem mk_toList (l : List Ent) : (mk l).toList = l.map fun p => (⟨.int .i64 p.1, p.2.1, p.2.2⟩ : MapEntry) := by simp [mk]

/-- the number of the entry of a key -/
theorem findNow_mk (k : Int) : ∀ (l : List Ent) (i : Nat), Instr.findNow (.int .i64) (.int .i64 k) (l.map fun p => (⟨.int .i64 p.1, p.2.1, p.2.2⟩ : MapEntry)) i =
    some ((l.findIdx? (·.1 == k)).bind fun j => (mget l k).map fun v => (i + j, v)) := by
  intro l
  induction l with
  | nil => intro i; simp [Instr.findNow]
  | cons p l ih =>
    intro i
    simp only [List.map_cons, Instr.findNow, Instr.sameNow, if_true, List.findIdx?_cons]
    by_cases h : k = p.1
    · subst h; simp [mget_cons]
    · have h' : ¬ p.1 = k := fun e => h e.symm
      have hb : (k == p.1) = false := by simp [h]
      have hb' : (p.1 == k) = false := by simp [h']
      simp only [hb, hb', ih, mget_cons, h', if_false]
      cases hf : l.findIdx? (·.1 == k) with
      | none => simp
      | some j => simp [Nat.add_assoc, Nat.add_comm 1]
theorem findIdx_none {l : List Ent} {k : Int} (h : mget l k = none) : l.findIdx? (·.1 == k) = none := by
  rw [List.findIdx?_eq_none_iff]
  intro p hp
  simpa using mget_none.1 h p hp
theorem findIdx_some {l : List Ent} {k : Int} {v : Value} (h : mget l k = some v) : ∃ j, l.findIdx? (·.1 == k) = some j := by
  cases hf : l.findIdx? (·.1 == k) with
  | some j => exact ⟨j, rfl⟩
  | none =>
    rw [List.findIdx?_eq_none_iff] at hf
    obtain ⟨b, hb⟩ := mget_some_mem h
    have := hf _ hb
    simp at this
/-- the map type t has integer keys; its elements' type -/
def mpe (P : Program) (t : TypeId) : Option TypeId := match P.underlying t with | some (.map k e) => if kd P k = some .i64 then some e else none | _ => none
theorem mpe_spec {P : Program} {t e : TypeId} (h : mpe P t = some e) : ∃ k, P.underlying t = some (.map k e) ∧ P.underlying k = some (.int .i64) := by
  unfold mpe at h
  split at h
  · rename_i k e' hu
    split at h
    · rename_i hk
      simp only [Option.some.injEq] at h
      subst h
      exact ⟨k, hu, kd_spec hk⟩
    · simp at h
  · simp at h
theorem run_checkKey_int {P : Program} {w : World} {k : TypeId} (hk : P.underlying k = some (.int .i64)) (b : Bool) (n : Int) : (Instr.checkKey b 10000 k (.int .i64 n)).run P w = .ok () w := by
  unfold Instr.checkKey
  simp only [run_bind, run_underlying hk]
  rfl
theorem run_findKey_mk {P : Program} {w : World} {kt : TypeId} (hk : P.underlying kt = some (.int .i64)) (k : Int) (l : List Ent) :
    (Instr.findKey kt (.int .i64 k) (mk l).toList).run P w = .ok ((l.findIdx? (·.1 == k)).bind fun j => (mget l k).map fun v => (j, v)) w := by
  unfold Instr.findKey
  simp only [run_bind, run_underlying hk, mk_toList, findNow_mk, Nat.zero_add]
  rfl
theorem run_lookup {P : Program} {w : World} {t e : TypeId} {z : Value} {r c : Nat} {l : List Ent} (ht : mpe P t = some e) (hz : zrv P e = some z) (hr : w.heap[r]? = some (.map (mk l) c)) (k : Int) (ok : Bool) :
    (Instr.lookup t (.map (some r)) (.int .i64 k) ok).run P w = .ok (if ok then .tuple #[(mget l k).getD z, .bool (mget l k).isSome] else (mget l k).getD z) w := by
  obtain ⟨kt, h1, h2⟩ := mpe_spec ht
  unfold Instr.lookup
  simp only [run_bind, run_underlying h1, run_getObj hr, run_checkKey_int h2, run_findKey_mk h2, Sem.run, pure]
  cases hm : mget l k with
  | none => simp only [findIdx_none hm, Option.bind_none, run_bind, run_zeroValue hz, Sem.run]; cases ok <;> simp
  | some v =>
    obtain ⟨j, hj⟩ := findIdx_some hm
    simp only [hj, Option.bind_some, Option.map_some, Sem.run]; cases ok <;> simp
theorem run_lookup_nil {P : Program} {w : World} {t e : TypeId} {z : Value} (ht : mpe P t = some e) (hz : zrv P e = some z) (k : Int) (ok : Bool) :
    (Instr.lookup t (.map none) (.int .i64 k) ok).run P w = .ok (if ok then .tuple #[z, .bool false] else z) w := by
  obtain ⟨kt, h1, h2⟩ := mpe_spec ht
  unfold Instr.lookup
  simp only [run_bind, run_underlying h1, run_checkKey_int h2, Sem.run, pure]
  have := run_findKey_mk (P := P) (w := w) h2 k []
  simp only [mk, List.map_nil] at this
  simp only [this, List.findIdx?_nil, Option.bind_none, run_bind, run_zeroValue hz, Sem.run]
theorem run_setObj {P : Program} {r : Nat} {w : World} {es : Array MapEntry} {c : Nat} (h : w.heap[r]? = some (.map es c)) (o : Obj) : (Go.setObj r o).run P w = .ok () (w.putb r o) := by
  simp [Go.setObj, Sem.run, h, World.putb]
theorem mk_modify (l : List Ent) (k : Int) (v : Value) (hk : (l.map (·.1)).Nodup) (j : Nat) (hj : l.findIdx? (·.1 == k) = some j) :
    (mk l).modify j (fun e => { e with key := .int .i64 k, val := v }) = mk (l.map fun p => if p.1 = k then (k, v, p.2.2) else p) := by
  apply Array.ext'
  rw [Array.toList_modify, mk_toList, mk_toList, List.map_map]
  obtain ⟨hlt, hjk, hjb⟩ := List.findIdx?_eq_some_iff_getElem.1 hj
  simp only [beq_iff_eq] at hjk
  apply List.ext_getElem
  · simp
  · intro i h1 h2
    simp only [List.length_modify, List.length_map] at h1
    rw [List.getElem_modify]
    simp only [List.getElem_map, Function.comp]
    by_cases e : j = i
    · subst e; simp [hjk]
    · have : ¬ l[i].1 = k := by
        intro he
        have hn := List.pairwise_iff_getElem.1 hk
        rcases Nat.lt_or_gt_of_ne e with hlt' | hgt
        · exact hn j i (by simpa using hlt) (by simpa using h1) hlt' (by simp [hjk, he])
        · exact hn i j (by simpa using h1) (by simpa using hlt) hgt (by simp [hjk, he])
      simp [e, this]
theorem run_mapUpdate {P : Program} {w : World} {t e : TypeId} {r c : Nat} {l : List Ent} (ht : mpe P t = some e) (hr : w.heap[r]? = some (.map (mk l) c)) (hk : (l.map (·.1)).Nodup) (k : Int) (v : Value) :
    (Instr.mapUpdate t (.map (some r)) (.int .i64 k) v).run P w = .ok () (w.putb r (.map (mk (mset l c k v).1) (mset l c k v).2)) := by
  obtain ⟨kt, h1, h2⟩ := mpe_spec ht
  unfold Instr.mapUpdate
  simp only [run_bind, run_underlying h1, run_getObj hr, run_checkKey_int h2, run_findKey_mk h2]
  unfold mset
  cases hm : mget l k with
  | none =>
    simp only [findIdx_none hm, Option.bind_none, run_setObj hr, Option.isSome_none, Bool.false_eq_true, if_false]
    congr 3
    apply Array.ext'
    rw [Array.toList_push, mk_toList, mk_toList]
    simp
  | some u =>
    obtain ⟨j, hj⟩ := findIdx_some hm
    obtain ⟨hlt, hjk, _⟩ := List.findIdx?_eq_some_iff_getElem.1 hj
    simp only [beq_iff_eq] at hjk
    have hkey : ((((mk l)[j]?).map (·.key)).getD (.int .i64 k)) = .int .i64 k := by
      have : (mk l)[j]? = some ⟨.int .i64 l[j].1, l[j].2.1, l[j].2.2⟩ := by simp [mk, hlt]
      rw [this]; simp [hjk]
    simp only [hj, Option.bind_some, Option.map_some, run_bind, hkey, Option.isSome_some, if_true]
    have hks : (Instr.keyThatStays (.int .i64 k) (.int .i64 k)).run P w = .ok (.int .i64 k) w := by
      unfold Instr.keyThatStays
      simp [Instr.sameBits, Sem.run, pure]
    simp only [hks, run_setObj hr]
    congr 3
    exact mk_modify l k v hk j hj
theorem eraseIdx_map' {α β : Type} (g : α → β) : ∀ (l : List α) (j : Nat), (l.map g).eraseIdx j = (l.eraseIdx j).map g
  | [], j => by simp
  | x :: l, 0 => by simp
  | x :: l, j + 1 => by simp [eraseIdx_map' g l j]
theorem mk_erase (l : List Ent) (k : Int) (hk : (l.map (·.1)).Nodup) (j : Nat) (hj : l.findIdx? (·.1 == k) = some j) : (mk l).eraseIdxIfInBounds j = mk (mdel l k) := by
  obtain ⟨hlt, hjk, hjb⟩ := List.findIdx?_eq_some_iff_getElem.1 hj
  simp only [beq_iff_eq] at hjk
  have e1 : l.eraseIdx j = mdel l k := by
    unfold mdel
    clear hj hjb
    induction l generalizing j with
    | nil => simp at hlt
    | cons p l ih =>
      simp only [List.map_cons, List.nodup_cons] at hk
      cases j with
      | zero =>
        simp only [List.getElem_cons_zero] at hjk
        simp only [List.eraseIdx_cons_zero, List.filter_cons, hjk, bne_self_eq_false, Bool.false_eq_true, if_false]
        symm
        rw [List.filter_eq_self]
        intro q hq
        simp only [bne_iff_ne, ne_eq]
        intro e
        exact hk.1 (by rw [hjk, ← e]; exact List.mem_map.2 ⟨q, hq, rfl⟩)
      | succ j =>
        simp only [List.getElem_cons_succ, List.length_cons] at hjk hlt
        have hne : p.1 ≠ k := by
          intro e
          exact hk.1 (by rw [e, ← hjk]; exact List.mem_map.2 ⟨_, List.getElem_mem _, rfl⟩)
        simp only [List.eraseIdx_cons_succ, List.filter_cons, bne_iff_ne, ne_eq, hne, not_false_eq_true, if_true]
        rw [ih hk.2 j (by omega) hjk]
  apply Array.ext'
  have hsz : j < (mk l).size := by rw [mk_size]; exact hlt
  rw [Array.eraseIdxIfInBounds, dif_pos hsz, Array.toList_eraseIdx, mk_toList, mk_toList, ← e1, eraseIdx_map']
theorem run_delete {P : Program} {w : World} {t kt0 e ty : TypeId} {r c : Nat} {l : List Ent} (ht : mpe P t = some e) (hr : w.heap[r]? = some (.map (mk l) c)) (hk : (l.map (·.1)).Nodup) (k : Int) :
    (Builtin.delete_ #[t, kt0] ty #[.map (some r), .int .i64 k]).run P w = .ok (.tuple #[]) (w.putb r (.map (mk (mdel l k)) c)) := by
  obtain ⟨kt, h1, h2⟩ := mpe_spec ht
  unfold Builtin.delete_
  simp only [List.getElem?_toArray, List.getElem?_cons_zero, List.getElem?_cons_succ, run_bind, run_underlying h1, run_getObj hr, run_checkKey_int h2, run_findKey_mk h2]
  cases hm : mget l k with
  | none =>
    have e1 : mdel l k = l := by
      unfold mdel
      rw [List.filter_eq_self]
      intro p hp
      simpa using mget_none.1 hm p hp
    simp only [findIdx_none hm, Option.bind_none, run_bind, run_setObj hr, e1]
    rfl
  | some u =>
    obtain ⟨j, hj⟩ := findIdx_some hm
    simp only [hj, Option.bind_some, Option.map_some, run_bind, run_setObj hr, mk_erase l k hk j hj]
    rfl
end Go.W
set_option linter.unusedSimpArgs false
set_option linter.unusedVariables false
set_option linter.defProp false
namespace Go.W
open Go.RowKit
theorem run_range {P : Program} {w : World} {t : TypeId} {r c : Nat} {es : Array MapEntry} (ht : isMapT P t = true) (hr : w.heap[r]? = some (.map es c)) :
    (Instr.range t (.map (some r))).run P w = .ok (.pointer (some ⟨w.heap.size, 0, none⟩)) (w.alloc (.mapIter (some r) c #[] c)) := by
  obtain ⟨k, e, hu⟩ := isMapT_spec ht
  simp [Instr.range, run_bind, run_underlying hu, run_getObj hr, newObj, Sem.run, pure]
theorem run_range_nil {P : Program} {w : World} {t : TypeId} (ht : isMapT P t = true) :
    (Instr.range t (.map none)).run P w = .ok (.pointer (some ⟨w.heap.size, 0, none⟩)) (w.alloc (.mapIter none 0 #[] 0)) := by
  obtain ⟨k, e, hu⟩ := isMapT_spec ht
  simp [Instr.range, run_bind, run_underlying hu, newObj, Sem.run, pure]
theorem run_getIter {P : Program} {w : World} {it : Nat} {m : Option Nat} {s : Nat} {seen : Array Nat} {st : Nat} (h : w.heap[it]? = some (.mapIter m s seen st)) : (Go.getObj it).run P w = .ok (.mapIter m s seen st) w := by
  simp [Go.getObj, Sem.run, h]
theorem run_setIter {P : Program} {w : World} {it : Nat} {m : Option Nat} {s : Nat} {seen : Array Nat} {st : Nat} (h : w.heap[it]? = some (.mapIter m s seen st)) (o : Obj) : (Go.setObj it o).run P w = .ok () (w.putb it o) := by
  simp [Go.setObj, Sem.run, h, World.putb]
theorem run_next_nil {P : Program} {w : World} {it : Nat} {s : Nat} {seen : Array Nat} {st : Nat} {ty : TypeId} (h : w.heap[it]? = some (.mapIter none s seen st)) :
    (Instr.next (.pointer (some ⟨it, 0, none⟩)) false ty).run P w = .ok (.tuple #[.bool false]) w := by
  simp only [Instr.next, run_bind, run_getIter h]
  rfl
theorem run_next {P : Program} {w : World} {it r c : Nat} {seen : Array Nat} {l : List Ent} {ty : TypeId} (hi : w.heap[it]? = some (.mapIter (some r) c seen c)) (hr : w.heap[r]? = some (.map (mk l) c)) (hlt : ∀ p ∈ l, p.2.2 < c) :
    ((∀ p ∈ l, p.2.2 ∈ seen) ∧ (Instr.next (.pointer (some ⟨it, 0, none⟩)) false ty).run P w = .ok (.tuple #[.bool false]) w) ∨
    (∃ p ∈ l, p.2.2 ∉ seen ∧ ∃ w1, (w1 = w ∨ w1 = w.drew) ∧ (Instr.next (.pointer (some ⟨it, 0, none⟩)) false ty).run P w = .ok (.tuple #[.bool true, .int .i64 p.1, p.2.1]) (w1.putb it (.mapIter (some r) c (seen.push p.2.2) c))) := by
  let M (p : Ent) : MapEntry := ⟨.int .i64 p.1, p.2.1, p.2.2⟩
  have hmk : mk l = (l.map M).toArray := rfl
  -- no entry is new
  have hall : (!(mk l).isEmpty && (mk l).all (fun e => decide (e.born ≥ c))) = false := by
    cases l with
    | nil => simp [mk]
    | cons p l =>
      have : ¬ c ≤ p.2.2 := by have := hlt p (by simp); omega
      simp [mk, this]
  have hcheck : (!seen.isEmpty && !(mk l).isEmpty && (mk l).all (fun e => decide (e.born ≥ c))) = false := by
    rw [Bool.and_assoc, hall, Bool.and_false]
  let left := l.filter fun p => !seen.contains p.2.2
  have hleft : (mk l).filter (fun e => !seen.contains e.born) = (left.map M).toArray := by
    rw [hmk]
    simp only [List.filter_toArray, left]
    rw [List.filter_map]
    rfl
  have hleftlt : ∀ p ∈ left, p.2.2 < c := fun p hp => hlt p (List.mem_filter.1 hp).1
  have hold : ((left.map M).toArray).filter (fun e => decide (e.born < c)) = (left.map M).toArray := by
    simp only [List.filter_toArray]
    congr 1
    rw [List.filter_eq_self]
    intro e he
    obtain ⟨p, hp, rfl⟩ := List.mem_map.1 he
    simpa [M] using hleftlt p hp
  have hnew : ((left.map M).toArray).filter (fun e => decide (e.born ≥ c)) = #[] := by
    simp only [List.filter_toArray]
    congr 1
    rw [List.filter_eq_nil_iff]
    intro e he
    obtain ⟨p, hp, rfl⟩ := List.mem_map.1 he
    have := hleftlt p hp
    simp only [M, ge_iff_le, decide_eq_true_eq]
    omega
  simp only [Instr.next, run_bind, run_getIter hi, run_getObj hr, hcheck, Bool.false_eq_true, if_false, hleft, hold, hnew, Array.append_empty]
  by_cases hnil : left = []
  · refine .inl ⟨?_, ?_⟩
    · intro p hp
      have : p ∉ left := by rw [hnil]; simp
      simp only [left, List.mem_filter, hp, true_and, Bool.not_eq_true', Bool.not_eq_false] at this
      simpa using this
    · simp only [hnil, List.map_nil, List.isEmpty_toArray, List.isEmpty_nil, if_true, List.map_toArray, List.append_toArray, List.append_nil, choose, Sem.run, Question.forced, List.size_toArray, List.length_cons, List.length_nil]
      rfl
  · have hne : (left.map M).toArray.isEmpty = false := by
      cases hl : left with
      | nil => exact (hnil hl).elim
      | cons a b => simp
    simp only [hne, Bool.false_eq_true, if_false, Array.empty_append, List.map_toArray, List.map_map]
    have hlen : 0 < left.length := List.length_pos_iff.2 hnil
    -- the number drawn
    have key : ∀ (n : Nat) (w1 : World), n < left.length → (w1 = w ∨ w1 = w.drew) →
        (match ((left.map (some ∘ M)).toArray[n]? : Option (Option MapEntry)) with
          | some (some e) => (do Go.setObj it (.mapIter (some r) c (seen.push e.born) c); pure (.tuple #[.bool true, e.key, e.val]))
          | some none => pure (.tuple #[.bool false])
          | none => stuck "Next: no such candidate" : Sem Value).run P w1 = .ok (.tuple #[.bool true, .int .i64 left[n]!.1, left[n]!.2.1]) (w1.putb it (.mapIter (some r) c (seen.push left[n]!.2.2) c)) := by
      intro n w1 hn hw
      have hi1 : w1.heap[it]? = some (.mapIter (some r) c seen c) := by rcases hw with rfl | rfl <;> exact hi
      have : (left.map (some ∘ M)).toArray[n]? = some (some (M left[n]!)) := by
        simp [hn]
      rw [this]
      simp only [run_bind, run_setIter hi1]
      rfl
    refine .inr ?_
    have hpick : ∀ n, n < left.length → left[n]! ∈ l ∧ left[n]!.2.2 ∉ seen := by
      intro n hn
      have hm : left[n]! ∈ left := by rw [getElem!_pos left n hn]; exact List.getElem_mem hn
      have := List.mem_filter.1 hm
      refine ⟨this.1, ?_⟩
      simpa using this.2
    by_cases h1 : left.length ≤ 1
    · refine ⟨left[0]!, (hpick 0 hlen).1, (hpick 0 hlen).2, w, .inl rfl, ?_⟩
      have hf : (Question.mapNext (left.map (some ∘ M)).toArray.size).forced = true := by simp [Question.forced, h1]
      have hc : (choose (Question.mapNext (left.map (some ∘ M)).toArray.size)).run P w = .ok 0 w := by
        simp only [choose, Sem.run, hf, if_true]
      rw [hc]
      exact key 0 w hlen (.inl rfl)
    · have hf : (Question.mapNext (left.map (some ∘ M)).toArray.size).forced = false := by simp [Question.forced]; omega
      let n := w.tape w.drawn (Question.mapNext (left.map (some ∘ M)).toArray.size) % left.length
      have hn : n < left.length := Nat.mod_lt _ hlen
      refine ⟨left[n]!, (hpick n hn).1, (hpick n hn).2, w.drew, .inr rfl, ?_⟩
      have hc : (choose (Question.mapNext (left.map (some ∘ M)).toArray.size)).run P w = .ok n w.drew := by
        unfold choose Sem.run
        rw [hf]
        simp only [Bool.false_eq_true, if_false, Question.cut, List.size_toArray, List.length_map, Sem.run]
        simp only [n, List.size_toArray, List.length_map]
        rfl
      rw [hc]
      exact key n w.drew hn (.inr rfl)
theorem run_entry {P : Program} {w : World} {it r c s : Nat} {seen : Array Nat} {l : List Ent} {p : Ent} (hi : w.heap[it]? = some (.mapIter (some r) s (seen.push p.2.2) c)) (hr : w.heap[r]? = some (.map (mk l) c))
    (hb : (l.map (·.2.2)).Nodup) (hp : p ∈ l) : (Instr.entry (.pointer (some ⟨it, 0, none⟩))).run P w = .ok (.tuple #[.int .i64 p.1, p.2.1]) w := by
  have hfind : (mk l).find? (·.born == p.2.2) = some ⟨.int .i64 p.1, p.2.1, p.2.2⟩ := by
    rw [← Array.find?_toList, mk_toList]
    clear hr
    induction l with
    | nil => cases hp
    | cons q l ih =>
      simp only [List.map_cons, List.nodup_cons] at hb
      simp only [List.map_cons, List.find?_cons]
      cases hp with
      | head => simp
      | tail _ h =>
        have : q.2.2 ≠ p.2.2 := fun e => hb.1 (e ▸ List.mem_map.2 ⟨p, h, rfl⟩)
        have hbq : (q.2.2 == p.2.2) = false := by simp [this]
        rw [hbq]
        exact ih hb.2 h
  simp only [Instr.entry, run_bind, run_getIter hi, Array.back?_push, run_getObj hr, bne_self_eq_false, Bool.false_eq_true, if_false, hfind]
  rfl
/-- entries still to come -/
def todo (l : List Ent) (seen : Array Nat) : List Ent := l.filter fun p => !seen.contains p.2.2
theorem todo_lt {l : List Ent} {seen : Array Nat} {p : Ent} (hp : p ∈ l) (hn : p.2.2 ∉ seen) : (todo l (seen.push p.2.2)).length < (todo l seen).length := by
  unfold todo
  have hsub : (l.filter fun q => !(seen.push p.2.2).contains q.2.2) = ((l.filter fun q => !seen.contains q.2.2).filter fun q => q.2.2 != p.2.2) := by
    rw [List.filter_filter]
    congr 1
    funext q
    simp only [Array.contains_push, Bool.not_or]
    rw [Bool.and_comm]
    rfl
  rw [hsub]
  apply List.length_filter_lt_length_iff_exists.2
  exact ⟨p, List.mem_filter.2 ⟨hp, by simpa using hn⟩, by simp⟩

/-! ### append -/
theorem Ext.grown {a w w' : World} {row : Option Nat} (h : Ext a w) (hg : w.grownBy w' row) (hr : ∀ k, row = some k → a.heap.size ≤ k) : Ext a w' :=
  Ext.of_below (h.below.grown hg h.size hr)
theorem own_append {P : Program} {w : World} {base : Nat} {t ty e : TypeId} {size bytes : Nat} {z : Value} (he : elt P t = some e) (hs : szv P e = some size) (hb : byv P e = some bytes) (hz : zrv P e = some z)
    (hzs : z.cells.size = size) (hpos : 0 < size) {v : Value} {n : Nat} {xs : List Value} (hown : w.ownsRow base e size v n xs) (a : Addr) (m c : Nat) (news : List Value) (hl : news.length = m * size)
    (hnews : ∀ j u, news[j]? = some u → w.cell? (a.add j) = some u) (h1 : ∀ u ∈ news, one u = true) (h63 : n + m ≤ maxLen) (hbytes : (n + m) * bytes ≤ 140737488355328) (hbase : base ≤ w.heap.size) :
    ∃ v' w', (Builtin.append_ #[t, t] ty #[v, .slice (some a) m c]).run P w = .ok v' w' ∧ w'.ownsRow base e size v' (n + m) (xs ++ news) ∧ w.grownBy w' v.ownBlock := by
  obtain ⟨i, hi, rfl⟩ := Option.map_eq_some_iff.1 hs
  obtain ⟨i', hi', hzi⟩ := Option.bind_eq_some_iff.1 hz
  obtain ⟨i'', hi'', rfl⟩ := Option.map_eq_some_iff.1 hb
  rw [hi] at hi' hi''
  simp only [Option.some.injEq] at hi' hi''
  subst hi' hi''
  obtain ⟨v', w', h1', h2, h3, _⟩ := run_append_own (P := P) w base t ty e i z i.size i.bytes (elt_spec he) hi hzi rfl rfl hzs hpos v n xs hown a m c news hl hnews (fun u hu => by have := h1 u hu; cases u <;> simp_all [one, Value.oneCell']) h63 hbytes hbase
  exact ⟨v', w', h1', h2, h3⟩
theorem own_append_nil {P : Program} {w : World} {base : Nat} {t ty e : TypeId} {size : Nat} (he : elt P t = some e) (hs : szv P e = some size) {v : Value} {n : Nat} {xs : List Value} (hown : w.ownsRow base e size v n xs) :
    (Builtin.append_ #[t, t] ty #[v, .slice none 0 0]).run P w = .ok v w := by
  obtain ⟨i, hi, rfl⟩ := Option.map_eq_some_iff.1 hs
  exact run_append_owned_none (P := P) w base t ty e i i.size (elt_spec he) hi v n xs hown
/-- operations that are met by a run -/
def SX := And.intro @XO_lookup (And.intro @XO_range (And.intro @XO_next (And.intro @XO_entry (And.intro @XO_mapUpdate (And.intro @XO_append (And.intro @XO_delete @XO_copy))))))
end Go.W
set_option linter.unusedSimpArgs false
set_option linter.unusedVariables false
namespace Go.W
theorem born_inj {l : List Ent} (hb : (l.map (·.2.2)).Nodup) {p q : Ent} (hp : p ∈ l) (hq : q ∈ l) (h : p.2.2 = q.2.2) : p = q := by
  have h1 := List.pairwise_iff_getElem.1 hb
  obtain ⟨a, ha, rfl⟩ := List.getElem_of_mem hp
  obtain ⟨b, hb', rfl⟩ := List.getElem_of_mem hq
  rcases Nat.lt_trichotomy a b with hab | hab | hab
  · exact (h1 a b (by simpa using ha) (by simpa using hb') hab (by simpa using h)).elim
  · subst hab; rfl
  · exact (h1 b a (by simpa using hb') (by simpa using ha) hab (by simpa using h.symm)).elim
theorem key_inj {l : List Ent} (hk : (l.map (·.1)).Nodup) {p q : Ent} (hp : p ∈ l) (hq : q ∈ l) (h : p.1 = q.1) : p = q := by
  have h1 := List.pairwise_iff_getElem.1 hk
  obtain ⟨a, ha, rfl⟩ := List.getElem_of_mem hp
  obtain ⟨b, hb', rfl⟩ := List.getElem_of_mem hq
  rcases Nat.lt_trichotomy a b with hab | hab | hab
  · exact (h1 a b (by simpa using ha) (by simpa using hb') hab (by simpa using h)).elim
  · subst hab; rfl
  · exact (h1 b a (by simpa using hb') (by simpa using ha) hab (by simpa using h.symm)).elim
structure TR (l1 lc : List Ent) (seen : Array Nat) (g : Value → Option Value) (c : Nat) : Prop where
  wf1 : MWF l1 c
  wf : MWF lc c
  sub : ∀ p ∈ lc, ∃ q ∈ l1, q.1 = p.1 ∧ q.2.2 = p.2.2
  val : ∀ q ∈ l1, mget lc q.1 = if q.2.2 ∈ seen then g q.2.1 else some q.2.1
theorem TR.start {l1 : List Ent} {c : Nat} (h : MWF l1 c) (g : Value → Option Value) : TR l1 l1 #[] g c :=
  ⟨h, h, fun p hp => ⟨p, hp, rfl, rfl⟩, fun q hq => by simpa using mget_mem h.keys hq⟩
theorem TR.old {l1 lc : List Ent} {seen : Array Nat} {g : Value → Option Value} {c : Nat} (h : TR l1 lc seen g c) {p : Ent} (hp : p ∈ lc) (hn : p.2.2 ∉ seen) : p ∈ l1 := by
  obtain ⟨q, hq, h1, h2⟩ := h.sub p hp
  have h3 := h.val q hq
  rw [h2, if_neg hn, h1, mget_mem h.wf.keys hp] at h3
  obtain ⟨a, b, d⟩ := p
  obtain ⟨a', b', d'⟩ := q
  simp only [Option.some.injEq] at h1 h2 h3
  subst h1 h2 h3
  exact hq
theorem TR.mem_push {l1 lc : List Ent} {seen : Array Nat} {g : Value → Option Value} {c : Nat} (h : TR l1 lc seen g c) {p : Ent} (hp : p ∈ lc) (hn : p.2.2 ∉ seen) {q : Ent} (hq : q ∈ l1) :
    q.2.2 ∈ seen.push p.2.2 ↔ (q.2.2 ∈ seen ∨ q = p) := by
  rw [Array.mem_push]
  constructor
  · rintro (h1 | h1)
    · exact .inl h1
    · exact .inr (born_inj h.wf1.borns hq (h.old hp hn) h1)
  · rintro (h1 | rfl)
    · exact .inl h1
    · exact .inr rfl
theorem TR.keep {l1 lc : List Ent} {seen : Array Nat} {g : Value → Option Value} {c : Nat} (h : TR l1 lc seen g c) {p : Ent} (hp : p ∈ lc) (hn : p.2.2 ∉ seen) (hg : g p.2.1 = some p.2.1) : TR l1 lc (seen.push p.2.2) g c := by
  refine ⟨h.wf1, h.wf, h.sub, fun q hq => ?_⟩
  rw [h.val q hq]
  by_cases hs : q.2.2 ∈ seen
  · rw [if_pos hs, if_pos ((h.mem_push hp hn hq).2 (.inl hs))]
  · rw [if_neg hs]
    by_cases e : q = p
    · subst e; rw [if_pos ((h.mem_push hp hn hq).2 (.inr rfl)), hg]
    · rw [if_neg (fun hx => (((h.mem_push hp hn hq).1 hx).elim hs e))]
theorem TR.del {l1 lc : List Ent} {seen : Array Nat} {g : Value → Option Value} {c : Nat} (h : TR l1 lc seen g c) {p : Ent} (hp : p ∈ lc) (hn : p.2.2 ∉ seen) (hg : g p.2.1 = none) : TR l1 (mdel lc p.1) (seen.push p.2.2) g c := by
  refine ⟨h.wf1, h.wf.del _, fun q hq => h.sub q (List.mem_filter.1 hq).1, fun q hq => ?_⟩
  rw [mget_mdel, h.val q hq]
  by_cases e : q = p
  · subst e; rw [if_pos rfl, if_pos ((h.mem_push hp hn hq).2 (.inr rfl)), hg]
  · have hk : ¬ q.1 = p.1 := fun hk => e (key_inj h.wf1.keys hq (h.old hp hn) hk)
    rw [if_neg hk]
    by_cases hs : q.2.2 ∈ seen
    · rw [if_pos hs, if_pos ((h.mem_push hp hn hq).2 (.inl hs))]
    · rw [if_neg hs, if_neg (fun hx => (((h.mem_push hp hn hq).1 hx).elim hs e))]
theorem mset_old {l : List Ent} {c : Nat} {k : Int} {v u : Value} (h : mget l k = some u) : (mset l c k v).2 = c := by simp [mset, h]
theorem TR.set {l1 lc : List Ent} {seen : Array Nat} {g : Value → Option Value} {c : Nat} (h : TR l1 lc seen g c) {p : Ent} (hp : p ∈ lc) (hn : p.2.2 ∉ seen) {v : Value} (hg : g p.2.1 = some v) : TR l1 (mset lc c p.1 v).1 (seen.push p.2.2) g c := by
  have hm := mget_mem h.wf.keys hp
  refine ⟨h.wf1, ?_, fun q hq => ?_, fun q hq => ?_⟩
  · have := h.wf.set p.1 v; rw [mset_old hm] at this; exact this
  · simp only [mset, hm, Option.isSome_some, if_true] at hq
    obtain ⟨q', hq', rfl⟩ := List.mem_map.1 hq
    obtain ⟨q0, hq0, h1, h2⟩ := h.sub q' hq'
    refine ⟨q0, hq0, ?_, ?_⟩
    · split
      · rename_i e; rw [h1, e]
      · exact h1
    · split <;> exact h2
  · rw [mget_mset, h.val q hq]
    by_cases e : q = p
    · subst e; rw [if_pos rfl, if_pos ((h.mem_push hp hn hq).2 (.inr rfl)), hg]
    · have hk : ¬ q.1 = p.1 := fun hk => e (key_inj h.wf1.keys hq (h.old hp hn) hk)
      rw [if_neg hk]
      by_cases hs : q.2.2 ∈ seen
      · rw [if_pos hs, if_pos ((h.mem_push hp hn hq).2 (.inl hs))]
      · rw [if_neg hs, if_neg (fun hx => (((h.mem_push hp hn hq).1 hx).elim hs e))]
theorem TR.done {l1 lc : List Ent} {seen : Array Nat} {g : Value → Option Value} {c : Nat} (h : TR l1 lc seen g c) (hall : ∀ p ∈ lc, p.2.2 ∈ seen) (k : Int) : mget lc k = (mget l1 k).bind g := by
  cases hk : mget l1 k with
  | none =>
    rw [mget_none] at hk
    simp only [Option.bind_none]
    rw [mget_none]
    intro p hp e
    obtain ⟨q, hq, h1, _⟩ := h.sub p hp
    exact hk q hq (h1.trans e)
  | some v =>
    obtain ⟨b, hb⟩ := mget_some_mem hk
    have h2 := h.val _ hb
    simp only [] at h2
    rw [h2]
    by_cases hs : b ∈ seen
    · rw [if_pos hs]; rfl
    · exfalso
      rw [if_neg hs] at h2
      obtain ⟨b', hb'⟩ := mget_some_mem h2
      obtain ⟨q, hq, h3, h4⟩ := h.sub _ hb'
      have : q = (k, v, b) := key_inj h.wf1.keys hq hb h3
      subst this
      simp only [] at h4
      have := hall _ hb'
      simp only [] at this
      exact hs (h4 ▸ this)
end Go.W
set_option linter.unusedSimpArgs false
set_option linter.unusedVariables false
namespace Go.W
theorem B_mono {r : Option (Value × World)} {K K' : Value → World → Prop} (hm : ∀ v w, K v w → K' v w) (h : B r K) : B r K' := by
  unfold B at *
  split at h
  · exact hm _ _ h
  · exact h
theorem callW_mono {P : Program} {c : Call} {ty : TypeId} {f : Fr} {w : World} {K K' : Value → World → Prop} (hm : ∀ v w, K v w → K' v w) (h : callW P c ty f w K) : callW P c ty f w K' := by
  rcases c with ⟨callee, as, ts⟩
  cases callee with
  | builtin b =>
    cases b
    case len =>
      simp only [callW] at h ⊢
      generalize has : as.toList = la at h ⊢
      generalize hts : ts.toList = lt at h ⊢
      rcases la with _ | ⟨x, _ | ⟨y, r⟩⟩ <;> rcases lt with _ | ⟨t, _ | ⟨u, r'⟩⟩ <;> first | exact B_mono hm h | exact raw_mono hm h
    case max =>
      simp only [callW] at h ⊢
      generalize has : as.toList = la at h ⊢
      rcases la with _ | ⟨x, _ | ⟨y, _ | ⟨z, r⟩⟩⟩ <;> first | exact B_mono hm h | exact raw_mono hm h
    case min =>
      simp only [callW] at h ⊢
      generalize has : as.toList = la at h ⊢
      rcases la with _ | ⟨x, _ | ⟨y, _ | ⟨z, r⟩⟩⟩ <;> first | exact B_mono hm h | exact raw_mono hm h
    all_goals exact raw_mono hm h
  | value f0 => cases f0 <;> first | exact Ret.mono h hm | exact raw_mono hm h
  | invoke a b => exact raw_mono hm h
theorem opW_mono {P : Program} {op : Op} {ty : TypeId} {f : Fr} {w : World} {K K' : Value → World → Prop} (hm : ∀ v w, K v w → K' v w) (h : opW P op ty f w K) : opW P op ty f w K' := by
  cases op
  case unOp o t x => cases o <;> simp only [opW] at h ⊢ <;> first | exact B_mono hm h | exact raw_mono hm h
  case makeMap t r => cases r <;> simp only [opW] at h ⊢ <;> first | exact B_mono hm h | exact raw_mono hm h
  case slice t x lo hi mx => cases mx <;> simp only [opW] at h ⊢ <;> first | exact B_mono hm h | exact raw_mono hm h
  case call c => exact callW_mono hm h
  case move x => exact hm _ _ h
  case assign x => exact hm _ _ h
  case buildSlice t n ps => exact ⟨h.1, B_mono hm h.2⟩
  all_goals (simp only [opW] at h ⊢; first | exact B_mono hm h | exact raw_mono hm h)
theorem G_mono {v : Value} {want : Bool} {A A' B B' : Prop} (ha : A → A') (hb : B → B') (h : G v want A B) : G v want A' B' := by
  unfold G at *
  split at h
  · exact ⟨fun e => ha (h.1 e), fun e => hb (h.2 e)⟩
  · exact hb h
theorem X_mono {P : Program} {all : List Oper} {K K' : Fr → World → Prop} (hm : ∀ f w, K f w → K' f w) : ∀ (l : List Oper) (f : Fr) (w : World), X P all l K f w → X P all l K' f w := by
  intro l
  induction l with
  | nil => intro f w h; exact hm _ _ h
  | cons o rest ih =>
    intro f w h
    cases hg : o.guard with
    | none => simp only [X, hg] at h ⊢; exact opW_mono (fun v w' hx => ih _ _ hx) h
    | some jw => simp only [X, hg] at h ⊢; exact G_mono (opW_mono fun v w' hx => ih _ _ hx) (ih _ _) h
theorem XQ_mono {P : Program} {all : List Oper} {w1 : World} {K K' : Fr → Prop} (hm : ∀ f, K f → K' f) : ∀ (l : List Oper) (f : Fr), XQ P all w1 l K f → XQ P all w1 l K' f := by
  intro l
  induction l with
  | nil => intro f h; exact hm _ h
  | cons o rest ih =>
    intro f h
    cases hg : o.guard with
    | none => simp only [XQ, hg] at h ⊢; obtain ⟨v, h1, h2⟩ := h; exact ⟨v, h1, ih _ h2⟩
    | some jw => simp only [XQ, hg] at h ⊢; exact G_mono (fun ⟨v, h1, h2⟩ => ⟨v, h1, ih _ h2⟩) (ih _) h
theorem DR_mono {P : Program} {ops : List Oper} {K K' : Fr → World → Prop} {f : Fr} {w : World} (hm : ∀ f w, K f w → K' f w) (h : DR P ops K f w) : DR P ops K' f w := by
  rcases h with ⟨h1, h2, I, h3, h4, h5⟩ | ⟨h1, h2, h3⟩
  · exact .inl ⟨h1, h2, I, h3, h4, fun L f w hI hL => hm _ _ (h5 L f w hI hL)⟩
  · exact .inr ⟨h1, h2, XQ_mono (fun f hk w' hE => hm _ _ (hk w' hE)) _ _ h3⟩
theorem Wp_mono {P : Program} : ∀ (c : Code) {Q Q' : Exit → Fr → World → Prop}, (∀ e f w, Q e f w → Q' e f w) → ∀ (f : Fr) (w : World), Wp P c Q f w → Wp P c Q' f w := by
  intro c
  induction c with
  | skip => intro Q Q' hm f w h; exact hm _ _ _ h
  | exit id => intro Q Q' hm f w h; exact hm _ _ _ h
  | ret => intro Q Q' hm f w h; exact hm _ _ _ h
  | region id ops draw =>
    intro Q Q' hm f w h
    cases draw with
    | false => exact X_mono (fun f w => hm _ f w) _ _ _ h
    | true => exact DR_mono (fun f w => hm _ f w) h
  | seq a b iha ihb =>
    intro Q Q' hm f w h
    refine iha ?_ f w h
    intro e f w hq
    cases e with
    | normal => exact ihb hm f w hq
    | _ => exact hm _ _ _ hq
  | cond c a b iha ihb =>
    intro Q Q' hm f w h
    simp only [Wp, condP] at h ⊢
    split at h
    · exact ⟨fun e => iha hm f w (h.1 e), fun e => ihb hm f w (h.2 e)⟩
    · exact h.elim
  | block id b ih =>
    intro Q Q' hm f w h
    refine ih ?_ f w h
    intro e f w hq
    cases e with
    | exit id' => simp only [inBlk] at hq ⊢; split at hq <;> rename_i hc <;> simp only [hc, if_true, if_false] <;> exact hm _ _ _ hq
    | _ => exact hm _ _ _ hq
  | loop b ih =>
    intro Q Q' hm f w h
    obtain ⟨α, I, μ, x0, h0, hr⟩ := h
    refine ⟨α, I, μ, x0, h0, fun x f w hI => ih ?_ f w (hr x f w hI)⟩
    intro e f w hq
    cases e with
    | normal => exact hq
    | _ => exact hm _ _ _ hq
  | _ => intro Q Q' hm f w h; exact h.elim
theorem thenQ_sub {next J : Fr → World → Prop} {Q : Exit → Fr → World → Prop} (hJ : ∀ f w, J f w → next f w) : ∀ e f w, thenQ J Q e f w → thenQ next Q e f w := by
  intro e f w h
  cases e with
  | normal => exact hJ _ _ h
  | _ => exact h
section
variable {P : Program} {all rest : List Oper} {next J : Fr → World → Prop} {Q : Exit → Fr → World → Prop} {d : Option Nat} {f : Fr} {w : World} {ty : TypeId}
/-- a test whose ways meet again -/
theorem cnd_cut (J : Fr → World → Prop) {a b : Code} {v : Value} (h : cnd P a b (thenQ J Q) f w v) (hJ : ∀ f w, J f w → next f w) : cnd P a b (thenQ next Q) f w v := by
  unfold cnd condP at *
  split at h
  · exact ⟨fun e => Wp_mono a (thenQ_sub hJ) f w (h.1 e), fun e => Wp_mono b (thenQ_sub hJ) f w (h.2 e)⟩
  · exact h.elim
theorem Wp_cut (J : Fr → World → Prop) {c : Code} (h : Wp P c (thenQ J Q) f w) (hJ : ∀ f w, J f w → next f w) : Wp P c (thenQ next Q) f w := Wp_mono c (thenQ_sub hJ) f w h
theorem LoopP_cut (J : Fr → World → Prop) {c : Code} (h : LoopP (Wp P c) (thenQ J Q) f w) (hJ : ∀ f w, J f w → next f w) : LoopP (Wp P c) (thenQ next Q) f w := Wp_mono (.loop c) (thenQ_sub hJ) f w h
theorem inBlk_sub {id : Nat} {Q Q' : Exit → Fr → World → Prop} (hm : ∀ e f w, Q e f w → Q' e f w) : ∀ e f w, inBlk id Q e f w → inBlk id Q' e f w := by
  intro e f w hq
  cases e with
  | exit id' => simp only [inBlk] at hq ⊢; split at hq <;> rename_i hc <;> simp only [hc, if_true, if_false] <;> exact hm _ _ _ hq
  | _ => exact hm _ _ _ hq
theorem LoopP_cutB (J : Fr → World → Prop) {id : Nat} {c : Code} (h : LoopP (Wp P c) (inBlk id (thenQ J Q)) f w) (hJ : ∀ f w, J f w → next f w) : LoopP (Wp P c) (inBlk id (thenQ next Q)) f w :=
  Wp_mono (.loop c) (inBlk_sub (thenQ_sub hJ)) f w h
theorem DR_cut (J : Fr → World → Prop) {ops : List Oper} (h : DR P ops J f w) (hJ : ∀ f w, J f w → next f w) : DR P ops next f w := Wp_mono (.region 0 ops.toArray true) (Q := thenQ J fun _ _ _ => True) (Q' := thenQ next fun _ _ _ => True) (thenQ_sub hJ) f w h
theorem X_cut (J : Fr → World → Prop) {l : List Oper} (h : X P all l J f w) (hJ : ∀ f w, J f w → next f w) : X P all l next f w := X_mono hJ _ _ _ h
theorem XO_cut (J : Fr → World → Prop) {op : Op} (h : XO P all rest J d f w op ty) (hJ : ∀ f w, J f w → next f w) : XO P all rest next d f w op ty := opW_mono (fun _ _ => X_mono hJ _ _ _) h
theorem XG_cut (J : Fr → World → Prop) {op : Op} {v : Value} {want : Bool} (h : XG P all rest J d f w op ty v want) (hJ : ∀ f w, J f w → next f w) : XG P all rest next d f w op ty v want :=
  G_mono (fun h => XO_cut J h hJ) (X_mono hJ _ _ _) h
theorem XR_cut (J : Fr → World → Prop) {g : Nat} {args : Array Value} (h : XR P all rest J d f g args w) (hJ : ∀ f w, J f w → next f w) : XR P all rest next d f g args w := Ret.mono h fun _ _ => X_mono hJ _ _ _
end
theorem cnd_cutB {P : Program} {Q : Exit → Fr → World → Prop} {next : Fr → World → Prop} {f : Fr} {w : World} (J : Fr → World → Prop) {id : Nat} {a b : Code} {v : Value} (h : cnd P a b (inBlk id (thenQ J Q)) f w v) (hJ : ∀ f w, J f w → next f w) : cnd P a b (inBlk id (thenQ next Q)) f w v := by
  unfold cnd condP at *
  split at h
  · exact ⟨fun e => Wp_mono a (inBlk_sub (thenQ_sub hJ)) f w (h.1 e), fun e => Wp_mono b (inBlk_sub (thenQ_sub hJ)) f w (h.2 e)⟩
  · exact h.elim
theorem XG_un (P : Program) (all rest : List Oper) (K : Fr → World → Prop) (d : Option Nat) (f : Fr) (w : World) (ty : TypeId) (op : Op) (want : Bool) : XG P all rest K d f w op ty undef want = X P all rest K (updO f d undef) w := rfl
theorem QG_un (P : Program) (all : List Oper) (w1 : World) (rest : List Oper) (K : Fr → Prop) (d : Option Nat) (f : Fr) (op : Op) (want : Bool) : QG P all w1 rest K d f op undef want = XQ P all w1 rest K (updO f d undef) := rfl
end Go.W
set_option linter.unusedSimpArgs false
set_option linter.unusedVariables false
namespace Go.W
theorem rd_obj {w : World} {b o n : Nat} {r : Array Value} (h : rd w ⟨b, o, none⟩ n = some r) : ∃ cs e fz, w.heap[b]? = some (.cells cs e fz) ∧ o + n ≤ cs.size ∧ cs.extract o (o + n) = r := by
  rw [rd_mk] at h
  split at h
  · rename_i cs e fz hb
    split at h
    · rename_i hle; simp only [Option.some.injEq] at h; exact ⟨cs, e, fz, hb, hle, h⟩
    · simp at h
  · simp at h
/-- a slice whose elements take sz cells each -/
def SlAt (w : World) (v : Value) (sz : Nat) (rows : List (List Value)) : Prop :=
  ((∃ a c, v = .slice a 0 c) ∧ rows = []) ∨ ∃ b off cap, v = .slice (some ⟨b, off, none⟩) rows.length cap ∧ ∀ i r, rows[i]? = some r → rd w ⟨b, off + i * sz, none⟩ sz = some r.toArray
theorem SlAt.ext {w w' : World} {v : Value} {sz : Nat} {rows : List (List Value)} (h : SlAt w v sz rows) (hE : Ext w w') : SlAt w' v sz rows := by
  rcases h with h | ⟨b, off, cap, h1, h2⟩
  · exact .inl h
  · exact .inr ⟨b, off, cap, h1, fun i r hr => rd_ext hE (h2 i r hr)⟩
theorem SlAt.form {w : World} {v : Value} {sz : Nat} {rows : List (List Value)} (h : SlAt w v sz rows) : ∃ a c, v = .slice a rows.length c := by
  rcases h with ⟨⟨a, c, h⟩, h'⟩ | ⟨b, off, cap, h1, h2⟩
  · exact ⟨a, c, by rw [h, h']; rfl⟩
  · exact ⟨_, _, h1⟩
/-- an element -/
theorem SlAt.get {w : World} {sz : Nat} {rows : List (List Value)} {a : Option Addr} {n c : Nat} (h : SlAt w (.slice a n c) sz rows) {i : Nat} {r : List Value} (hr : rows[i]? = some r) :
    ∃ b off cs e fz, a = some ⟨b, off, none⟩ ∧ n = rows.length ∧ w.heap[b]? = some (.cells cs e fz) ∧ off + i * sz + sz ≤ cs.size ∧ cs.extract (off + i * sz) (off + i * sz + sz) = r.toArray := by
  rcases h with ⟨h, h'⟩ | ⟨b, off, cap, h1, h2⟩
  · subst h'; simp at hr
  · simp only [Value.slice.injEq] at h1
    obtain ⟨rfl, rfl, rfl⟩ := h1
    obtain ⟨cs, e, fz, h3, h4, h5⟩ := rd_obj (h2 i r hr)
    exact ⟨b, off, cs, e, fz, rfl, rfl, h3, h4, h5⟩
theorem flatten_get (sz : Nat) : ∀ (rows : List (List Value)), (∀ r ∈ rows, r.length = sz) → ∀ (i : Nat) (r : List Value), rows[i]? = some r → (rows.flatten.drop (i * sz)).take sz = r := by
  intro rows
  induction rows with
  | nil => intro _ i r h; simp at h
  | cons x rows ih =>
    intro hl i r hr
    have hx := hl x (by simp)
    cases i with
    | zero =>
      simp only [List.getElem?_cons_zero, Option.some.injEq] at hr
      subst hr
      simp only [Nat.zero_mul, List.drop_zero, List.flatten_cons]
      rw [← hx, List.take_left]
    | succ i =>
      simp only [List.getElem?_cons_succ] at hr
      have := ih (fun r hr => hl r (by simp [hr])) i r hr
      rw [List.flatten_cons, Nat.succ_mul, Nat.add_comm, ← List.drop_drop, ← hx, List.drop_left, hx]
      exact this
theorem flatten_length (sz : Nat) : ∀ (rows : List (List Value)), (∀ r ∈ rows, r.length = sz) → rows.flatten.length = rows.length * sz := by
  intro rows
  induction rows with
  | nil => intro _; simp
  | cons x rows ih =>
    intro hl
    rw [List.flatten_cons, List.length_append, ih (fun r hr => hl r (by simp [hr])), hl x (by simp), List.length_cons, Nat.succ_mul, Nat.add_comm]
theorem SlAt.of_own {w : World} {base : Nat} {e : TypeId} {sz : Nat} {v : Value} {rows : List (List Value)} (hrows : ∀ r ∈ rows, r.length = sz) (h : w.ownsRow base e sz v rows.length rows.flatten) : SlAt w v sz rows := by
  rcases h.2 with ⟨rfl, hn⟩ | ⟨g, cap, cur, rfl, hb, hg, hnc, hcm, hcs, htake⟩
  · exact .inl ⟨⟨_, _, rfl⟩, List.eq_nil_of_length_eq_zero hn⟩
  · refine .inr ⟨g, 0, cap, rfl, fun i r hr => ?_⟩
    have hi : i < rows.length := (List.getElem?_eq_some_iff.1 hr).1
    have hle : (i + 1) * sz ≤ rows.length * sz := Nat.mul_le_mul_right _ hi
    rw [Nat.succ_mul] at hle
    have hle2 : rows.length * sz ≤ cap * sz := Nat.mul_le_mul_right _ hnc
    rw [rd_mk, hg, Nat.zero_add]
    simp only []
    rw [if_pos (by omega)]
    congr 1
    apply Array.ext'
    simp only [Array.toList_extract, List.extract_eq_take_drop]
    rw [← flatten_get sz rows hrows i r hr, ← htake, List.drop_take, List.take_take]
    congr 1
    omega
def Apart (b : Nat) (v : Value) (rows : List (List Value)) : Prop := rows = [] ∨ some b ≠ v.ownBlock
theorem SlAt.putb {w : World} {v : Value} {sz : Nat} {rows : List (List Value)} (h : SlAt w v sz rows) {b : Nat} (hb : Apart b v rows) (o : Obj) : SlAt (w.putb b o) v sz rows := by
  rcases h with h | ⟨b', off, cap, h1, h2⟩
  · exact .inl h
  · refine .inr ⟨b', off, cap, h1, fun i r hr => ?_⟩
    rcases hb with rfl | hb
    · simp at hr
    · subst h1
      have hne : b' ≠ b := by rintro rfl; exact hb rfl
      have := h2 i r hr
      rw [rd_mk] at this ⊢
      rw [putb_get_ne hne]
      exact this
theorem SlAt.apart {w : World} {v : Value} {sz : Nat} {rows : List (List Value)} (h : SlAt w v sz rows) {b : Nat} (hb : w.heap.size ≤ b) : Apart b v rows := by
  cases rows with
  | nil => exact .inl rfl
  | cons r rows =>
    obtain ⟨a, c, rfl⟩ := h.form
    obtain ⟨b', off, cs, e, fz, rfl, _, h2, _⟩ := h.get (i := 0) (r := r) (by simp)
    refine .inr ?_
    have := get_lt h2
    intro e
    simp only [Value.ownBlock, Option.some.injEq] at e
    omega
theorem own_apart {w : World} {base : Nat} {e : TypeId} {sz : Nat} {v : Value} {n : Nat} {xs : List Value} (h : w.ownsRow base e sz v n xs) {b : Nat} (hb : b < base) (rows : List (List Value)) : Apart b v rows := by
  refine .inr fun e => ?_
  have := (h.lt _ e.symm).1
  omega
theorem own_lit {w : World} {base : Nat} {e : TypeId} (sz : Nat) {v : Value} {n : Nat} {rows : List (List Value)} (hn : rows.length = n) {xs : List Value} (h : w.ownsRow base e sz v n xs) (hx : xs = rows.flatten) : w.ownsRow base e sz v rows.length rows.flatten := by
  subst hn hx; exact h
theorem own_form {w : World} {base : Nat} {e : TypeId} {sz : Nat} {v : Value} {n : Nat} {xs : List Value} (h : w.ownsRow base e sz v n xs) : ∃ a c, v = .slice a n c := by
  rcases h.2 with ⟨rfl, rfl⟩ | ⟨g, cap, cur, rfl, _⟩
  · exact ⟨_, _, rfl⟩
  · exact ⟨_, _, rfl⟩
/-- a block of another type is not the row's -/
theorem own_blk {w : World} {base : Nat} {e : TypeId} {sz : Nat} {v : Value} {n : Nat} {xs : List Value} (ho : w.ownsRow base e sz v n xs) {b : Nat} {o : Obj} (hb : w.heap[b]? = some o) (ht : ∀ cs, o ≠ .cells cs e (0, 0)) : some b ≠ v.ownBlock := by
  rcases ho.2 with ⟨rfl, _⟩ | ⟨g, cap, cur, rfl, _, hg, _⟩
  · simp [Value.ownBlock]
  · simp only [Value.ownBlock, ne_eq, Option.some.injEq]
    rintro rfl
    rw [hb] at hg
    simp only [Option.some.injEq] at hg
    exact ht cur hg
theorem own_putb {w : World} {base : Nat} {e : TypeId} {sz : Nat} {v : Value} {n : Nat} {xs : List Value} (ho : w.ownsRow base e sz v n xs) {b : Nat} (hb : some b ≠ v.ownBlock) (o : Obj) : (w.putb b o).ownsRow base e sz v n xs := by
  refine ⟨ho.1, ?_⟩
  rcases ho.2 with h | ⟨g, cap, cur, rfl, h1, hg, h2⟩
  · exact .inl h
  · refine .inr ⟨g, cap, cur, rfl, h1, ?_, h2⟩
    rw [putb_get_ne (by simpa [Value.ownBlock, eq_comm] using hb)]
    exact hg
theorem own_ext {w w' : World} {base : Nat} {e : TypeId} {sz : Nat} {v : Value} {n : Nat} {xs : List Value} (ho : w.ownsRow base e sz v n xs) (hE : Ext w w') : w'.ownsRow base e sz v n xs := by
  refine ⟨ho.1, ?_⟩
  rcases ho.2 with h | ⟨g, cap, cur, rfl, h1, hg, h2⟩
  · exact .inl h
  · exact .inr ⟨g, cap, cur, rfl, h1, hE.obj hg, h2⟩
theorem own_lt {w : World} {base : Nat} {e : TypeId} {sz : Nat} {v : Value} {n : Nat} {xs : List Value} (ho : w.ownsRow base e sz v n xs) {b : Nat} (hb : w.heap.size ≤ b) : some b ≠ v.ownBlock := by
  intro e; have := (ho.lt _ e.symm).2; omega
theorem grown_get {w w' : World} {row : Option Nat} (hg : w.grownBy w' row) {b : Nat} {o : Obj} (hb : w.heap[b]? = some o) (hne : some b ≠ row) : w'.heap[b]? = some o := (hg.block b (get_lt hb) hne).trans hb
/-- a slice of integers -/
def IntsAt (w : World) (v : Value) (l : List Int) : Prop :=
  ((∃ a c, v = .slice a 0 c) ∧ l = []) ∨ ∃ b off cap, v = .slice (some ⟨b, off, none⟩) l.length cap ∧ ∀ i x, l[i]? = some x → w.cell? ⟨b, off + i, none⟩ = some (.int .i64 x)
theorem IntsAt.ext {w w' : World} {v : Value} {l : List Int} (h : IntsAt w v l) (hE : Ext w w') : IntsAt w' v l := by
  rcases h with h | ⟨b, off, cap, h1, h2⟩
  · exact .inl h
  · exact .inr ⟨b, off, cap, h1, fun i r hr => hE.cell (h2 i r hr)⟩
theorem IntsAt.form {w : World} {v : Value} {l : List Int} (h : IntsAt w v l) : ∃ a c, v = .slice a l.length c := by
  rcases h with ⟨⟨a, c, h⟩, h'⟩ | ⟨b, off, cap, h1, h2⟩
  · exact ⟨a, c, by rw [h, h']; rfl⟩
  · exact ⟨_, _, h1⟩
theorem IntsAt.get {w : World} {l : List Int} {a : Option Addr} {n c : Nat} (h : IntsAt w (.slice a n c) l) {i : Nat} {x : Int} (hx : l[i]? = some x) :
    ∃ b off cs e fz, a = some ⟨b, off, none⟩ ∧ n = l.length ∧ w.heap[b]? = some (.cells cs e fz) ∧ cs[off + i]? = some (.int .i64 x) := by
  rcases h with ⟨h, h'⟩ | ⟨b, off, cap, h1, h2⟩
  · subst h'; simp at hx
  · simp only [Value.slice.injEq] at h1
    obtain ⟨rfl, rfl, rfl⟩ := h1
    obtain ⟨cs, e, fz, h3, h4⟩ := cell_obj (h2 i x hx)
    exact ⟨b, off, cs, e, fz, rfl, rfl, h3, h4⟩
/-- a slice of slices of integers -/
def IntssAt (w : World) (v : Value) (ll : List (List Int)) : Prop :=
  ((∃ a c, v = .slice a 0 c) ∧ ll = []) ∨ ∃ b off cap, v = .slice (some ⟨b, off, none⟩) ll.length cap ∧ ∀ i l, ll[i]? = some l → ∃ u, w.cell? ⟨b, off + i, none⟩ = some u ∧ IntsAt w u l
theorem IntssAt.ext {w w' : World} {v : Value} {ll : List (List Int)} (h : IntssAt w v ll) (hE : Ext w w') : IntssAt w' v ll := by
  rcases h with h | ⟨b, off, cap, h1, h2⟩
  · exact .inl h
  · exact .inr ⟨b, off, cap, h1, fun i r hr => let ⟨u, hu, hi⟩ := h2 i r hr; ⟨u, hE.cell hu, hi.ext hE⟩⟩
theorem IntssAt.form {w : World} {v : Value} {ll : List (List Int)} (h : IntssAt w v ll) : ∃ a c, v = .slice a ll.length c := by
  rcases h with ⟨⟨a, c, h⟩, h'⟩ | ⟨b, off, cap, h1, h2⟩
  · exact ⟨a, c, by rw [h, h']; rfl⟩
  · exact ⟨_, _, h1⟩
theorem IntssAt.get {w : World} {ll : List (List Int)} {a : Option Addr} {n c : Nat} (h : IntssAt w (.slice a n c) ll) {i : Nat} {l : List Int} (hx : ll[i]? = some l) :
    ∃ b off cs e fz u, a = some ⟨b, off, none⟩ ∧ n = ll.length ∧ w.heap[b]? = some (.cells cs e fz) ∧ cs[off + i]? = some u ∧ IntsAt w u l := by
  rcases h with ⟨h, h'⟩ | ⟨b, off, cap, h1, h2⟩
  · subst h'; simp at hx
  · simp only [Value.slice.injEq] at h1
    obtain ⟨rfl, rfl, rfl⟩ := h1
    obtain ⟨u, hu, hi⟩ := h2 i l hx
    obtain ⟨cs, e, fz, h3, h4⟩ := cell_obj hu
    exact ⟨b, off, cs, e, fz, u, rfl, rfl, h3, h4, hi⟩
end Go.W
