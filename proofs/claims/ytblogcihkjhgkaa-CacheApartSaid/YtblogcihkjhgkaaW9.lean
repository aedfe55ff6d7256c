/-
  The rewriting rules of the walk, gathered in one term.
-/
import Derived.Test.YtblogcihkjhgkaaW8
set_option linter.unusedSimpArgs false
set_option linter.unusedVariables false
set_option linter.defProp false
namespace Go.W
theorem gv_zero (f : Fr) (t : Nat) (op : Op) (ty : TypeId) (pos : String) (af : Array Edge) (g : Option (Nat × Bool)) (l : List Oper) : gv f (⟨some t, op, ty, pos, af, g⟩ :: l) 0 = f t := rfl
theorem gv_succ (f : Fr) (o : Oper) (l : List Oper) (n : Nat) : gv f (o :: l) (n + 1) = gv f l n := rfl
def evl (f : Fr) (as : List Operand) : List Value := as.map (ev f)
def evs (f : Fr) (ps : List (Nat × Operand)) : List (Nat × Value) := ps.map fun p => (p.1, ev f p.2)
def evo (f : Fr) (x : Option Operand) : Option Value := x.map (ev f)
theorem evl_nil (f : Fr) : evl f [] = [] := rfl
theorem evl_cons (f : Fr) (x : Operand) (l : List Operand) : evl f (x :: l) = ev f x :: evl f l := rfl
theorem evs_nil (f : Fr) : evs f [] = [] := rfl
theorem evs_cons (f : Fr) (i : Nat) (x : Operand) (l : List (Nat × Operand)) : evs f ((i, x) :: l) = (i, ev f x) :: evs f l := rfl
theorem evo_none (f : Fr) : evo f none = none := rfl
theorem evo_some (f : Fr) (x : Operand) : evo f (some x) = some (ev f x) := rfl
/-- one operation, and what follows it: forms without a binder, so that a rewriting stops where it cannot go on -/
def XO (P : Program) (all rest : List Oper) (K : Fr → World → Prop) (d : Option Nat) (f : Fr) (w : World) (op : Op) (ty : TypeId) : Prop := opW P op ty f w fun v w' => X P all rest K (updO f d v) w'
def XB (P : Program) (all rest : List Oper) (K : Fr → World → Prop) (d : Option Nat) (f : Fr) (r : Option (Value × World)) : Prop := B r fun v w' => X P all rest K (updO f d v) w'
def XR (P : Program) (all rest : List Oper) (K : Fr → World → Prop) (d : Option Nat) (f : Fr) (g : Nat) (args : Array Value) (w : World) : Prop := Ret P g args w fun v w' => X P all rest K (updO f d v) w'
def XG (P : Program) (all rest : List Oper) (K : Fr → World → Prop) (d : Option Nat) (f : Fr) (w : World) (op : Op) (ty : TypeId) (v : Value) (want : Bool) : Prop := G v want (XO P all rest K d f w op ty) (X P all rest K (updO f d undef) w)
def cnd (P : Program) (a b : Code) (Q : Exit → Fr → World → Prop) (f : Fr) (w : World) (v : Value) : Prop := condP v (Wp P a Q f w) (Wp P b Q f w)
section
variable (P : Program) (all rest : List Oper) (K : Fr → World → Prop) (d : Option Nat) (f : Fr) (w : World) (ty : TypeId)
theorem X_op (op : Op) (pos : String) (af : Array Edge) : X P all (⟨d, op, ty, pos, af, none⟩ :: rest) K f w = XO P all rest K d f w op ty := rfl
theorem X_gd (op : Op) (pos : String) (af : Array Edge) (j : Nat) (want : Bool) : X P all (⟨d, op, ty, pos, af, some (j, want)⟩ :: rest) K f w = XG P all rest K d f w op ty (gv f all j) want := rfl
theorem XG_tt (op : Op) : XG P all rest K d f w op ty (.bool true) true = XO P all rest K d f w op ty := by simp [XG, G]
theorem XG_ff (op : Op) : XG P all rest K d f w op ty (.bool false) false = XO P all rest K d f w op ty := by simp [XG, G]
theorem XG_tf (op : Op) : XG P all rest K d f w op ty (.bool true) false = X P all rest K (updO f d undef) w := by simp [XG, G]
theorem XG_ft (op : Op) : XG P all rest K d f w op ty (.bool false) true = X P all rest K (updO f d undef) w := by simp [XG, G]
theorem XB_some (v : Value) (w' : World) : XB P all rest K d f (some (v, w')) = X P all rest K (updO f d v) w' := rfl
theorem XB_ite (p : Prop) [Decidable p] (r : Option (Value × World)) : XB P all rest K d f (if p then r else none) = (p ∧ XB P all rest K d f r) := B_ite p r _
theorem XO_move (x : Operand) : XO P all rest K d f w (.move x) ty = X P all rest K (updO f d (ev f x)) w := rfl
theorem XO_assign (x : Operand) : XO P all rest K d f w (.assign x) ty = X P all rest K (updO f d (ev f x)) w := rfl
theorem XO_pick (c a b : Operand) : XO P all rest K d f w (.pick c a b) ty = XB P all rest K d f (sPick (ev f c) (ev f a) (ev f b) w) := rfl
theorem XO_alloc (t : TypeId) : XO P all rest K d f w (.alloc t) ty = XB P all rest K d f (sAlloc P t w) := rfl
theorem XO_box (t : TypeId) (x : Operand) : XO P all rest K d f w (.box t x) ty = XB P all rest K d f (sBox t (ev f x) w) := rfl
theorem XO_build (t : TypeId) (ps : List (Nat × Operand)) : XO P all rest K d f w (.build t ps.toArray) ty = XB P all rest K d f (sBuild P t (evs f ps) w) := rfl
theorem XO_buildSlice (t : TypeId) (n : Nat) (ps : List (Nat × Operand)) : XO P all rest K d f w (.buildSlice t n ps.toArray) ty = (sBuildSliceOk P t = true ∧ XB P all rest K d f (sBuildSlice P t n (evs f ps) w)) := rfl
theorem XO_load (t : TypeId) (x : Operand) : XO P all rest K d f w (.load t x) ty = XB P all rest K d f (sLoad P t (ev f x) w) := rfl
theorem XO_store (t : TypeId) (x v : Operand) : XO P all rest K d f w (.store t x v) ty = XB P all rest K d f (sStore P t (ev f x) (ev f v) w) := rfl
theorem XO_nilCheck (x : Operand) : XO P all rest K d f w (.nilCheck x) ty = XB P all rest K d f (sNil (ev f x) w) := rfl
theorem XO_bin (o : BinOp) (t t' : TypeId) (x y : Operand) : XO P all rest K d f w (.binOp o t x y t') ty = XB P all rest K d f (sBin P o t (ev f x) (ev f y) w) := rfl
theorem XO_convert (s t : TypeId) (x : Operand) : XO P all rest K d f w (.convert s t x) ty = XB P all rest K d f (sConv P s t (ev f x) w) := rfl
theorem XO_fieldAddr (s : TypeId) (x : Operand) (k : Nat) : XO P all rest K d f w (.fieldAddr s x k) ty = XB P all rest K d f (sFieldAddr P s (ev f x) k w) := rfl
theorem XO_field (s : TypeId) (x : Operand) (k : Nat) : XO P all rest K d f w (.field s x k) ty = XB P all rest K d f (sField P s (ev f x) k w) := rfl
theorem XO_indexAddr (t : TypeId) (x i : Operand) : XO P all rest K d f w (.indexAddr t x i) ty = XB P all rest K d f (sIndexAddr P t (ev f x) (ev f i) w) := rfl
theorem XO_extract (x : Operand) (i : Nat) : XO P all rest K d f w (.extract x i) ty = XB P all rest K d f (sExtract (ev f x) i w) := rfl
theorem XO_not (t : TypeId) (x : Operand) : XO P all rest K d f w (.unOp .not t x) ty = XB P all rest K d f (sNot (ev f x) w) := rfl
theorem XO_makeMap (t : TypeId) : XO P all rest K d f w (.makeMap t none) ty = XB P all rest K d f (sMakeMap w) := rfl
theorem XO_makeSlice (t : TypeId) (l c : Operand) : XO P all rest K d f w (.makeSlice t l c) ty = XB P all rest K d f (sMakeSlice P t (ev f l) (ev f c) w) := rfl
theorem XO_slice (t : TypeId) (x : Operand) (lo hi : Option Operand) : XO P all rest K d f w (.slice t x lo hi none) ty = XB P all rest K d f (sSlice P t (ev f x) (evo f lo) (evo f hi) w) := rfl
theorem XO_len (x : Operand) (t : TypeId) : XO P all rest K d f w (.call ⟨.builtin .len, #[x], #[t]⟩) ty = XB P all rest K d f (sLen P t (ev f x) w) := rfl
theorem XO_max (x y : Operand) (ts : Array TypeId) : XO P all rest K d f w (.call ⟨.builtin .max, #[x, y], ts⟩) ty = XB P all rest K d f (sMax (ev f x) (ev f y) w) := rfl
theorem XO_min (x y : Operand) (ts : Array TypeId) : XO P all rest K d f w (.call ⟨.builtin .min, #[x, y], ts⟩) ty = XB P all rest K d f (sMin (ev f x) (ev f y) w) := rfl
theorem XO_func (g : Nat) (as : List Operand) (ts : Array TypeId) : XO P all rest K d f w (.call ⟨.value (.func g), as.toArray, ts⟩) ty = XR P all rest K d f g (evl f as).toArray w := by
  simp only [XO, XR, opW, callW, List.map_toArray, evl]
theorem Wp_cnd (c : Operand) (a b : Code) (Q : Exit → Fr → World → Prop) : Wp P (.cond c a b) Q f w = cnd P a b Q f w (ev f c) := rfl
theorem cnd_true (a b : Code) (Q : Exit → Fr → World → Prop) : cnd P a b Q f w (.bool true) = Wp P a Q f w := by simp [cnd, condP]
theorem cnd_false (a b : Code) (Q : Exit → Fr → World → Prop) : cnd P a b Q f w (.bool false) = Wp P b Q f w := by simp [cnd, condP]
end
section
variable {P : Program} {all rest : List Oper} {K : Fr → World → Prop} {d : Option Nat} {f : Fr} {w : World} {ty : TypeId}
/-- at a call: the callee's contract, and what follows under what it says -/
theorem XR_intro {g : Nat} {args : Array Value} {Φ : Value → World → Prop} (h : Ret P g args w Φ) (hk : ∀ v w', Φ v w' → X P all rest K (updO f d v) w') : XR P all rest K d f g args w := h.mono hk
theorem cnd_dec {p : Prop} [Decidable p] {a b : Code} {Q : Exit → Fr → World → Prop} (h1 : p → Wp P a Q f w) (h2 : ¬ p → Wp P b Q f w) : cnd P a b Q f w (.bool (decide p)) := condP_dec h1 h2
theorem cnd_bool {t : Bool} {a b : Code} {Q : Exit → Fr → World → Prop} (h1 : t = true → Wp P a Q f w) (h2 : t = false → Wp P b Q f w) : cnd P a b Q f w (.bool t) := ⟨h1, h2⟩
theorem XG_dec {p : Prop} [Decidable p] {op : Op} {want : Bool} (h1 : decide p = want → XO P all rest K d f w op ty) (h2 : decide p = !want → X P all rest K (updO f d undef) w) : XG P all rest K d f w op ty (.bool (decide p)) want := G_intro h1 h2
theorem XG_bool {t : Bool} {op : Op} {want : Bool} (h1 : t = want → XO P all rest K d f w op ty) (h2 : t = !want → X P all rest K (updO f d undef) w) : XG P all rest K d f w op ty (.bool t) want := G_intro h1 h2
end
/-- a region that draws its order, by an invariant over what has been done: one goal for each operation -/
def stepD (P : Program) (ops : List Oper) (I : (Nat → Bool) → Fr → World → Prop) (L : Nat → Bool) (f : Fr) (w : World) (i : Nat) (o : Oper) : Prop :=
  match o.guard with
  | none => XO P ops [] (I (setL L i)) o.dst f w o.op o.type
  | some (j, want) => XG P ops [] (I (setL L i)) o.dst f w o.op o.type (gv f ops j) want
def preD (L : Nat → Bool) : List Edge → Prop
  | [] => True
  | e :: l => (Region.binds .any e = true → L e.on = true) ∧ preD L l
theorem preD_of {L : Nat → Bool} : ∀ {l : List Edge}, (∀ e ∈ l, Region.binds .any e = true → L e.on = true) → preD L l
  | [], _ => trivial
  | e :: l, h => ⟨h e (by simp), preD_of fun e' he => h e' (by simp [he])⟩
def stepsD (P : Program) (ops : List Oper) (I : (Nat → Bool) → Fr → World → Prop) (L : Nat → Bool) (f : Fr) (w : World) : Nat → List Oper → Prop
  | _, [] => True
  | i, o :: l => (L i = false → preD L o.after.toList → stepD P ops I L f w i o) ∧ stepsD P ops I L f w (i + 1) l
theorem stepsD_get {P : Program} {ops : List Oper} {I : (Nat → Bool) → Fr → World → Prop} {L : Nat → Bool} {f : Fr} {w : World} : ∀ (l : List Oper) (k : Nat), stepsD P ops I L f w k l →
    ∀ i o, l[i]? = some o → L (k + i) = false → preD L o.after.toList → stepD P ops I L f w (k + i) o
  | [], _, _, i, o, h => by simp at h
  | x :: l, k, hs, 0, o, h => by simp only [List.getElem?_cons_zero, Option.some.injEq] at h; subst h; exact hs.1
  | x :: l, k, hs, i + 1, o, h => by
    have := stepsD_get l (k + 1) hs.2 i o (by simpa using h)
    rw [show k + (i + 1) = k + 1 + i by omega]
    exact this
theorem XD_intro {P : Program} {ops : List Oper} {K : Fr → World → Prop} {f : Fr} {w : World} (I : (Nat → Bool) → Fr → World → Prop) (hm : P.follows .mixedOrders = true) (hB : edgesBack ops = true)
    (h0 : I (fun _ => false) f w.drew) (hs : ∀ L f w, I L f w → stepsD P ops I L f w 0 ops) (he : ∀ L f w, I L f w → (∀ i, i < ops.length → L i = true) → K f w) : DR P ops K f w := by
  refine DR_inv ⟨hm, hB, I, h0, ?_, he⟩
  intro L f w i o hI ho hL hpre
  have := stepsD_get ops 0 (hs L f w hI) i o ho (by simpa using hL) (preD_of hpre)
  rw [Nat.zero_add] at this
  exact this
theorem stepD_op (P : Program) (ops : List Oper) (I : (Nat → Bool) → Fr → World → Prop) (L : Nat → Bool) (f : Fr) (w : World) (i : Nat) (d : Option Nat) (op : Op) (ty : TypeId) (pos : String) (af : Array Edge) :
    stepD P ops I L f w i ⟨d, op, ty, pos, af, none⟩ = XO P ops [] (I (setL L i)) d f w op ty := rfl
theorem stepD_gd (P : Program) (ops : List Oper) (I : (Nat → Bool) → Fr → World → Prop) (L : Nat → Bool) (f : Fr) (w : World) (i : Nat) (d : Option Nat) (op : Op) (ty : TypeId) (pos : String) (af : Array Edge) (j : Nat) (want : Bool) :
    stepD P ops I L f w i ⟨d, op, ty, pos, af, some (j, want)⟩ = XG P ops [] (I (setL L i)) d f w op ty (gv f ops j) want := rfl
theorem setL_apply (L : Nat → Bool) (i j : Nat) : setL L i j = if j = i then true else L j := rfl
/-! ### the same for a region that draws its order -/
def QO (P : Program) (all : List Oper) (w1 : World) (rest : List Oper) (K : Fr → Prop) (d : Option Nat) (f : Fr) (op : Op) : Prop := ∃ v, opQ P w1 op f v ∧ XQ P all w1 rest K (updO f d v)
def QB (P : Program) (all : List Oper) (w1 : World) (rest : List Oper) (K : Fr → Prop) (d : Option Nat) (f : Fr) (r : Option (Value × World)) : Prop := ∃ v, r.map (·.1) = some v ∧ XQ P all w1 rest K (updO f d v)
def QL (P : Program) (all : List Oper) (w1 : World) (rest : List Oper) (K : Fr → Prop) (d : Option Nat) (f : Fr) (s : Sem Value) : Prop := ∃ v, (∀ w, Ext w1 w → s.run P w = .ok v w) ∧ XQ P all w1 rest K (updO f d v)
def QR (P : Program) (all : List Oper) (w1 : World) (rest : List Oper) (K : Fr → Prop) (d : Option Nat) (f : Fr) (g : Nat) (args : Array Value) : Prop := ∃ v, (∀ w, Ext w1 w → Ret P g args w fun u w' => u = v ∧ Ext w w') ∧ XQ P all w1 rest K (updO f d v)
def QG (P : Program) (all : List Oper) (w1 : World) (rest : List Oper) (K : Fr → Prop) (d : Option Nat) (f : Fr) (op : Op) (v : Value) (want : Bool) : Prop := G v want (QO P all w1 rest K d f op) (XQ P all w1 rest K (updO f d undef))
section
variable (P : Program) (all : List Oper) (w1 : World) (rest : List Oper) (K : Fr → Prop) (d : Option Nat) (f : Fr) (ty : TypeId)
theorem XQ_nil : XQ P all w1 [] K f = K f := rfl
theorem XQ_op (op : Op) (pos : String) (af : Array Edge) : XQ P all w1 (⟨d, op, ty, pos, af, none⟩ :: rest) K f = QO P all w1 rest K d f op := rfl
theorem XQ_gd (op : Op) (pos : String) (af : Array Edge) (j : Nat) (want : Bool) : XQ P all w1 (⟨d, op, ty, pos, af, some (j, want)⟩ :: rest) K f = QG P all w1 rest K d f op (gv f all j) want := rfl
theorem QG_tt (op : Op) : QG P all w1 rest K d f op (.bool true) true = QO P all w1 rest K d f op := by simp [QG, G]
theorem QG_ff (op : Op) : QG P all w1 rest K d f op (.bool false) false = QO P all w1 rest K d f op := by simp [QG, G]
theorem QG_tf (op : Op) : QG P all w1 rest K d f op (.bool true) false = XQ P all w1 rest K (updO f d undef) := by simp [QG, G]
theorem QG_ft (op : Op) : QG P all w1 rest K d f op (.bool false) true = XQ P all w1 rest K (updO f d undef) := by simp [QG, G]
theorem QB_some (v : Value) (w' : World) : QB P all w1 rest K d f (some (v, w')) = XQ P all w1 rest K (updO f d v) := by simp [QB]
theorem QB_ite (p : Prop) [Decidable p] (r : Option (Value × World)) : QB P all w1 rest K d f (if p then r else none) = (p ∧ QB P all w1 rest K d f r) := by
  by_cases h : p <;> simp [QB, h]
theorem QO_move (x : Operand) : QO P all w1 rest K d f (.move x) = XQ P all w1 rest K (updO f d (ev f x)) := by simp [QO, opQ, rdW]
theorem QO_assign (x : Operand) : QO P all w1 rest K d f (.assign x) = XQ P all w1 rest K (updO f d (ev f x)) := by simp [QO, opQ, rdW]
theorem QO_pick (c a b : Operand) : QO P all w1 rest K d f (.pick c a b) = QB P all w1 rest K d f (sPick (ev f c) (ev f a) (ev f b) w1) := rfl
theorem QO_build (t : TypeId) (ps : List (Nat × Operand)) : QO P all w1 rest K d f (.build t ps.toArray) = QB P all w1 rest K d f (sBuild P t (evs f ps) w1) := rfl
theorem QO_load (t : TypeId) (x : Operand) : QO P all w1 rest K d f (.load t x) = QB P all w1 rest K d f (sLoad P t (ev f x) w1) := rfl
theorem QO_nilCheck (x : Operand) : QO P all w1 rest K d f (.nilCheck x) = QB P all w1 rest K d f (sNil (ev f x) w1) := rfl
theorem QO_bin (o : BinOp) (t t' : TypeId) (x y : Operand) : QO P all w1 rest K d f (.binOp o t x y t') = QB P all w1 rest K d f (sBin P o t (ev f x) (ev f y) w1) := rfl
theorem QO_convert (s t : TypeId) (x : Operand) : QO P all w1 rest K d f (.convert s t x) = QB P all w1 rest K d f (sConv P s t (ev f x) w1) := rfl
theorem QO_fieldAddr (s : TypeId) (x : Operand) (k : Nat) : QO P all w1 rest K d f (.fieldAddr s x k) = QB P all w1 rest K d f (sFieldAddr P s (ev f x) k w1) := rfl
theorem QO_field (s : TypeId) (x : Operand) (k : Nat) : QO P all w1 rest K d f (.field s x k) = QB P all w1 rest K d f (sField P s (ev f x) k w1) := rfl
theorem QO_indexAddr (t : TypeId) (x i : Operand) : QO P all w1 rest K d f (.indexAddr t x i) = QB P all w1 rest K d f (sIndexAddr P t (ev f x) (ev f i) w1) := rfl
theorem QO_extract (x : Operand) (i : Nat) : QO P all w1 rest K d f (.extract x i) = QB P all w1 rest K d f (sExtract (ev f x) i w1) := rfl
theorem QO_not (t : TypeId) (x : Operand) : QO P all w1 rest K d f (.unOp .not t x) = QB P all w1 rest K d f (sNot (ev f x) w1) := rfl
theorem QO_slice (t : TypeId) (x : Operand) (lo hi : Option Operand) : QO P all w1 rest K d f (.slice t x lo hi none) = QB P all w1 rest K d f (sSlice P t (ev f x) (evo f lo) (evo f hi) w1) := rfl
theorem QO_len (x : Operand) (t : TypeId) : QO P all w1 rest K d f (.call ⟨.builtin .len, #[x], #[t]⟩) = QB P all w1 rest K d f (sLen P t (ev f x) w1) := rfl
theorem QO_max (x y : Operand) (ts : Array TypeId) : QO P all w1 rest K d f (.call ⟨.builtin .max, #[x, y], ts⟩) = QB P all w1 rest K d f (sMax (ev f x) (ev f y) w1) := rfl
theorem QO_min (x y : Operand) (ts : Array TypeId) : QO P all w1 rest K d f (.call ⟨.builtin .min, #[x, y], ts⟩) = QB P all w1 rest K d f (sMin (ev f x) (ev f y) w1) := rfl
theorem QO_lookup (t : TypeId) (x i : Operand) (ok : Bool) : QO P all w1 rest K d f (.lookup t x i ok) = QL P all w1 rest K d f (Instr.lookup t (ev f x) (ev f i) ok) := rfl
theorem QO_func (g : Nat) (as : List Operand) (ts : Array TypeId) : QO P all w1 rest K d f (.call ⟨.value (.func g), as.toArray, ts⟩) = QR P all w1 rest K d f g (evl f as).toArray := by
  simp only [QO, QR, opQ, List.map_toArray, evl]
end
section
variable {P : Program} {all : List Oper} {w1 : World} {rest : List Oper} {K : Fr → Prop} {d : Option Nat} {f : Fr}
theorem QL_intro {s : Sem Value} (v : Value) (h : ∀ w, Ext w1 w → s.run P w = .ok v w) (hk : XQ P all w1 rest K (updO f d v)) : QL P all w1 rest K d f s := ⟨v, h, hk⟩
theorem QR_intro {g : Nat} {args : Array Value} (v : Value) (h : ∀ w, Ext w1 w → Ret P g args w fun u w' => u = v ∧ Ext w w') (hk : XQ P all w1 rest K (updO f d v)) : QR P all w1 rest K d f g args := ⟨v, h, hk⟩
theorem QG_dec {p : Prop} [Decidable p] {op : Op} {want : Bool} (h1 : decide p = want → QO P all w1 rest K d f op) (h2 : decide p = !want → XQ P all w1 rest K (updO f d undef)) : QG P all w1 rest K d f op (.bool (decide p)) want := G_intro h1 h2
theorem QG_bool {t : Bool} {op : Op} {want : Bool} (h1 : t = want → QO P all w1 rest K d f op) (h2 : t = !want → XQ P all w1 rest K (updO f d undef)) : QG P all w1 rest K d f op (.bool t) want := G_intro h1 h2
end
/-- the end of a body -/
def RB (Φ : Value → World → Prop) (w : World) (r : Option (Value × World)) : Prop := B r fun v _ => Φ v w
def RBt (Φ : Value → World → Prop) (w : World) (u : Value) (r : Option (Value × World)) : Prop := B r fun v _ => Φ (.tuple #[v, u]) w
def RBB (Φ : Value → World → Prop) (w : World) (r s : Option (Value × World)) : Prop := B r fun v _ => B s fun u _ => Φ (.tuple #[v, u]) w
section
variable (P : Program) (Φ : Value → World → Prop) (f : Fr) (w : World)
theorem fin_t (t : Nat) : fin P #[.tmp t] Φ .ret f w = Φ (f t) w := rfl
theorem fin_c (a : Nat) (t : TypeId) : fin P #[.cell a t] Φ .ret f w = RB Φ w (sLoad P t (f a) w) := rfl
theorem fin_tt (a b : Nat) : fin P #[.tmp a, .tmp b] Φ .ret f w = Φ (.tuple #[f a, f b]) w := rfl
theorem fin_ct (a : Nat) (t : TypeId) (b : Nat) : fin P #[.cell a t, .tmp b] Φ .ret f w = RBt Φ w (f b) (sLoad P t (f a) w) := rfl
theorem fin_cc (a : Nat) (t : TypeId) (b : Nat) (u : TypeId) : fin P #[.cell a t, .cell b u] Φ .ret f w = RBB Φ w (sLoad P t (f a) w) (sLoad P u (f b) w) := rfl
theorem fin_ttt (a b c : Nat) : fin P #[.tmp a, .tmp b, .tmp c] Φ .ret f w = Φ (.tuple #[f a, f b, f c]) w := rfl
theorem RB_some (v : Value) (w' : World) : RB Φ w (some (v, w')) = Φ v w := rfl
theorem RBt_some (u v : Value) (w' : World) : RBt Φ w u (some (v, w')) = Φ (.tuple #[v, u]) w := rfl
theorem RBB_some (u v : Value) (w' w'' : World) : RBB Φ w (some (v, w')) (some (u, w'')) = Φ (.tuple #[v, u]) w := rfl
end
section
variable (P : Program) (w : World)
theorem sPick_b (t : Bool) (a b : Value) : sPick (.bool t) a b w = some (if t then a else b, w) := rfl
theorem sNot_b (t : Bool) : sNot (.bool t) w = some (.bool !t, w) := rfl
theorem sExtract_t (vs : List Value) (i : Nat) : sExtract (.tuple vs.toArray) i w = (vs[i]?).map (·, w) := by simp [sExtract]
theorem sBin_add (t : TypeId) (k : IntKind) (a b : Int) : sBin P .add t (.int k a) (.int k b) w = if inr k (a + b) then some (.int k (a + b), w) else none := by simp [sBin, sInt]
theorem sBin_sub (t : TypeId) (k : IntKind) (a b : Int) : sBin P .sub t (.int k a) (.int k b) w = if inr k (a - b) then some (.int k (a - b), w) else none := by simp [sBin, sInt]
theorem sBin_mul (t : TypeId) (k : IntKind) (a b : Int) : sBin P .mul t (.int k a) (.int k b) w = if inr k (a * b) then some (.int k (a * b), w) else none := by simp [sBin, sInt]
theorem sBin_quo (t : TypeId) (k : IntKind) (a b : Int) : sBin P .quo t (.int k a) (.int k b) w = if 0 ≤ a ∧ 0 < b ∧ inr k (a / b) then some (.int k (a / b), w) else none := by simp [sBin, sInt]
theorem sBin_rem (t : TypeId) (k : IntKind) (a b : Int) : sBin P .rem t (.int k a) (.int k b) w = if 0 ≤ a ∧ 0 < b then some (.int k (a % b), w) else none := by simp [sBin, sInt]
theorem sBin_and (t : TypeId) (k : IntKind) (a b : Int) : sBin P .and t (.int k a) (.int k b) w = some (.int k (andI k a b), w) := by simp [sBin, sInt]
theorem sBin_eql (t : TypeId) (k : IntKind) (a b : Int) : sBin P .eql t (.int k a) (.int k b) w = some (.bool (decide (a = b)), w) := by simp [sBin, sInt]
theorem sBin_neq (t : TypeId) (k : IntKind) (a b : Int) : sBin P .neq t (.int k a) (.int k b) w = some (.bool (decide (a ≠ b)), w) := by simp [sBin, sInt]
theorem sBin_lss (t : TypeId) (k : IntKind) (a b : Int) : sBin P .lss t (.int k a) (.int k b) w = some (.bool (decide (a < b)), w) := by simp [sBin, sInt]
theorem sBin_leq (t : TypeId) (k : IntKind) (a b : Int) : sBin P .leq t (.int k a) (.int k b) w = some (.bool (decide (a ≤ b)), w) := by simp [sBin, sInt]
theorem sBin_gtr (t : TypeId) (k : IntKind) (a b : Int) : sBin P .gtr t (.int k a) (.int k b) w = some (.bool (decide (b < a)), w) := by simp [sBin, sInt]
theorem sBin_geq (t : TypeId) (k : IntKind) (a b : Int) : sBin P .geq t (.int k a) (.int k b) w = some (.bool (decide (b ≤ a)), w) := by simp [sBin, sInt]
theorem sBin_eqlb (t : TypeId) (a b : Bool) : sBin P .eql t (.bool a) (.bool b) w = if tag P t = 1 then some (.bool (a == b), w) else none := by simp [sBin, sEq, eqFin]
theorem sBin_neqb (t : TypeId) (a b : Bool) : sBin P .neq t (.bool a) (.bool b) w = if tag P t = 1 then some (.bool !(a == b), w) else none := by simp [sBin, sEq, eqFin]
theorem sBin_eqlp (t : TypeId) (a : Option Addr) : sBin P .eql t (.pointer a) (.pointer none) w = if tag P t = 2 then some (.bool a.isNone, w) else none := by simp [sBin, sEq, eqFin]
theorem sBin_neqp (t : TypeId) (a : Option Addr) : sBin P .neq t (.pointer a) (.pointer none) w = if tag P t = 2 then some (.bool !a.isNone, w) else none := by simp [sBin, sEq, eqFin]
theorem sBin_eqls (t : TypeId) (a : Option Addr) (n c n' c' : Nat) : sBin P .eql t (.slice a n c) (.slice none n' c') w = if tag P t = 3 then some (.bool a.isNone, w) else none := by simp [sBin, sEq, eqFin]
theorem sBin_neqs (t : TypeId) (a : Option Addr) (n c n' c' : Nat) : sBin P .neq t (.slice a n c) (.slice none n' c') w = if tag P t = 3 then some (.bool !a.isNone, w) else none := by simp [sBin, sEq, eqFin]
theorem sBin_eqla (t : TypeId) (xs ys : List Value) : sBin P .eql t (.agg xs.toArray) (.agg ys.toArray) w =
    if intStruct P t = true ∧ xs.length = fieldCount P t ∧ ys.length = fieldCount P t then (eqInts xs ys).map fun r => (.bool r, w) else none := by
  simp only [sBin, sEq, eqFin, List.size_toArray]; split
  · cases eqInts xs ys <;> rfl
  · rfl
theorem sBin_neqa (t : TypeId) (xs ys : List Value) : sBin P .neq t (.agg xs.toArray) (.agg ys.toArray) w =
    if intStruct P t = true ∧ xs.length = fieldCount P t ∧ ys.length = fieldCount P t then (eqInts xs ys).map fun r => (.bool !r, w) else none := by
  simp only [sBin, sEq, eqFin, List.size_toArray]; split
  · cases eqInts xs ys <;> rfl
  · rfl
theorem eqInts_nil : eqInts [] [] = some true := rfl
theorem eqInts_cons (k : IntKind) (a b : Int) (xs ys : List Value) : eqInts (.int k a :: xs) (.int k b :: ys) = (eqInts xs ys).map fun r => decide (a = b) && r := by simp [eqInts]
theorem sConv_i (s t : TypeId) (k : IntKind) (n : Int) : sConv P s t (.int k n) w = (kd P s).bind fun _ => (kd P t).bind fun k' => if inr k' n then some (.int k' n, w) else none := by
  simp only [sConv]; cases kd P s <;> cases kd P t <;> rfl
theorem sFieldAddr_p (s : TypeId) (a : Addr) (k : Nat) : sFieldAddr P s (.pointer (some a)) k w = (fld P s k).map fun o => (.pointer (some (a.add o.1)), w) := rfl
theorem sField_a (s : TypeId) (cs : List Value) (k : Nat) : sField P s (.agg cs.toArray) k w = (fld P s k).bind fun o => if o.2.2 = true then some (.agg ((cs.drop o.1).take o.2.1).toArray, w) else (cs[o.1]?).map (·, w) := by
  simp only [sField]
  cases h : fld P s k with
  | none => rfl
  | some o =>
    obtain ⟨o, n, b⟩ := o
    cases b <;> simp [List.extract_eq_take_drop]
theorem sIndexAddr_s (t : TypeId) (a : Addr) (len c : Nat) (k : IntKind) (j : Int) : sIndexAddr P t (.slice (some a) len c) (.int k j) w =
    (esz P t).bind fun n => if 0 ≤ j ∧ j < len then some (.pointer (some (a.add (j.toNat * n))), w) else none := by
  simp only [sIndexAddr]; cases esz P t <;> rfl
theorem sLen_s (t : TypeId) (a : Option Addr) (n c : Nat) : sLen P t (.slice a n c) w = if (elt P t).isSome then some (.int .i64 n, w) else none := rfl
theorem sLen_m0 (t : TypeId) : sLen P t (.map none) w = if isMapT P t = true then some (.int .i64 0, w) else none := rfl
theorem sSlice_s (t : TypeId) (a : Option Addr) (len cap : Nat) (lo hi : Option Value) : sSlice P t (.slice a len cap) lo hi w =
    (esz P t).bind fun n => (bnd hi len cap).bind fun h => (bnd lo 0 h).bind fun l => some (.slice (if cap = l then a else a.map (·.add (l * n))) (h - l) (cap - l), w) := by
  simp only [sSlice]
  cases esz P t with
  | none => rfl
  | some n =>
    cases h : bnd hi len cap with
    | none => simp [h]
    | some hh => cases h2 : bnd lo 0 hh <;> simp [h, h2]
theorem bnd_none (d m : Nat) : bnd none d m = some d := rfl
theorem bnd_some (k : IntKind) (i : Int) (d m : Nat) : bnd (some (.int k i)) d m = if 0 ≤ i ∧ i ≤ m then some i.toNat else none := rfl
theorem sMakeMap_e : sMakeMap w = some (.map (some w.heap.size), w.alloc (.map #[] 0)) := rfl
theorem sMakeSlice_i (t : TypeId) (k k' : IntKind) (n m : Int) : sMakeSlice P t (.int k n) (.int k' m) w =
    (elt P t).bind fun e => (zrv P e).bind fun z => (szv P e).bind fun sz => (byv P e).bind fun by_ =>
      if n = m ∧ 0 ≤ n ∧ n ≤ 9223372036854775807 ∧ by_ * n ≤ 281474976710656 ∧ sz = 1 ∧ z.cells.size = 1 then
          some (.slice (some ⟨w.heap.size, 0, none⟩) n.toNat n.toNat, w.alloc (.cells (Array.replicate n.toNat z.cells[0]!) e)) else none := by
  simp only [sMakeSlice]
  cases elt P t with
  | none => rfl
  | some e =>
    simp only [Option.bind_some]
    cases zrv P e <;> cases szv P e <;> cases byv P e <;> rfl
theorem sAlloc_e (t : TypeId) : sAlloc P t w = (zrv P t).bind fun z => some (.pointer (some ⟨w.heap.size, 0, none⟩), w.alloc (.cells z.cells t)) := by
  simp only [sAlloc]; cases zrv P t <;> rfl
theorem sBox_e (t : TypeId) (x : Value) : sBox t x w = some (.pointer (some ⟨w.heap.size, 0, none⟩), w.alloc (.cells x.cells t)) := rfl
theorem sLoad_p (t : TypeId) (a : Addr) : sLoad P t (.pointer (some a)) w = (agb P t).bind fun g => if g = true then (szv P t).bind fun n => (rd w a n).map fun cs => (.agg cs, w) else (w.cell? a).map (·, w) := by
  simp only [sLoad]
  cases agb P t with
  | none => rfl
  | some g => cases g <;> cases szv P t <;> rfl
theorem sStore_p (t : TypeId) (b off : Nat) (v : Value) : sStore P t (.pointer (some ⟨b, off, none⟩)) v w =
    match w.heap[b]? with
    | some (.cells cs e fz) => if szv P t = some v.cells.size ∧ fz = (0, 0) ∧ off + v.cells.size ≤ cs.size ∧ v.cells.toList.all one = true ∧ 0 < v.cells.size then
        some (undef, w.putb b (.cells (spl cs off v.cells.toList) e (0, 0))) else none
    | _ => none := rfl
theorem sBuild_e (t : TypeId) (ps : List (Nat × Value)) : sBuild P t ps w = (bldp P t).bind fun z => (fillV (z.2[·]?) z.1 ps).map fun cs => (.agg cs, w) := by
  simp only [sBuild]; cases bldp P t <;> rfl
theorem fillV_nil (pl : Nat → Option (Nat × Nat)) (cs : Array Value) : fillV pl cs [] = some cs := rfl
theorem fillV_cons (pl : Nat → Option (Nat × Nat)) (cs : Array Value) (i : Nat) (v : Value) (rest : List (Nat × Value)) : fillV pl cs ((i, v) :: rest) =
    (pl i).bind fun o => if v.cells.size = o.2 ∧ o.1 + o.2 ≤ cs.size then fillV pl (spl cs o.1 v.cells.toList) rest else none := by
  simp only [fillV]; cases pl i <;> rfl
theorem sBuildSlice_e (t : TypeId) (len : Nat) (ps : List (Nat × Value)) : sBuildSlice P t len ps w =
    (elt P t).bind fun e => (zrv P e).bind fun z => (szv P e).bind fun n => if len * n ≤ 16777216 then
        (fillV (fun i => some (i * n, n)) ((List.replicate len z.cells.toList).flatten.toArray) ps).bind fun cs => some (.slice (some ⟨w.heap.size, 0, none⟩) len len, w.alloc (.cells cs e))
      else none := by
  simp only [sBuildSlice]
  cases elt P t with
  | none => rfl
  | some e =>
    simp only [Option.bind_some]
    cases zrv P e <;> cases szv P e <;> try rfl
    simp only [Option.bind_some]
    split
    · split
      · rename_i h; simp [h]
      · rename_i h; simp [h]
    · rfl
theorem sMax_i (k k' : IntKind) (a b : Int) : sMax (.int k a) (.int k' b) w = some (.int k (max a b), w) := rfl
theorem sMin_i (k k' : IntKind) (a b : Int) : sMin (.int k a) (.int k' b) w = some (.int k (min a b), w) := rfl
theorem sNil_p (a : Addr) : sNil (.pointer (some a)) w = some (.pointer (some a), w) := rfl
theorem rd_mk (b off n : Nat) : rd w ⟨b, off, none⟩ n = match w.heap[b]? with | some (.cells cs _ _) => if off + n ≤ cs.size then some (cs.extract off (off + n)) else none | _ => none := by
  simp only [rd]
  cases w.heap[b]? with
  | none => rfl
  | some o => cases o <;> simp
end
theorem alloc_get_if (w : World) (o : Obj) (b : Nat) : (w.alloc o).heap[b]? = if b = w.heap.size then some o else w.heap[b]? := by
  show (w.heap.push o)[b]? = _
  rw [Array.getElem?_push]
theorem putb_get_if (w : World) (b c : Nat) (o : Obj) : (w.putb b o).heap[c]? = if c = b then (if b < w.heap.size then some o else none) else w.heap[c]? := by
  simp only [World.putb, Array.getElem?_setIfInBounds]
  by_cases h : c = b
  · subst h; simp
  · have h' : ¬ b = c := fun e => h e.symm
    simp [h, h']
theorem alloc_putb (w : World) (o o' : Obj) : (w.alloc o).putb w.heap.size o' = w.alloc o' := by
  show ({ w with heap := (w.heap.push o).setIfInBounds w.heap.size o' } : World) = { w with heap := w.heap.push o' }
  congr 1
  apply Array.ext'
  simp
theorem ne_add1 (n k : Nat) : (n = n + (k + 1)) = False := by simp
theorem ne_add2 (n k : Nat) : (n + (k + 1) = n) = False := by simp
theorem eq_addadd (n a b : Nat) : (n + a = n + b) = (a = b) := by simp
theorem lt_addadd (n a b : Nat) : (n + a < n + b) = (a < b) := by simp
theorem lt_add1 (n k : Nat) : (n < n + (k + 1)) = True := by simp
theorem addadd (n a b : Nat) : n + a + b = n + (a + b) := Nat.add_assoc n a b
theorem drew_heap (w : World) : w.drew.heap = w.heap := rfl
theorem cells_int (k : IntKind) (n : Int) : (Value.int k n).cells = #[.int k n] := rfl
theorem cells_bool (b : Bool) : (Value.bool b).cells = #[.bool b] := rfl
theorem cells_slice (a : Option Addr) (n c : Nat) : (Value.slice a n c).cells = #[.slice a n c] := rfl
theorem cells_map (a : Option Nat) : (Value.map a).cells = #[.map a] := rfl
theorem cells_ptr (a : Option Addr) : (Value.pointer a).cells = #[.pointer a] := rfl
theorem cells_agg (a : Array Value) : (Value.agg a).cells = a := rfl
theorem cells_func (fn : Fn) (a b : Array Value) : (Value.func fn a b).cells = #[.func fn a b] := rfl
theorem cells_nilFunc : (Value.nilFunc).cells = #[.nilFunc] := rfl
theorem one_int (k : IntKind) (n : Int) : one (Value.int k n) = true := rfl
theorem one_bool (b : Bool) : one (Value.bool b) = true := rfl
theorem one_slice (a : Option Addr) (n c : Nat) : one (Value.slice a n c) = true := rfl
theorem one_map (a : Option Nat) : one (Value.map a) = true := rfl
theorem one_ptr (a : Option Addr) : one (Value.pointer a) = true := rfl
theorem one_func (fn : Fn) (a b : Array Value) : one (Value.func fn a b) = true := rfl
theorem one_nilFunc : one Value.nilFunc = true := rfl
theorem extract_lit (l : List Value) (i j : Nat) : l.toArray.extract i j = ((l.drop i).take (j - i)).toArray := by simp [List.extract_eq_take_drop]
theorem set_lit (l : List Value) (i : Nat) (v : Value) : l.toArray.setIfInBounds i v = (l.set i v).toArray := by simp
theorem get_lit (l : List Value) (i : Nat) : l.toArray[i]? = l[i]? := by simp
theorem get_putb (w : World) (b c : Nat) (o : Obj) (h : b < w.heap.size) : (w.putb b o).heap[c]? = if c = b then some o else w.heap[c]? := by
  by_cases e : c = b
  · subst e; rw [if_pos rfl, putb_get_same h]
  · rw [if_neg e, putb_get_ne e]
/-- the rules of control, of operations, of values -/
def S := And.intro @Wp_skip (And.intro @Wp_exit (And.intro @Wp_ret (And.intro @Wp_reg (And.intro @Wp_draw (And.intro @Wp_seq (And.intro @Wp_cnd (And.intro @Wp_block (And.intro @Wp_loop (And.intro @thenQ_normal (And.intro @thenQ_exit (And.intro @thenQ_ret (And.intro @inBlk_normal (And.intro @inBlk_exit_same (And.intro @inBlk_exit (And.intro @inBlk_ret (And.intro @X_nil (And.intro @X_op (And.intro @X_gd (And.intro @gv_zero (And.intro @gv_succ (And.intro @XG_tt (And.intro @XG_ff (And.intro @XG_tf (And.intro @XG_ft (And.intro @cnd_true (And.intro @cnd_false (And.intro @XB_some (And.intro @XB_ite (And.intro @XO_move (And.intro @XO_assign (And.intro @XO_pick (And.intro @XO_alloc (And.intro @XO_box (And.intro @XO_build (And.intro @XO_buildSlice (And.intro @XO_load (And.intro @XO_store (And.intro @XO_nilCheck (And.intro @XO_bin (And.intro @XO_convert (And.intro @XO_fieldAddr (And.intro @XO_field (And.intro @XO_indexAddr (And.intro @XO_extract (And.intro @XO_not (And.intro @XO_makeMap (And.intro @XO_makeSlice (And.intro @XO_slice (And.intro @XO_len (And.intro @XO_max (And.intro @XO_min (@XO_func))))))))))))))))))))))))))))))))))))))))))))))))))))
def SQ := And.intro @XQ_nil (And.intro @XQ_op (And.intro @XQ_gd (And.intro @QG_tt (And.intro @QG_ff (And.intro @QG_tf (And.intro @QG_ft (And.intro @QB_some (And.intro @QB_ite (And.intro @QO_move (And.intro @QO_assign (And.intro @QO_pick (And.intro @QO_build (And.intro @QO_load (And.intro @QO_nilCheck (And.intro @QO_bin (And.intro @QO_convert (And.intro @QO_fieldAddr (And.intro @QO_field (And.intro @QO_indexAddr (And.intro @QO_extract (And.intro @QO_not (And.intro @QO_slice (And.intro @QO_len (And.intro @QO_max (And.intro @QO_min (And.intro @QO_lookup (@QO_func)))))))))))))))))))))))))))
def SV := And.intro @ev_tmp (And.intro @ev_const (And.intro @ev_func (And.intro @evl_nil (And.intro @evl_cons (And.intro @evs_nil (And.intro @evs_cons (And.intro @evo_none (And.intro @evo_some (And.intro @upd_apply (And.intro @updO_some (And.intro @updO_none (And.intro @fr0_zero (And.intro @fr0_succ (And.intro @inr_i64 (And.intro @sPick_b (And.intro @sNot_b (And.intro @sExtract_t (And.intro @sBin_add (And.intro @sBin_sub (And.intro @sBin_mul (And.intro @sBin_quo (And.intro @sBin_rem (And.intro @sBin_and (And.intro @sBin_eql (And.intro @sBin_neq (And.intro @sBin_lss (And.intro @sBin_leq (And.intro @sBin_gtr (And.intro @sBin_geq (And.intro @sBin_eqlb (And.intro @sBin_neqb (And.intro @sBin_eqlp (And.intro @sBin_neqp (And.intro @sBin_eqls (And.intro @sBin_neqs (And.intro @sBin_eqla (And.intro @sBin_neqa (And.intro @sConv_i (And.intro @sFieldAddr_p (And.intro @sField_a (And.intro @sIndexAddr_s (And.intro @sLen_s (And.intro @sLen_m0 (And.intro @sSlice_s (And.intro @sMakeMap_e (And.intro @sMakeSlice_i (And.intro @sAlloc_e (And.intro @sBox_e (And.intro @sLoad_p (And.intro @sStore_p (And.intro @sBuild_e (And.intro @sBuildSlice_e (And.intro @sMax_i (And.intro @sMin_i (And.intro @sNil_p (And.intro @eqInts_nil (And.intro @eqInts_cons (And.intro @bnd_none (And.intro @bnd_some (And.intro @fillV_nil (And.intro @fillV_cons (And.intro @rd_mk (And.intro @alloc_get_if (And.intro @putb_get_if (And.intro @alloc_putb (And.intro @ne_add1 (And.intro @ne_add2 (And.intro @eq_addadd (And.intro @lt_addadd (And.intro @lt_add1 (And.intro @addadd (And.intro @drew_heap (And.intro @cells_int (And.intro @cells_bool (And.intro @cells_slice (And.intro @cells_map (And.intro @cells_ptr (And.intro @cells_agg (And.intro @cells_func (And.intro @cells_nilFunc (And.intro @one_int (And.intro @one_bool (And.intro @one_slice (And.intro @one_map (And.intro @one_ptr (And.intro @one_func (And.intro @one_nilFunc (And.intro @extract_lit (And.intro @set_lit (And.intro @get_lit (And.intro @cell_mk (And.intro @add_mk (And.intro @alloc_size (And.intro @alloc_size (And.intro @putb_size (And.intro @putb_putb (And.intro @spl_nil (And.intro @spl_cons (And.intro @fin_t (And.intro @fin_c (And.intro @fin_tt (And.intro @fin_ct (And.intro @fin_cc (And.intro @fin_ttt (And.intro @RB_some (And.intro @RBt_some (@RBB_some)))))))))))))))))))))))))))))))))))))))))))))))))))))))))))))))))))))))))))))))))))))))))))))))))))))))))))
theorem if_true_m (α : Type) [h : Decidable True] (a b : α) : (@ite α True h a b) = a := if_pos trivial
theorem if_false_m (α : Type) [h : Decidable False] (a b : α) : (@ite α False h a b) = b := if_neg id
theorem decide_true_m [h : Decidable True] : @decide True h = true := by simp
theorem decide_false_m [h : Decidable False] : @decide False h = false := by simp
/-- lists and options -/
def SL := And.intro (@Option.map_some Value (Value × World)) (And.intro (@Option.map_none Value (Value × World)) (And.intro (@Option.map_some (Nat × Nat × Bool) (Value × World)) (And.intro (@Option.map_none (Nat × Nat × Bool) (Value × World)) (And.intro (@Option.map_some (Array Value) (Value × World)) (And.intro (@Option.map_none (Array Value) (Value × World)) (And.intro (@Option.map_some Bool (Value × World)) (And.intro (@Option.map_none Bool (Value × World)) (And.intro (@Option.map_some Bool Bool) (And.intro (@Option.map_none Bool Bool) (And.intro (@Option.bind_some Nat (Value × World)) (And.intro (@Option.bind_none Nat (Value × World)) (And.intro (@Option.bind_some IntKind (Value × World)) (And.intro (@Option.bind_none IntKind (Value × World)) (And.intro (@Option.bind_some Value (Value × World)) (And.intro (@Option.bind_none Value (Value × World)) (And.intro (@Option.bind_some Bool (Value × World)) (And.intro (@Option.bind_none Bool (Value × World)) (And.intro (@Option.bind_some (Nat × Nat × Bool) (Value × World)) (And.intro (@Option.bind_none (Nat × Nat × Bool) (Value × World)) (And.intro (@Option.bind_some (Array Value × List (Nat × Nat)) (Value × World)) (And.intro (@Option.bind_none (Array Value × List (Nat × Nat)) (Value × World)) (And.intro (@Option.bind_some (Nat × Nat) (Array Value)) (And.intro (@Option.bind_none (Nat × Nat) (Array Value)) (And.intro (@Option.bind_some (Array Value) (Value × World)) (And.intro (@Option.bind_none (Array Value) (Value × World)) (And.intro (@Option.bind_some TypeId (Value × World)) (And.intro (@Option.bind_none TypeId (Value × World)) (And.intro (@List.getElem?_cons_zero Value) (And.intro (@List.getElem?_cons_succ Value) (And.intro (@List.length_cons Value) (And.intro (@List.length_nil Value) (And.intro (@List.getElem?_cons_zero (Nat × Nat)) (And.intro (@List.getElem?_cons_succ (Nat × Nat)) (And.intro (@List.length_cons (Nat × Nat)) (And.intro (@List.length_nil (Nat × Nat)) (And.intro (@List.size_toArray Value) (And.intro (@List.drop_zero Value) (And.intro (@List.drop_succ_cons Value) (And.intro (@List.take_succ_cons Value) (And.intro (@List.take_zero Value) (And.intro (@List.take_nil Value) (And.intro (@List.drop_nil Value) (And.intro (@List.set_cons_zero Value) (And.intro (@List.set_cons_succ Value) (And.intro (@List.toList_toArray Value) (And.intro (@List.all_cons Value) (And.intro (@List.all_nil Value) (And.intro (@List.flatten_cons Value) (And.intro (@List.flatten_nil Value) (And.intro (@List.cons_append Value) (And.intro (@List.nil_append Value) (And.intro (@List.replicate_succ (List Value)) (And.intro (@List.replicate_zero (List Value)) (And.intro (@Option.isSome_some TypeId) (And.intro (@Option.isNone_some Addr) (And.intro (@Option.isNone_none Addr) (And.intro (@Bool.and_true) (And.intro (@Bool.true_and) (And.intro (@Bool.not_true) (And.intro (@Bool.not_false) (And.intro (@and_self) (And.intro (@true_and) (And.intro (@and_true) (And.intro (@Nat.zero_add) (And.intro (@Nat.add_zero) (And.intro (@Nat.mul_one) (And.intro (@Bool.false_eq_true) (And.intro (@not_true_eq_false) (And.intro (@not_false_eq_true) (And.intro (@Bool.and_false) (And.intro (@Bool.false_and) (And.intro (@eq_self TypeId) (And.intro (@eq_self IntKind) (And.intro (@eq_self Int) (And.intro (@eq_self Bool) (And.intro (@ne_eq Int) (And.intro (if_true_m (Option Obj)) (And.intro (if_false_m (Option Obj)) (And.intro (if_true_m Value) (And.intro (if_true_m (Option (Value × World))) (And.intro (if_true_m (Option (Array Value))) (And.intro (if_true_m Prop) (And.intro (if_true_m Int) (And.intro (if_false_m Value) (And.intro (if_false_m (Option (Value × World))) (And.intro (if_false_m (Option (Array Value))) (And.intro (if_false_m Prop) (And.intro (if_false_m Int) (And.intro (@decide_true_m) (@decide_false_m))))))))))))))))))))))))))))))))))))))))))))))))))))))))))))))))))))))))))))))))))))))))))
end Go.W
