/-
  Regions that draw their order: the pass in the order of the text, and that an operation that may come up now may be taken first.
-/
import Derived.Test.YtblogcihkjhgkaaV4
set_option linter.unusedSimpArgs false
set_option linter.unusedVariables false
namespace Go.W
abbrev Psi := Nat → List Value → Value → World → Prop
abbrev Fact := Nat → World → Prop
def F0 : Fact := fun _ _ => True
def updF (F : Fact) (n : Nat) (φ : World → Prop) : Fact := fun m => if m = n then φ else F m
def FA (F : Fact) (w : World) : Prop := ∀ n, F n w
def FD (F : Fact) (deps : List Nat) (w : World) : Prop := ∀ n ∈ deps, F n w
/-- it lasts -/
def St (φ : World → Prop) : Prop := ∀ w w', φ w → Ext w w' → φ w'
structure DI where
  n : Nat
  deps : List Nat
  g : Option (Nat × Bool)
  i : VI
inductive Eff where
  | slot (d : Option Nat) (v : Value)
  | tok (e b off : Nat)
  | untok (e : Nat)
  | newb (b : Nat) (v : Value)
def ap : Eff → OK × Fr → OK × Fr
  | .slot d v, s => (s.1, updO s.2 d v)
  | .tok e b off, s => (oset s.1 e b off, s.2)
  | .untok e, s => (oclr s.1 e, s.2)
  | .newb b v, s => (odel s.1 b, upd s.2 b v)
def vvia (ok : OK) (via : Option (Nat × Nat)) (b : Nat) : Prop := match via with | none => True | some (y, o) => ok y = some (b, o)
instance (ok : OK) (via : Option (Nat × Nat)) (b : Nat) : Decidable (vvia ok via b) := by unfold vvia; split <;> exact inferInstance
instance (ok : OK) (via : Option Nat) (b off : Nat) : Decidable (vok ok via b off) := by unfold vok; split <;> exact inferInstance
def ef (P : Program) (w1 : World) (i : VI) (s : OK × Fr) : Option Eff :=
  match i with
  | .op d o _ => (rdW P o s.2 w1).map fun p => .slot d p.1
  | .path e b off via => if live (s.2 b) = true ∧ vvia s.1 via b then some (.tok e b off) else none
  | .part d via b off n ag => if vok s.1 via b off then (sPart (s.2 b) off n ag).map (.slot d ·) else none
  | .put via b off n x => if s.1 via = some (b, off) then (sPut (s.2 b) off n (ev s.2 x)).map (.slot (some b) ·) else none
  | .set b n x => if live (s.2 b) = true ∧ live (ev s.2 x) = true ∧ (ev s.2 x).cells.size = n ∧ (ev s.2 x).cells.toList.all one = true then some (.slot (some b) (ev s.2 x)) else none
  | .new b z => some (.newb b z)
  | .box b n x => if live (ev s.2 x) = true ∧ (ev s.2 x).cells.size = n then some (.newb b (ev s.2 x)) else none
def es : VI → Eff
  | .op d _ _ | .part d _ _ _ _ _ => .slot d undef
  | .path e _ _ _ => .untok e
  | .put .. | .set .. => .slot none undef
  | .new b _ | .box b _ _ => .newb b undef
def lightOp : Op → Bool
  | .move _ | .assign _ | .pick .. | .build .. | .load .. | .nilCheck _ | .binOp .. | .convert .. | .fieldAddr .. | .field .. | .indexAddr .. | .extract .. | .unOp .not _ _ | .slice _ _ _ _ none => true
  | .call ⟨.builtin .len, _, _⟩ | .call ⟨.builtin .max, _, _⟩ | .call ⟨.builtin .min, _, _⟩ => true
  | _ => false
def isL : VI → Bool
  | .op _ (.load _ _) ty => ty != 999999
  | .op _ o _ => lightOp o
  | _ => true
def wants (g : Option (Nat × Bool)) (f : Fr) : Bool :=
  match g with
  | none => true
  | some (t, want) => match f t with | .bool b => b == want | _ => false
def args (p : Op) (f : Fr) : List Value := p.operands.toList.map (ev f)
def kE (k : Fact → OK × Fr → Prop) (F : Fact) (s : OK × Fr) (r : Option Eff) : Prop := match r with | some E => k F (ap E s) | none => False
def PhY (P : Program) (w1 : World) (Ps : Psi) (o : DI) (k : Fact → OK × Fr → Prop) (F : Fact) (s : OK × Fr) : Prop :=
  match o.i with
  | .op d p ty => isSel p = false ∧ (∀ v, St (Ps o.n (args p s.2) v)) ∧ (∀ w', Ext w1 w' → FD F o.deps w' → opV P p ty s.2 w' fun v w'' => Ext w' w'' ∧ Ps o.n (args p s.2) v w'') ∧
      ∀ v, (∃ w', Ext w1 w' ∧ FA F w' ∧ Ps o.n (args p s.2) v w') → k (updF F o.n (Ps o.n (args p s.2) v)) (s.1, updO s.2 d v)
  | _ => False
def stepY (P : Program) (w1 : World) (Ps : Psi) (o : DI) (k : Fact → OK × Fr → Prop) (F : Fact) (s : OK × Fr) : Prop :=
  if wants o.g s.2 = true then (if isL o.i = true then kE k F s (ef P w1 o.i s) else PhY P w1 Ps o k F s) else k F (ap (es o.i) s)
def YD (P : Program) (w1 : World) (Ps : Psi) (K : OK → Fr → World → Prop) : List DI → Fact → OK × Fr → Prop
  | [], F, s => ∀ w', Ext w1 w' → FA F w' → K s.1 s.2 w'
  | o :: l, F, s => stepY P w1 Ps o (YD P w1 Ps K l) F s
/-! ### what is read and written -/
def rdS : VI → List Nat
  | .op _ o _ => oslots o
  | .path _ b _ none => [b]
  | .path _ b _ (some (y, _)) => [b, y]
  | .part _ none b _ _ _ => [b]
  | .part _ (some y) b _ _ _ => [b, y]
  | .put via b _ _ x => via :: b :: oslot x
  | .set b _ x => b :: oslot x
  | .new _ _ => []
  | .box _ _ x => oslot x
def dl : Option Nat → List Nat
  | some d => [d]
  | none => []
def wrS : VI → List Nat
  | .op d _ _ | .part d _ _ _ _ _ => dl d
  | .path e _ _ _ => [e]
  | .put _ b _ _ _ | .set b _ _ | .new b _ | .box b _ _ => [b]
def gS : Option (Nat × Bool) → List Nat
  | some (t, _) => [t]
  | none => []
def disj (a b : List Nat) : Bool := a.all fun t => !b.contains t
def apart (o p : DI) : Bool := disj (wrS o.i) (rdS p.i ++ gS p.g ++ wrS p.i) && disj (wrS p.i) (rdS o.i ++ gS o.g)
def tgt : Eff → Option Nat
  | .slot d _ => d
  | .tok e _ _ | .untok e => some e
  | .newb b _ => some b
/-- the effect does not touch what o reads -/
def Far (E : Eff) (o : DI) : Prop := ∀ t, tgt E = some t → t ∉ rdS o.i ∧ t ∉ gS o.g
theorem updO_far {f : Fr} {d : Option Nat} {v : Value} {l : List Nat} (h : ∀ t, d = some t → t ∉ l) : sameOn l (updO f d v) f := by
  intro t ht
  cases d with
  | none => rfl
  | some d => simp only [updO]; rw [upd_ne]; rintro rfl; exact h t rfl ht
theorem ap_fr {E : Eff} {s : OK × Fr} {l : List Nat} (h : ∀ t, tgt E = some t → t ∉ l) : sameOn l (ap E s).2 s.2 := by
  cases E with
  | slot d v => exact updO_far h
  | tok e b off => intro t _; rfl
  | untok e => intro t _; rfl
  | newb b v => exact updO_far (d := some b) h
theorem ap_ok {E : Eff} {s : OK × Fr} {e b off : Nat} (h1 : tgt E ≠ some e) (h2 : tgt E ≠ some b) : ((ap E s).1 e = some (b, off)) = (s.1 e = some (b, off)) := by
  cases E with
  | slot d v => rfl
  | tok e' b' off' => simp only [ap, oset, tgt, ne_eq, Option.some.injEq] at h1 ⊢; rw [if_neg (fun x => h1 x.symm)]
  | untok e' => simp only [ap, oclr, tgt, ne_eq, Option.some.injEq] at h1 ⊢; rw [if_neg (fun x => h1 x.symm)]
  | newb b' v =>
    simp only [ap, odel, tgt, ne_eq, Option.some.injEq] at h2 ⊢
    cases hs : s.1 e with
    | none => simp
    | some p =>
      obtain ⟨c, d⟩ := p
      simp only [Option.bind_some]
      split
      · rename_i hc; simp only [reduceCtorEq, Option.some.injEq, Prod.mk.injEq]; refine (eq_false ?_).symm; rintro ⟨rfl, _⟩; exact h2 hc.symm
      · rfl
theorem far_ne {E : Eff} {l : List Nat} (h : ∀ t, tgt E = some t → t ∉ l) {e : Nat} (he : e ∈ l) : tgt E ≠ some e := fun hx => h e hx he
theorem ef_ap {P : Program} {w1 : World} {E : Eff} {i : VI} {s : OK × Fr} (h : ∀ t, tgt E = some t → t ∉ rdS i) : ef P w1 i (ap E s) = ef P w1 i s := by
  have hf : sameOn (rdS i) (ap E s).2 s.2 := ap_fr h
  cases i with
  | op d o ty => simp only [ef]; rw [rdW_congr (evs_on hf)]
  | path e b off via =>
    have h2 : vvia (ap E s).1 via b = vvia s.1 via b := by
      cases via with
      | none => rfl
      | some p => exact ap_ok (far_ne h (by simp [rdS])) (far_ne h (by simp [rdS]))
    have h1 : (ap E s).2 b = s.2 b := hf b (by cases via <;> simp [rdS])
    simp only [ef, h1, h2]
  | part d via b off n ag =>
    have h2 : vok (ap E s).1 via b off = vok s.1 via b off := by
      cases via with
      | none => rfl
      | some p => exact ap_ok (far_ne h (by simp [rdS])) (far_ne h (by simp [rdS]))
    have h1 : (ap E s).2 b = s.2 b := hf b (by cases via <;> simp [rdS])
    simp only [ef, h1, h2]
  | put via b off n x =>
    have h2 : ((ap E s).1 via = some (b, off)) = (s.1 via = some (b, off)) := ap_ok (far_ne h (by simp [rdS])) (far_ne h (by simp [rdS]))
    have h1 : (ap E s).2 b = s.2 b := hf b (by simp [rdS])
    have h3 : ev (ap E s).2 x = ev s.2 x := ev_on fun t ht => hf t (by simp [rdS, ht])
    simp only [ef, h1, h2, h3]
  | set b n x =>
    have h1 : (ap E s).2 b = s.2 b := hf b (by simp [rdS])
    have h3 : ev (ap E s).2 x = ev s.2 x := ev_on fun t ht => hf t (by simp [rdS, ht])
    simp only [ef, h1, h3]
  | new b z => rfl
  | box b n x =>
    have h3 : ev (ap E s).2 x = ev s.2 x := ev_on fun t ht => hf t (by simp [rdS, ht])
    simp only [ef, h3]
theorem wants_on {g : Option (Nat × Bool)} {f f' : Fr} (h : sameOn (gS g) f f') : wants g f = wants g f' := by
  cases g with
  | none => rfl
  | some p => obtain ⟨t, want⟩ := p; simp only [wants]; rw [h t (by simp [gS])]
theorem tgt_ef {P : Program} {w1 : World} {i : VI} {s : OK × Fr} {E : Eff} (h : ef P w1 i s = some E) {t : Nat} (ht : tgt E = some t) : t ∈ wrS i := by
  cases i <;> simp only [ef] at h
  case op d o ty => obtain ⟨p, _, rfl⟩ := Option.map_eq_some_iff.1 h; simp only [tgt] at ht; subst ht; simp [wrS, dl]
  case path e b off via => split at h <;> simp only [Option.some.injEq, reduceCtorEq] at h; subst h; simp only [tgt, Option.some.injEq] at ht; simp [wrS, ht]
  case part d via b off n ag =>
    split at h
    · obtain ⟨p, _, rfl⟩ := Option.map_eq_some_iff.1 h; simp only [tgt] at ht; subst ht; simp [wrS, dl]
    · simp at h
  case put via b off n x =>
    split at h
    · obtain ⟨p, _, rfl⟩ := Option.map_eq_some_iff.1 h; simp only [tgt, Option.some.injEq] at ht; subst ht; simp [wrS]
    · simp at h
  case set b n x => split at h <;> simp only [Option.some.injEq, reduceCtorEq] at h; subst h; simp only [tgt, Option.some.injEq] at ht; simp [wrS, ht]
  case new b z => simp only [Option.some.injEq] at h; subst h; simp only [tgt, Option.some.injEq] at ht; simp [wrS, ht]
  case box b n x => split at h <;> simp only [Option.some.injEq, reduceCtorEq] at h; subst h; simp only [tgt, Option.some.injEq] at ht; simp [wrS, ht]
theorem tgt_es {i : VI} {t : Nat} (ht : tgt (es i) = some t) : t ∈ wrS i := by
  cases i <;> simp only [es, tgt, Option.some.injEq, reduceCtorEq] at ht <;> simp [wrS, dl, ht]
theorem tok_ef {P : Program} {w1 : World} {i : VI} {s : OK × Fr} {e b off : Nat} (h : ef P w1 i s = some (.tok e b off)) : b ∈ rdS i := by
  cases i <;> simp only [ef] at h
  case op d o ty => obtain ⟨p, _, h⟩ := Option.map_eq_some_iff.1 h; cases h
  case path e b off via => split at h <;> simp only [Option.some.injEq, reduceCtorEq, Eff.tok.injEq] at h; obtain ⟨rfl, rfl, rfl⟩ := h; cases via <;> simp [rdS]
  case part d via b off n ag =>
    split at h
    · obtain ⟨p, _, h⟩ := Option.map_eq_some_iff.1 h; cases h
    · simp at h
  case put via b off n x =>
    split at h
    · obtain ⟨p, _, h⟩ := Option.map_eq_some_iff.1 h; cases h
    · simp at h
  case set b n x => split at h <;> simp only [Option.some.injEq, reduceCtorEq] at h
  case new b z => simp only [Option.some.injEq, reduceCtorEq] at h
  case box b n x => split at h <;> simp only [Option.some.injEq, reduceCtorEq] at h
theorem updO_comm {f : Fr} {d e : Option Nat} {u v : Value} (h : ∀ t, d = some t → e ≠ some t) : updO (updO f d u) e v = updO (updO f e v) d u := by
  cases d with
  | none => rfl
  | some d =>
    cases e with
    | none => rfl
    | some e =>
      have hne : d ≠ e := by rintro rfl; exact h d rfl rfl
      funext t
      simp only [updO, upd]
      by_cases h1 : t = e <;> by_cases h2 : t = d
      · exact (hne (h2.symm.trans h1)).elim
      · simp [h1, h2]; intro h3; exact (hne h3.symm).elim
      · simp [h1, h2]; intro h3; exact (hne h3).elim
      · simp [h1, h2]
/-- two effects that are apart -/
theorem ap_comm {E E' : Eff} {s : OK × Fr} (h : ∀ t, tgt E = some t → tgt E' ≠ some t) (h1 : ∀ e b off, E = .tok e b off → tgt E' ≠ some b) (h2 : ∀ e b off, E' = .tok e b off → tgt E ≠ some b) : ap E (ap E' s) = ap E' (ap E s) := by
  cases E <;> cases E' <;> simp only [ap, Prod.mk.injEq, true_and, and_true]
  case slot.slot d v d' v' => exact updO_comm fun t ht => fun hd => h t hd ht
  case slot.newb d v b u => exact updO_comm (e := d) (d := some b) fun t ht => fun hd => h t hd ht
  case newb.slot b u d v => exact updO_comm (e := some b) (d := d) fun t ht => fun hd => h t hd ht
  case tok.tok e b off e' b' off' =>
    have hne : e ≠ e' := by rintro rfl; exact h e rfl rfl
    funext t; simp only [oset]; by_cases q1 : t = e <;> by_cases q2 : t = e' <;> simp [q1, q2] <;> (intro q3; first | exact (hne q3).elim | exact (hne q3.symm).elim | exact (hne (q1.symm.trans q2)).elim)
  case tok.untok e b off e' =>
    have hne : e ≠ e' := by rintro rfl; exact h e rfl rfl
    funext t; simp only [oset, oclr]; by_cases q1 : t = e <;> by_cases q2 : t = e' <;> simp [q1, q2] <;> (intro q3; first | exact (hne q3).elim | exact (hne q3.symm).elim | exact (hne (q1.symm.trans q2)).elim)
  case untok.tok e e' b off =>
    have hne : e ≠ e' := by rintro rfl; exact h e rfl rfl
    funext t; simp only [oset, oclr]; by_cases q1 : t = e <;> by_cases q2 : t = e' <;> simp [q1, q2] <;> (intro q3; first | exact (hne q3).elim | exact (hne q3.symm).elim | exact (hne (q1.symm.trans q2)).elim)
  case untok.untok e e' =>
    funext t; simp only [oclr]; by_cases q1 : t = e <;> by_cases q2 : t = e' <;> simp [q1, q2]
  case tok.newb e b off b' v =>
    have hne : ¬ b = b' := by rintro rfl; exact h1 e b off rfl rfl
    funext t; simp only [oset, odel]; by_cases q1 : t = e <;> simp [q1, hne]
  case newb.tok b' v e b off =>
    have hne : ¬ b = b' := by rintro rfl; exact h2 e b off rfl rfl
    funext t; simp only [oset, odel]; by_cases q1 : t = e <;> simp [q1, hne]
  case untok.newb e b v => funext t; simp only [oclr, odel]; by_cases q1 : t = e <;> simp [q1]
  case newb.untok b v e => funext t; simp only [oclr, odel]; by_cases q1 : t = e <;> simp [q1]
  case newb.newb b v b' v' =>
    have hne : b ≠ b' := by rintro rfl; exact h b rfl rfl
    refine ⟨?_, updO_comm (d := some b') (e := some b) fun t ht => fun hd => by simp only [Option.some.injEq] at ht hd; exact hne (hd.trans ht.symm)⟩
    funext t
    simp only [odel]
    cases s.1 t with
    | none => rfl
    | some p =>
      obtain ⟨c, d⟩ := p
      have e1 : ∀ x : Nat, ((if c = x then none else some (c, d)) : Option (Nat × Nat)) = if c = x then none else some (c, d) := fun _ => rfl
      by_cases q1 : c = b
      · have q2 : ¬ c = b' := fun q => hne (q1.symm.trans q)
        simp only [Option.bind_some, if_pos q1, if_neg q2, Option.bind_none]
      · by_cases q2 : c = b'
        · simp only [Option.bind_some, if_neg q1, if_pos q2, Option.bind_none]
        · simp only [Option.bind_some, if_neg q1, if_neg q2]
end Go.W
