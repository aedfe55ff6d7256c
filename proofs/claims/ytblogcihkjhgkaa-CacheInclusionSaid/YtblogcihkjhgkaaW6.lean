/-
  Tests on values that are no integers; the chain of operations X; code Wp; calls Ret; their soundness.
-/
import Derived.Test.YtblogcihkjhgkaaW5
set_option linter.unusedSimpArgs false
set_option linter.unusedVariables false
namespace Go.W
/-! ### equality -/
def eqInts : List Value → List Value → Option Bool
  | [], [] => some true
  | .int k a :: xs, .int k' b :: ys => if k = k' then (eqInts xs ys).map fun r => decide (a = b) && r else none
  | _, _ => none
def intField (P : Program) (p : Field × Nat) : Bool := p.1.offset == p.2 && p.1.name != "_" && (kd P p.1.type).isSome
/-- a struct type all of whose fields are integers, each in a cell -/
def intStruct (P : Program) (t : TypeId) : Bool :=
  match P.underlying t with
  | some (.struct fs) => fs.toList.zipIdx.all (intField P) && !P.stoodInHeld t && !P.eqGuardType P.depth t
  | _ => false
def fieldCount (P : Program) (t : TypeId) : Nat := match P.underlying t with | some (.struct fs) => fs.size | _ => 0
def eqFin (op : BinOp) (r : Bool) (w : World) : Option (Value × World) := match op with | .eql => some (.bool r, w) | .neq => some (.bool !r, w) | _ => none
/-- 1: bool, 2: pointer, 3: slice -/
def tag (P : Program) (t : TypeId) : Nat := match P.underlying t with | some .bool => 1 | some (.pointer _) => 2 | some (.slice _) => 3 | _ => 0
theorem tag1 {P : Program} {t : TypeId} (h : tag P t = 1) : P.underlying t = some .bool := by
  unfold tag at h; split at h <;> first | assumption | simp at h
theorem tag2 {P : Program} {t : TypeId} (h : tag P t = 2) : ∃ e, P.underlying t = some (.pointer e) := by
  unfold tag at h; split at h <;> first | exact ⟨_, by assumption⟩ | simp at h
theorem tag3 {P : Program} {t : TypeId} (h : tag P t = 3) : ∃ e, P.underlying t = some (.slice e) := by
  unfold tag at h; split at h <;> first | exact ⟨_, by assumption⟩ | simp at h
def sEq (P : Program) (op : BinOp) (t : TypeId) (x y : Value) (w : World) : Option (Value × World) :=
  match x, y with
  | .bool a, .bool b => if tag P t = 1 then eqFin op (a == b) w else none
  | .pointer a, .pointer none => if tag P t = 2 then eqFin op a.isNone w else none
  | .slice a _ _, .slice none _ _ => if tag P t = 3 then eqFin op a.isNone w else none
  | .agg xs, .agg ys => if intStruct P t = true ∧ xs.size = fieldCount P t ∧ ys.size = fieldCount P t then (eqInts xs.toList ys.toList).bind (eqFin op · w) else none
  | _, _ => none

theorem run_eqFields {P : Program} {w : World} (d : Nat) (xs ys : Array Value) : ∀ (fs : List Field) (i : Nat) (r : Bool), (fs.zipIdx i).all (intField P) = true →
    xs.size = i + fs.length → ys.size = i + fs.length → eqInts (xs.toList.drop i) (ys.toList.drop i) = some r → (Op.eqFields (d + 1) xs ys fs).run P w = .ok r w := by
  intro fs
  induction fs with
  | nil =>
    intro i r _ hx hy h
    simp only [List.length_nil, Nat.add_zero] at hx hy
    rw [List.drop_eq_nil_of_le (by simp; omega), List.drop_eq_nil_of_le (by simp; omega)] at h
    simp only [eqInts, Option.some.injEq] at h
    subst h
    simp [Op.eqFields, Sem.run, pure]
  | cons f fs ih =>
    intro i r hall hx hy h
    simp only [List.length_cons] at hx hy
    simp only [List.zipIdx_cons, List.all_cons, Bool.and_eq_true] at hall
    obtain ⟨hf, hrest⟩ := hall
    simp only [intField, Bool.and_eq_true, beq_iff_eq, bne_iff_ne, ne_eq] at hf
    obtain ⟨⟨ho, hn⟩, hk⟩ := hf
    obtain ⟨k, hk⟩ := Option.isSome_iff_exists.1 hk
    have hxl : i < xs.toList.length := by simp; omega
    have hyl : i < ys.toList.length := by simp; omega
    rw [List.drop_eq_getElem_cons hxl, List.drop_eq_getElem_cons hyl] at h
    have hag : agb P f.type = some false := by simp [agb, kd_spec hk]
    have hxe : xs[i]? = some (xs.toList[i]) := by simp
    have hye : ys[i]? = some (ys.toList[i]) := by simp
    generalize xs.toList[i] = vx at *
    generalize ys.toList[i] = vy at *
    cases vx <;> cases vy <;> simp only [eqInts] at h <;> try (simp at h; done)
    rename_i k1 a k2 b
    split at h
    · rename_i hkk
      subst hkk
      obtain ⟨r', hr', rfl⟩ := Option.map_eq_some_iff.1 h
      have hpx : (part f.type xs f.offset).run P w = .ok (.int k1 a) w := by simp [part, run_bind, run_isAgg hag, ho, hxe, Sem.run, pure]
      have hpy : (part f.type ys f.offset).run P w = .ok (.int k1 b) w := by simp [part, run_bind, run_isAgg hag, ho, hye, Sem.run, pure]
      have heq : (Op.equalIn (d + 1) f.type (.int k1 a) (.int k1 b)).run P w = .ok (a == b) w := run_equalIn_int w d f.type k1 k a b (kd_spec hk)
      have hih := ih (i + 1) r' hrest (by omega) (by omega) hr'
      simp only [Op.eqFields, hn, not_false_eq_true, ne_eq, if_true, run_bind, hpx, hpy, heq]
      by_cases hab : a = b
      · subst hab; simpa using hih
      · simp [hab, Sem.run, pure]
    · simp at h

theorem eqFin_sound {P : Program} {op : BinOp} {t t' ty : TypeId} {x y : Operand} {f : Fr} {vx vy : Value} {r : Bool} {w w' : World} {u : Value} {K : Value → World → Prop}
    (hx : ev f x = vx) (hy : ev f y = vy) (hs : eqFin op r w = some (u, w')) (hg : (eqGuard op t x y vx vy).run P w = .ok () w) (e : (Op.equal t vx vy).run P w = .ok r w)
    (hb : (binOp .eql t vx vy).run P w = ((Op.equal t vx vy) >>= fun b => pure (.bool b)).run P w) (hn : (binOp .neq t vx vy).run P w = ((Op.equal t vx vy) >>= fun b => pure (.bool !b)).run P w)
    (h : K u w') : raw P (.binOp op t x y t') ty f w K := by
  unfold raw
  simp only [execOp, run_bind, hx, hy, hg]
  cases op <;> simp only [eqFin, Option.some.injEq, Prod.mk.injEq] at hs <;> try (simp at hs; done)
  · obtain ⟨rfl, rfl⟩ := hs; simpa [hb, run_bind, e, Sem.run, pure, upon] using h
  · obtain ⟨rfl, rfl⟩ := hs; simpa [hn, run_bind, e, Sem.run, pure, upon] using h
theorem sEq_sound {P : Program} {op : BinOp} {t t' : TypeId} {x y : Operand} {ty : TypeId} {f : Fr} {w : World} {K : Value → World → Prop}
    (h : B (sEq P op t (ev f x) (ev f y) w) K) : raw P (.binOp op t x y t') ty f w K := by
  generalize hvx : ev f x = vx at *
  generalize hvy : ev f y = vy at *
  unfold B at h
  split at h
  · rename_i u w' hs
    unfold sEq at hs
    split at hs
    · split at hs
      · rename_i a b hu
        refine eqFin_sound hvx hvy hs ?_ ?_ ?_ ?_ h
        · cases op <;> rfl
        · unfold Op.equal Op.maxDepth; exact run_equalIn_bool' w 9999 t a b (tag1 hu)
        · rfl
        · rfl
      · simp at hs
    · split at hs
      · rename_i a hu
        obtain ⟨e0, hu⟩ := tag2 hu
        refine eqFin_sound hvx hvy hs ?_ ?_ ?_ ?_ h
        · cases op <;> rfl
        · unfold Op.equal Op.maxDepth Op.equalIn
          simp only [run_bind, run_underlying hu]
          cases a <;> rfl
        · rfl
        · rfl
      · simp at hs
    · split at hs
      · rename_i a n c n' c' hu
        obtain ⟨e0, hu⟩ := tag3 hu
        refine eqFin_sound hvx hvy hs ?_ ?_ ?_ ?_ h
        · cases op <;> rfl
        · unfold Op.equal Op.maxDepth Op.equalIn
          simp only [run_bind, run_underlying hu]
          cases a <;> rfl
        · rfl
        · rfl
      · simp at hs
    · split at hs
      · rename_i xs ys hc
        obtain ⟨hi, hx, hy⟩ := hc
        unfold intStruct at hi
        unfold fieldCount at hx hy
        split at hi
        · rename_i fs hu
          simp only [hu] at hx hy
          simp only [Bool.and_eq_true, Bool.not_eq_true'] at hi
          obtain ⟨⟨hall, hst⟩, hg⟩ := hi
          obtain ⟨r, hr, hfin⟩ := Option.bind_eq_some_iff.1 hs
          have hfo : P.fieldsOf t = fs := by simp [Program.fieldsOf, hu]
          refine eqFin_sound hvx hvy hfin (run_eqGuard_agg w _ t x y xs ys hg) ?_ ?_ ?_ h
          · unfold Op.equal Op.maxDepth
            rw [run_equalIn_struct w 9999 t xs ys (by rw [hfo]; exact hu) hst, hfo]
            exact run_eqFields 9998 xs ys fs.toList 0 r hall (by simpa using hx) (by simpa using hy) (by simpa using hr)
          · rfl
          · rfl
        · simp at hi
      · simp at hs
    · simp at hs
  · exact h.elim
/-- a binary operation -/
def sBin (P : Program) (op : BinOp) (t : TypeId) (x y : Value) (w : World) : Option (Value × World) :=
  match x, y with
  | .int _ _, .int _ _ => sInt op x y w
  | _, _ => sEq P op t x y w
theorem sBin_sound {P : Program} {op : BinOp} {t t' : TypeId} {x y : Operand} {ty : TypeId} {f : Fr} {w : World} {K : Value → World → Prop}
    (h : B (sBin P op t (ev f x) (ev f y) w) K) : raw P (.binOp op t x y t') ty f w K := by
  by_cases hi : ∃ k a k' b, ev f x = .int k a ∧ ev f y = .int k' b
  · obtain ⟨k, a, k', b, hx, hy⟩ := hi
    refine sInt_sound ?_
    rw [hx, hy] at h ⊢
    exact h
  · refine sEq_sound ?_
    have : sBin P op t (ev f x) (ev f y) w = sEq P op t (ev f x) (ev f y) w := by
      unfold sBin
      split
      · rename_i h1 h2; exact (hi ⟨_, _, _, _, h1, h2⟩).elim
      · rfl
    rw [this] at h
    exact h
end Go.W
