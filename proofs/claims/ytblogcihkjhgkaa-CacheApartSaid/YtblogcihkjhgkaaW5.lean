/-
  Literals of structs and slices, conversions of integers, min and max, tests on bools, pointers, slices and structs of integers, nil checks.
-/
import Derived.Test.YtblogcihkjhgkaaW4
set_option linter.unusedSimpArgs false
set_option linter.unusedVariables false
namespace Go.W
/-! ### literals -/
def fillV (pl : Nat → Option (Nat × Nat)) (cs : Array Value) : List (Nat × Value) → Option (Array Value)
  | [] => some cs
  | (i, v) :: rest => match pl i with
    | some (off, n) => if v.cells.size = n ∧ off + n ≤ cs.size then fillV pl (spl cs off v.cells.toList) rest else none
    | none => none
theorem foldl_spl (vs : List Value) : ∀ (cs : Array Value) (off k : Nat),
    (vs.zipIdx k).foldl (fun cs (p : Value × Nat) => cs.setIfInBounds (off + p.2) p.1) cs = spl cs (off + k) vs := by
  induction vs with
  | nil => intros; rfl
  | cons v vs ih => intro cs off k; simp only [List.zipIdx_cons, List.foldl_cons, spl]; rw [ih]; rfl
theorem fillV_fill (pl : Nat → Option (Nat × Nat)) : ∀ (parts : List (Nat × Value)) (cs out : Array Value), fillV pl cs parts = some out → Instr.fill pl cs parts = some out := by
  intro parts
  induction parts with
  | nil => intro cs out h; simpa [fillV, Instr.fill] using h
  | cons p rest ih =>
    intro cs out h
    obtain ⟨i, v⟩ := p
    simp only [fillV] at h
    split at h
    · rename_i off n hp
      split at h
      · rename_i hc
        obtain ⟨h1, h2⟩ := hc
        simp only [Instr.fill, hp]
        have h3 : ¬ (off + v.cells.size > cs.size) := by omega
        simp only [h1, ne_eq, not_true, decide_false, Bool.false_or]
        have h4 : ¬ (off + n > cs.size) := by omega
        simp only [h4, decide_false, Bool.false_eq_true, if_false]
        have := foldl_spl v.cells.toList cs off 0
        rw [← Array.foldl_toList, Array.toList_zipIdx, this, Nat.add_zero]
        exact ih _ _ h
      · simp at h
    · simp at h
def bldp (P : Program) (t : TypeId) : Option (Array Value × List (Nat × Nat)) :=
  match P.info? t, P.underlying t with
  | some it, some (.struct fields) =>
    match it.zero, fields.toList.mapM (fun f => (P.info? f.type).map fun i => (f.offset, i.size)) with
    | some z, some places => some (z.cells, places)
    | _, _ => none
  | _, _ => none
def sBuild (P : Program) (t : TypeId) (parts : List (Nat × Value)) (w : World) : Option (Value × World) :=
  match bldp P t with
  | some (z, pl) => (fillV (pl[·]?) z parts).map fun cs => (.agg cs, w)
  | none => none
theorem sBuild_sound {P : Program} {t : TypeId} {parts : Array (Nat × Operand)} {ty : TypeId} {f : Fr} {w : World} {K : Value → World → Prop}
    (h : B (sBuild P t (parts.toList.map fun p => (p.1, ev f p.2)) w) K) : raw P (.build t parts) ty f w K := by
  unfold B at h
  split at h
  · rename_i u w' hs
    unfold sBuild at hs
    split at hs
    · rename_i z pl hb
      obtain ⟨cs, hcs, he⟩ := Option.map_eq_some_iff.1 hs
      simp only [Prod.mk.injEq] at he
      obtain ⟨rfl, rfl⟩ := he
      have hf := fillV_fill _ _ _ _ hcs
      have hbt : P.built t (parts.map fun (i, x) => (i, ev f x)).toList = some cs := by
        unfold bldp at hb
        split at hb
        · rename_i it fields hi hu
          split at hb
          · rename_i z' places hz hp
            simp only [Option.some.injEq, Prod.mk.injEq] at hb
            obtain ⟨rfl, rfl⟩ := hb
            simp only [Program.built, hi, hu, hz, hp]
            simpa using hf
          · simp at hb
        · simp at hb
      simpa [raw, execOp, run_bind, run_build w t _ cs hbt, Sem.run, pure, upon] using h
    · simp at hs
  · exact h.elim

/-- a slice literal -/
def sBuildSlice (P : Program) (t : TypeId) (len : Nat) (parts : List (Nat × Value)) (w : World) : Option (Value × World) :=
  match elt P t with
  | some e => match zrv P e, szv P e with
    | some z, some n => if len * n ≤ 16777216 then
        match fillV (fun i => some (i * n, n)) ((List.replicate len z.cells.toList).flatten.toArray) parts with
        | some cs => some (.slice (some ⟨w.heap.size, 0, none⟩) len len, w.alloc (.cells cs e))
        | none => none
      else none
    | _, _ => none
  | none => none
def sBuildSliceOk (P : Program) (t : TypeId) : Bool :=
  match elt P t with
  | some e => match zrv P e, szv P e with
    | some z, some n => z.cells.size == n && decide (0 < n)
    | _, _ => false
  | none => false
theorem zrow_eq (z : Array Value) (hz : 0 < z.size) : ∀ len : Nat, (Array.range (len * z.size)).map (fun i => z[i % z.size]!) = (List.replicate len z.toList).flatten.toArray := by
  intro len
  apply Array.ext'
  simp only [Array.toList_map, Array.toList_range]
  induction len with
  | zero => simp
  | succ n ih =>
    rw [Nat.succ_mul, List.range_add, List.map_append, ih, List.replicate_succ']
    rw [List.flatten_append]
    simp only [List.flatten_cons, List.flatten_nil, List.append_nil, List.append_cancel_left_eq, List.map_map]
    apply List.ext_getElem
    · simp
    · intro i h1 h2
      simp at h1
      simp [h1, Nat.mod_eq_of_lt h1, Nat.add_comm]
theorem sBuildSlice_sound {P : Program} {t : TypeId} {len : Nat} {parts : Array (Nat × Operand)} {ty : TypeId} {f : Fr} {w : World} {K : Value → World → Prop}
    (hok : sBuildSliceOk P t = true) (h : B (sBuildSlice P t len (parts.toList.map fun p => (p.1, ev f p.2)) w) K) : raw P (.buildSlice t len parts) ty f w K := by
  unfold B at h
  split at h
  · rename_i u w' hs
    unfold sBuildSlice at hs
    unfold sBuildSliceOk at hok
    split at hs
    · rename_i e he
      simp only [he] at hok
      split at hs
      · rename_i z n hz hn
        simp only [hz, hn, Bool.and_eq_true, beq_iff_eq, decide_eq_true_eq] at hok
        obtain ⟨rfl, hpos⟩ := hok
        split at hs
        · rename_i hle
          split at hs
          · rename_i cs hcs
            simp only [Option.some.injEq, Prod.mk.injEq] at hs
            obtain ⟨rfl, rfl⟩ := hs
            have hf := fillV_fill _ _ _ _ hcs
            rw [← zrow_eq _ hpos] at hf
            have hlen : ¬ (len * z.cells.size > 2 ^ 24) := by omega
            have hpl : (parts.map fun (p : Nat × Operand) => (p.1, ev f p.2)).toList = parts.toList.map fun p => (p.1, ev f p.2) := by simp
            have hlen' : ¬ (16777216 < len * z.cells.size) := by omega
            simp only [raw, execOp, Instr.buildSlice, run_bind, run_underlying (elt_spec he), run_sizeOf hn, hlen, if_false, Sem.run, pure, hpl]
            by_cases h0 : len * z.cells.size = 0
            · have hf0 : Instr.fill (fun i => some (i * z.cells.size, z.cells.size)) (Array.map (fun (x : Nat) => (#[] : Array Value)[x % (#[] : Array Value).size]!) (Array.range (len * z.cells.size))) (parts.toList.map fun p => (p.1, ev f p.2)) = some cs := by
                have e0 : ∀ g : Nat → Value, (Array.range 0).map g = #[] := fun g => by apply Array.ext' ; simp
                rw [h0, e0] at hf ⊢; exact hf
              simp only [h0, if_true, run_bind, Sem.run] at hf0 ⊢
              simp only [run_bind, Sem.run, hf0, newRow, newObj, upon]
              exact h
            · simp only [h0, if_false, run_bind, run_zeroValue hz, Sem.run, hf, newRow, newObj, upon]
              exact h
          · simp at hs
        · simp at hs
      · simp at hs
    · simp at hs
  · exact h.elim

/-! ### conversions, min, max, nil checks -/
def kd (P : Program) (t : TypeId) : Option IntKind := match P.underlying t with | some (.int k) => some k | _ => none
theorem kd_spec {P : Program} {t : TypeId} {k : IntKind} (h : kd P t = some k) : P.underlying t = some (.int k) := by
  unfold kd at h
  split at h
  · rename_i k' hu; simp only [Option.some.injEq] at h; subst h; exact hu
  · simp at h
def sConv (P : Program) (s t : TypeId) (x : Value) (w : World) : Option (Value × World) :=
  match x with
  | .int _ n => match kd P s, kd P t with
    | some _, some k => if inr k n then some (.int k n, w) else none
    | _, _ => none
  | _ => none
theorem sConv_sound {P : Program} {s t : TypeId} {x : Operand} {ty : TypeId} {f : Fr} {w : World} {K : Value → World → Prop}
    (h : B (sConv P s t (ev f x) w) K) : raw P (.convert s t x) ty f w K := by
  unfold B at h
  split at h
  · rename_i u w' hs
    unfold sConv at hs
    split at hs
    · rename_i k0 n hx
      split at hs
      · rename_i k1 k hs1 ht
        split at hs
        · rename_i hi
          simp only [Option.some.injEq, Prod.mk.injEq] at hs
          obtain ⟨rfl, rfl⟩ := hs
          simpa [raw, execOp, convert, hx, run_bind, run_underlying (kd_spec hs1), run_underlying (kd_spec ht), Conv.intToInt, wrap_inr hi, Sem.run, pure, upon] using h
        · simp at hs
      · simp at hs
    · simp at hs
  · exact h.elim
def sMax (x y : Value) (w : World) : Option (Value × World) := match x, y with | .int k a, .int _ b => some (.int k (max a b), w) | _, _ => none
def sMin (x y : Value) (w : World) : Option (Value × World) := match x, y with | .int k a, .int _ b => some (.int k (min a b), w) | _, _ => none
theorem sMax_sound {P : Program} {ts : Array TypeId} {x y : Operand} {ty : TypeId} {f : Fr} {w : World} {K : Value → World → Prop}
    (h : B (sMax (ev f x) (ev f y) w) K) : raw P (.call ⟨.builtin .max, #[x, y], ts⟩) ty f w K := by
  unfold B at h
  split at h
  · rename_i u w' hs
    unfold sMax at hs
    split at hs
    · rename_i k a k' b hx hy
      simp only [Option.some.injEq, Prod.mk.injEq] at hs
      obtain ⟨rfl, rfl⟩ := hs
      have e : (if b > a then b else a) = max a b := by split <;> omega
      simpa [raw, execOp, resolve, invoke, builtin, Builtin.max_, Builtin.max2, hx, hy, run_bind, e, Sem.run, pure, upon] using h
    · simp at hs
  · exact h.elim
theorem sMin_sound {P : Program} {ts : Array TypeId} {x y : Operand} {ty : TypeId} {f : Fr} {w : World} {K : Value → World → Prop}
    (h : B (sMin (ev f x) (ev f y) w) K) : raw P (.call ⟨.builtin .min, #[x, y], ts⟩) ty f w K := by
  unfold B at h
  split at h
  · rename_i u w' hs
    unfold sMin at hs
    split at hs
    · rename_i k a k' b hx hy
      simp only [Option.some.injEq, Prod.mk.injEq] at hs
      obtain ⟨rfl, rfl⟩ := hs
      have e : (if b < a then b else a) = min a b := by split <;> omega
      simpa [raw, execOp, resolve, invoke, builtin, Builtin.min_, Builtin.min2, hx, hy, run_bind, e, Sem.run, pure, upon] using h
    · simp at hs
  · exact h.elim
def sNil (x : Value) (w : World) : Option (Value × World) := match x with | .pointer (some a) => some (.pointer (some a), w) | _ => none
theorem sNil_sound {P : Program} {x : Operand} {ty : TypeId} {f : Fr} {w : World} {K : Value → World → Prop}
    (h : B (sNil (ev f x) w) K) : raw P (.nilCheck x) ty f w K := by
  unfold B at h
  split at h
  · rename_i u w' hs
    unfold sNil at hs
    split at hs
    · rename_i a hx
      simp only [Option.some.injEq, Prod.mk.injEq] at hs
      obtain ⟨rfl, rfl⟩ := hs
      simpa [raw, execOp, hx, Sem.run, pure, upon] using h
    · simp at hs
  · exact h.elim
theorem sPick_sound {P : Program} {c a b : Operand} {ty : TypeId} {f : Fr} {w : World} {K : Value → World → Prop}
    (h : B (sPick (ev f c) (ev f a) (ev f b) w) K) : raw P (.pick c a b) ty f w K := by
  unfold B at h
  split at h
  · rename_i u w' hs
    unfold sPick at hs
    split at hs
    · rename_i t hx
      simp only [Option.some.injEq, Prod.mk.injEq] at hs
      obtain ⟨rfl, rfl⟩ := hs
      simpa [raw, execOp, hx, asBool, run_bind, Sem.run, pure, upon] using h
    · simp at hs
  · exact h.elim
theorem sNot_sound {P : Program} {t : TypeId} {x : Operand} {ty : TypeId} {f : Fr} {w : World} {K : Value → World → Prop}
    (h : B (sNot (ev f x) w) K) : raw P (.unOp .not t x) ty f w K := by
  unfold B at h
  split at h
  · rename_i u w' hs
    unfold sNot at hs
    split at hs
    · rename_i b hx
      simp only [Option.some.injEq, Prod.mk.injEq] at hs
      obtain ⟨rfl, rfl⟩ := hs
      simpa [raw, execOp, hx, Op.unary, run_bind, Sem.run, pure, upon] using h
    · simp at hs
  · exact h.elim
theorem sExtract_sound {P : Program} {x : Operand} {i : Nat} {ty : TypeId} {f : Fr} {w : World} {K : Value → World → Prop}
    (h : B (sExtract (ev f x) i w) K) : raw P (.extract x i) ty f w K := by
  unfold B at h
  split at h
  · rename_i u w' hs
    unfold sExtract at hs
    split at hs
    · rename_i vs hx
      obtain ⟨v, hv, he⟩ := Option.map_eq_some_iff.1 hs
      simp only [Prod.mk.injEq] at he
      obtain ⟨rfl, rfl⟩ := he
      simpa [raw, execOp, hx, Instr.extract, hv, run_bind, Sem.run, pure, upon] using h
    · simp at hs
  · exact h.elim
end Go.W
