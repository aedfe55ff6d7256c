/-
  More operations: slices of slices, lengths, new slices and maps, literals, conversions, tests on values that are no integers.
-/
import Derived.Test.YtblogcihkjhgkaaW3
set_option linter.unusedSimpArgs false
set_option linter.unusedVariables false
namespace Go.W
/-- x[lo:hi], on slices -/
def bnd (x : Option Value) (d : Nat) (m : Nat) : Option Nat :=
  match x with
  | none => some d
  | some (.int _ i) => if 0 ≤ i ∧ i ≤ m then some i.toNat else none
  | _ => none
def sSlice (P : Program) (t : TypeId) (x : Value) (lo hi : Option Value) (w : World) : Option (Value × World) :=
  match x with
  | .slice a len cap =>
    match esz P t with
    | some n => match bnd hi len cap with
      | some h => match bnd lo 0 h with
        | some l => some (.slice (if cap = l then a else a.map (·.add (l * n))) (h - l) (cap - l), w)
        | none => none
      | none => none
    | none => none
  | _ => none
theorem run_sliceBound {P : Program} {k : IntKind} {i : Int} {y : Nat} {code : BoundsCode} {w : World} (h : 0 ≤ i ∧ i ≤ y) :
    (Instr.sliceBound (.int k i) y code).run P w = .ok i.toNat w := by
  simp [Instr.sliceBound, asIntOf, run_bind, Sem.run, pure, h]
theorem sSlice_sound {P : Program} {t : TypeId} {x : Operand} {lo hi : Option Operand} {ty : TypeId} {f : Fr} {w : World} {K : Value → World → Prop}
    (h : B (sSlice P t (ev f x) (lo.map (ev f)) (hi.map (ev f)) w) K) : raw P (.slice t x lo hi none) ty f w K := by
  unfold B at h
  split at h
  · rename_i u w' hs
    unfold sSlice at hs
    split at hs
    · rename_i a len cap hx
      split at hs
      · rename_i n hn
        obtain ⟨e, he, hse⟩ := esz_spec hn
        split at hs
        · rename_i hh hbh
          split at hs
          · rename_i ll hbl
            simp only [Option.some.injEq, Prod.mk.injEq] at hs
            obtain ⟨rfl, rfl⟩ := hs
            have e1 : (Instr.sliceBounds true len cap (lo.map (ev f)) (hi.map (ev f)) none).run P w = .ok (ll, hh, cap) w := by
              unfold Instr.sliceBounds
              simp only [run_bind]
              cases hi with
              | none =>
                simp only [Option.map_none, bnd, Option.some.injEq] at hbh
                subst hbh
                cases lo with
                | none => simp only [Option.map_none, bnd, Option.some.injEq] at hbl; subst hbl; simp [Sem.run, pure]
                | some l =>
                  simp only [Option.map_some] at hbl ⊢
                  generalize ev f l = vl at *
                  cases vl <;> simp only [bnd] at hbl <;> try (simp at hbl; done)
                  split at hbl
                  · rename_i hc
                    simp only [Option.some.injEq] at hbl
                    subst hbl
                    simp [Sem.run, pure, run_sliceBound hc]
                  · simp at hbl
              | some hv =>
                simp only [Option.map_some] at hbh ⊢
                generalize ev f hv = vh at *
                cases vh <;> simp only [bnd] at hbh <;> try (simp at hbh; done)
                split at hbh
                · rename_i hc
                  simp only [Option.some.injEq] at hbh
                  subst hbh
                  cases lo with
                  | none => simp only [Option.map_none, bnd, Option.some.injEq] at hbl; subst hbl; simp [Sem.run, pure, run_sliceBound hc]
                  | some l =>
                    simp only [Option.map_some] at hbl ⊢
                    generalize ev f l = vl at *
                    cases vl <;> simp only [bnd] at hbl <;> try (simp at hbl; done)
                    split at hbl
                    · rename_i hc'
                      simp only [Option.some.injEq] at hbl
                      subst hbl
                      simp [Sem.run, pure, run_sliceBound hc, run_sliceBound hc']
                    · simp at hbl
                · simp at hbh
            simpa [raw, execOp, Instr.sliceAt, Instr.slice, hx, run_bind, run_underlying he, run_sizeOf hse, e1, Sem.run, pure, upon] using h
          · simp at hs
        · simp at hs
      · simp at hs
    · simp at hs
  · exact h.elim

def isMapT (P : Program) (t : TypeId) : Bool := match P.underlying t with | some (.map _ _) => true | _ => false
theorem isMapT_spec {P : Program} {t : TypeId} (h : isMapT P t = true) : ∃ k e, P.underlying t = some (.map k e) := by
  unfold isMapT at h
  split at h
  · rename_i k e hu; exact ⟨k, e, hu⟩
  · simp at h
def sLen (P : Program) (t : TypeId) (x : Value) (w : World) : Option (Value × World) :=
  match x with
  | .slice _ n _ => if (elt P t).isSome then some (.int .i64 n, w) else none
  | .map none => if isMapT P t = true then some (.int .i64 0, w) else none
  | .map (some r) => match w.heap[r]? with
    | some (.map es _) => if isMapT P t = true then some (.int .i64 es.size, w) else none
    | _ => none
  | _ => none
theorem run_getObj {P : Program} {r : Nat} {w : World} {es : Array MapEntry} {c : Nat} (h : w.heap[r]? = some (.map es c)) : (Go.getObj r).run P w = .ok (.map es c) w := by
  simp [Go.getObj, Sem.run, h]
theorem sLen_sound {P : Program} {t : TypeId} {x : Operand} {ty : TypeId} {f : Fr} {w : World} {K : Value → World → Prop}
    (h : B (sLen P t (ev f x) w) K) : raw P (.call ⟨.builtin .len, #[x], #[t]⟩) ty f w K := by
  unfold B at h
  split at h
  · rename_i u w' hs
    unfold sLen at hs
    split at hs
    · rename_i a n c hx
      split at hs
      · rename_i he
        obtain ⟨e, he⟩ := Option.isSome_iff_exists.1 he
        simp only [Option.some.injEq, Prod.mk.injEq] at hs
        obtain ⟨rfl, rfl⟩ := hs
        simpa [raw, execOp, resolve, invoke, builtin, Builtin.len_, hx, run_bind, run_underlying (elt_spec he), goInt, Sem.run, pure, upon] using h
      · simp at hs
    · rename_i hx
      split at hs
      · rename_i he
        obtain ⟨k, e, he⟩ := isMapT_spec he
        simp only [Option.some.injEq, Prod.mk.injEq] at hs
        obtain ⟨rfl, rfl⟩ := hs
        simpa [raw, execOp, resolve, invoke, builtin, Builtin.len_, hx, run_bind, run_underlying he, goInt, Sem.run, pure, upon] using h
      · simp at hs
    · rename_i r hx
      split at hs
      · rename_i es c hr
        split at hs
        · rename_i he
          obtain ⟨k, e, he⟩ := isMapT_spec he
          simp only [Option.some.injEq, Prod.mk.injEq] at hs
          obtain ⟨rfl, rfl⟩ := hs
          simpa [raw, execOp, resolve, invoke, builtin, Builtin.len_, hx, run_bind, run_underlying he, run_getObj hr, goInt, Sem.run, pure, upon] using h
        · simp at hs
      · simp at hs
    · simp at hs
  · exact h.elim

def sMakeMap (w : World) : Option (Value × World) := some (.map (some w.heap.size), w.alloc (.map #[] 0))
theorem sMakeMap_sound {P : Program} {t : TypeId} {ty : TypeId} {f : Fr} {w : World} {K : Value → World → Prop}
    (h : B (sMakeMap w) K) : raw P (.makeMap t none) ty f w K := by
  simpa [raw, execOp, Instr.makeMap, run_bind, newObj, Sem.run, pure, upon, sMakeMap, B] using h

/-- make([]T, n) where T takes one cell -/
def sMakeSlice (P : Program) (t : TypeId) (l c : Value) (w : World) : Option (Value × World) :=
  match l, c with
  | .int _ n, .int _ m =>
    match elt P t with
    | some e => match zrv P e, szv P e, byv P e with
      | some z, some sz, some by_ => if n = m ∧ 0 ≤ n ∧ n ≤ 9223372036854775807 ∧ by_ * n ≤ 281474976710656 ∧ sz = 1 ∧ z.cells.size = 1 then
          some (.slice (some ⟨w.heap.size, 0, none⟩) n.toNat n.toNat, w.alloc (.cells (Array.replicate n.toNat z.cells[0]!) e)) else none
      | _, _, _ => none
    | none => none
  | _, _ => none
theorem run_askRoom (P : Program) (n : Nat) (w : World) : (askRoom n).run P w = .ok () w := by
  unfold askRoom
  split <;> simp [mark, Sem.run, pure]
theorem range_map_one (n : Nat) (z : Array Value) (hz : z.size = 1) : (Array.range n).map (fun i => z[i % z.size]!) = Array.replicate n z[0]! := by
  apply Array.ext
  · simp
  · intro i h1 h2
    simp [hz, Nat.mod_one]
theorem sMakeSlice_sound {P : Program} {t : TypeId} {l c : Operand} {ty : TypeId} {f : Fr} {w : World} {K : Value → World → Prop}
    (h : B (sMakeSlice P t (ev f l) (ev f c) w) K) : raw P (.makeSlice t l c) ty f w K := by
  unfold B at h
  split at h
  · rename_i u w' hs
    unfold sMakeSlice at hs
    split at hs
    · rename_i k n k' m hl hc
      split at hs
      · rename_i e he
        split at hs
        · rename_i z sz by_ hz hsz hby
          split at hs
          · rename_i hcond
            obtain ⟨rfl, h0, h63, hbig, rfl, hz1⟩ := hcond
            simp only [Option.some.injEq, Prod.mk.injEq] at hs
            obtain ⟨rfl, rfl⟩ := hs
            have hw : IntKind.i64.wrap n = n := wrap_inr (by rw [inr_i64]; omega)
            obtain ⟨i, hi, rfl⟩ := Option.map_eq_some_iff.1 hby
            have hneg : ¬ n < 0 := by omega
            have hbig' : ¬ (281474976710656 < (i.bytes : Int) * n) := by omega
            have hcells : (Array.range (n.toNat * 1)).map (fun i => (if n.toNat * 1 = 0 then #[] else z.cells)[i % (if n.toNat * 1 = 0 then #[] else z.cells).size]!) = Array.replicate n.toNat z.cells[0]! := by
              by_cases hn : n.toNat * 1 = 0
              · have : n.toNat = 0 := by omega
                simp [this]
              · simp only [hn, if_false]
                rw [range_map_one _ _ hz1]
                simp
            simp only [raw, execOp, Instr.makeSlice, hl, hc, run_bind, run_underlying (elt_spec he), run_typeInfo hi, asInt, asIntOf, hw, run_askRoom, run_sizeOf hsz, Sem.run, pure]
            simp only [hneg, decide_false, Bool.false_or, hbig', gt_iff_lt, Int.lt_irrefl, Bool.or_false, if_false, Bool.false_eq_true, Nat.reducePow, Int.reducePow, run_bind, run_askRoom, run_sizeOf hsz, newRow, newObj, Sem.run, pure]
            by_cases hn : n.toNat * 1 = 0
            · simp only [hn, if_true] at hcells ⊢
              simp only [run_bind, Sem.run, upon, hcells]
              exact h
            · simp only [hn, if_false] at hcells ⊢
              simp only [run_bind, run_zeroValue hz, Sem.run, upon, hcells]
              exact h
          · simp at hs
        · simp at hs
      · simp at hs
    · simp at hs
  · exact h.elim
end Go.W
