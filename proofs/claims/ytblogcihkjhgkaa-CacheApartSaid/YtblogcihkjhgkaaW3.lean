/-
  The operations on memory: what each comes to, and that the model's own run comes to the same.
-/
import Derived.Test.YtblogcihkjhgkaaW2
set_option linter.unusedSimpArgs false
set_option linter.unusedVariables false
namespace Go.W
/-- the block b replaced -/
def _root_.Go.World.putb (w : World) (b : Nat) (o : Obj) : World := { w with heap := w.heap.setIfInBounds b o }
/-- n cells from an address on -/
def rd (w : World) (a : Addr) (n : Nat) : Option (Array Value) :=
  match w.heap[a.block]? with
  | some (.cells cs _ _) => if a.spot = none ∧ a.off + n ≤ cs.size then some (cs.extract a.off (a.off + n)) else none
  | _ => none
def one : Value → Bool
  | .agg _ | .tuple _ => false
  | _ => true
def spl (cs : Array Value) (off : Nat) : List Value → Array Value
  | [] => cs
  | v :: vs => spl (cs.setIfInBounds off v) (off + 1) vs
theorem spl_nil (cs : Array Value) (off : Nat) : spl cs off [] = cs := rfl
theorem spl_cons (cs : Array Value) (off : Nat) (v : Value) (vs : List Value) : spl cs off (v :: vs) = spl (cs.setIfInBounds off v) (off + 1) vs := rfl
theorem spl_size (vs : List Value) : ∀ (cs : Array Value) (off : Nat), (spl cs off vs).size = cs.size := by
  induction vs with
  | nil => intros; rfl
  | cons v vs ih => intro cs off; simp [spl, ih]

theorem add_mk (b off n : Nat) : (⟨b, off, none⟩ : Addr).add n = ⟨b, off + n, none⟩ := by
  unfold Addr.add
  by_cases h : n = 0 <;> simp [h]

theorem cell_mk (w : World) (b off : Nat) : w.cell? ⟨b, off, none⟩ = match w.heap[b]? with | some (.cells c _ _) => c[off]? | _ => none := by
  unfold World.cell?; cases w.heap[b]? with
  | none => rfl
  | some o => cases o <;> rfl

theorem run_load {P : Program} {w : World} {a : Addr} {v : Value} (h : w.cell? a = some v) (m : Mode) : (Go.load a m).run P w = .ok v w := by
  simp [Go.load, Sem.run, h]

theorem run_loadCellsFrom {P : Program} {w : World} {a : Addr} {cs : Array Value} {e : TypeId} {fz : Nat × Nat} (hb : w.heap[a.block]? = some (.cells cs e fz)) (hs : a.spot = none) :
    ∀ (n i : Nat) (acc : Array Value), a.off + i + n ≤ cs.size → (loadCellsFrom a i n acc).run P w = .ok (acc ++ cs.extract (a.off + i) (a.off + i + n)) w := by
  obtain ⟨b, off, sp⟩ := a
  simp only at hb hs
  subst hs
  intro n
  induction n with
  | zero => intro i acc _; simp only [loadCellsFrom, Sem.run, pure, Nat.add_zero]; simp; omega
  | succ n ih =>
    intro i acc hn
    simp only at hn ih ⊢
    have hc : w.cell? ((⟨b, off, none⟩ : Addr).add i) = some cs[off + i] := by
      rw [add_mk, cell_mk, hb]; simp
    simp only [loadCellsFrom, run_bind, run_load hc]
    rw [ih (i + 1) _ (by omega)]
    congr 1
    apply Array.ext'
    simp only [Array.toList_append, Array.toList_push, Array.toList_extract, List.append_assoc, List.singleton_append, List.append_cancel_left_eq]
    rw [List.extract_eq_take_drop, List.extract_eq_take_drop]
    have hlt : off + i < cs.toList.length := by simp; omega
    rw [List.drop_eq_getElem_cons hlt, show off + i + (n + 1) - (off + i) = n + 1 by omega, List.take_succ_cons, show off + (i + 1) + n - (off + (i + 1)) = n by omega]
    simp [Nat.add_assoc]

theorem run_loadCells {P : Program} {w : World} {a : Addr} {n : Nat} {vs : Array Value} (h : rd w a n = some vs) : (loadCells a n).run P w = .ok vs w := by
  unfold rd at h
  split at h
  · rename_i cs e fz hb
    split at h
    · rename_i hc
      simp only [Option.some.injEq] at h
      subst h
      have := run_loadCellsFrom (P := P) hb hc.1 n 0 #[] (by omega)
      simpa [loadCells] using this
    · simp at h
  · simp at h

theorem setCell_putb {w : World} {b off : Nat} {cs : Array Value} {e : TypeId} {fz : Nat × Nat} (hb : w.heap[b]? = some (.cells cs e fz)) (v : Value) :
    w.setCell ⟨b, off, none⟩ v = w.putb b (.cells (cs.setIfInBounds off v) e fz) := by
  unfold World.setCell World.putb
  congr 1
  have hlt := (Array.getElem?_eq_some_iff.1 hb).1
  apply Array.ext
  · simp
  · intro i h1 h2
    rw [Array.getElem_modify]
    by_cases h : b = i
    · subst h
      have hx : w.heap[b] = .cells cs e fz := (Array.getElem?_eq_some_iff.1 hb).2
      simp [hx]
    · rw [if_neg h, Array.getElem_setIfInBounds_ne _ h]

theorem putb_get_same {w : World} {b : Nat} (h : b < w.heap.size) (o : Obj) : (w.putb b o).heap[b]? = some o := by simp [World.putb, h]
theorem putb_get_ne {w : World} {b c : Nat} (h : c ≠ b) (o : Obj) : (w.putb b o).heap[c]? = w.heap[c]? := by
  simp only [World.putb]; rw [Array.getElem?_setIfInBounds_ne (Ne.symm h)]
theorem putb_size (w : World) (b : Nat) (o : Obj) : (w.putb b o).heap.size = w.heap.size := by simp [World.putb]
theorem putb_putb (w : World) (b : Nat) (o o' : Obj) : (w.putb b o).putb b o' = w.putb b o' := by simp [World.putb]
theorem alloc_size (w : World) (o : Obj) : (w.alloc o).heap.size = w.heap.size + 1 := by simp
theorem alloc_get_new (w : World) (o : Obj) : (w.alloc o).heap[w.heap.size]? = some o := by
  show (w.heap.push o)[w.heap.size]? = _
  simp
theorem alloc_get_lt {w : World} {b : Nat} (h : b < w.heap.size) (o : Obj) : (w.alloc o).heap[b]? = w.heap[b]? := by
  show (w.heap.push o)[b]? = _
  rw [Array.getElem?_push, if_neg (by omega)]
theorem get_lt {w : World} {b : Nat} {o : Obj} (h : w.heap[b]? = some o) : b < w.heap.size := (Array.getElem?_eq_some_iff.1 h).1

theorem run_storeCells {P : Program} {b off : Nat} {e : TypeId} : ∀ (vs : List Value) (i : Nat) (w : World) (cs : Array Value), w.heap[b]? = some (.cells cs e (0, 0)) → off + i + vs.length ≤ cs.size →
    (∀ v ∈ vs, one v = true) → (storeCells ⟨b, off, none⟩ vs i).run P w = .ok () (if vs = [] then w else w.putb b (.cells (spl cs (off + i) vs) e (0, 0))) := by
  intro vs
  induction vs with
  | nil => intro i w cs _ _ _; simp [storeCells, Sem.run, pure]
  | cons v vs ih =>
    intro i w cs hb hn h1
    simp only [List.length_cons] at hn
    have hlt : off + i < cs.size := by omega
    have hc : w.cell? ⟨b, off + i, none⟩ = some cs[off + i] := by
      rw [cell_mk, hb]; simp
    have hfz : w.frozen? ⟨b, off + i, none⟩ = false := by simp [World.frozen?, hb]
    have hone := h1 v (by simp)
    have hst : (Go.store ((⟨b, off, none⟩ : Addr).add i) v).run P w = .ok () (w.putb b (.cells (cs.setIfInBounds (off + i) v) e (0, 0))) := by
      rw [add_mk, ← setCell_putb hb v]
      unfold Go.store
      cases v <;> simp [Sem.run, hc, hfz, one] at hone ⊢
    simp only [storeCells, run_bind, hst]
    rw [ih (i + 1) (w.putb b (.cells (cs.setIfInBounds (off + i) v) e (0, 0))) (cs.setIfInBounds (off + i) v) (putb_get_same (get_lt hb) _) (by simp; omega) (fun u hu => h1 u (by simp [hu]))]
    by_cases hvs : vs = []
    · subst hvs; simp [spl]
    · simp [hvs, putb_putb, spl, Nat.add_assoc]

/-! ### loads, stores, new blocks -/
def sLoad (P : Program) (t : TypeId) (x : Value) (w : World) : Option (Value × World) :=
  match x with
  | .pointer (some a) => match agb P t with
    | some true => match szv P t with
      | some n => (rd w a n).map fun cs => (.agg cs, w)
      | none => none
    | some false => (w.cell? a).map (·, w)
    | none => none
  | _ => none
theorem sLoad_run {P : Program} {t : TypeId} {x v : Value} {w w' : World} (h : sLoad P t x w = some (v, w')) : (Instr.loadAt t x).run P w = .ok v w ∧ w' = w := by
  unfold sLoad at h
  split at h
  · rename_i a
    split at h
    · rename_i hb
      split at h
      · rename_i n hn
        obtain ⟨cs, hcs, he⟩ := Option.map_eq_some_iff.1 h
        simp only [Prod.mk.injEq] at he
        obtain ⟨rfl, rfl⟩ := he
        refine ⟨?_, rfl⟩
        simp [Instr.loadAt, Instr.sureAddr, loadVar, run_bind, run_isAgg hb, run_sizeOf hn, run_loadCells hcs, Sem.run, pure]
      · simp at h
    · rename_i hb
      obtain ⟨u, hu, he⟩ := Option.map_eq_some_iff.1 h
      simp only [Prod.mk.injEq] at he
      obtain ⟨rfl, rfl⟩ := he
      refine ⟨?_, rfl⟩
      simp only [Instr.loadAt, Instr.sureAddr, loadVar, run_bind, run_isAgg hb, run_load hu, Sem.run, pure, Bool.false_eq_true, if_false]
    · simp at h
  · simp at h
theorem sLoad_sound {P : Program} {t : TypeId} {x : Operand} {ty : TypeId} {f : Fr} {w : World} {K : Value → World → Prop}
    (h : B (sLoad P t (ev f x) w) K) : raw P (.load t x) ty f w K := by
  unfold B at h
  split at h
  · rename_i v w' hs
    obtain ⟨hr, rfl⟩ := sLoad_run hs
    simpa [raw, execOp, run_bind, hr, Sem.run, pure, upon] using h
  · exact h.elim

def sStore (P : Program) (t : TypeId) (x v : Value) (w : World) : Option (Value × World) :=
  match x with
  | .pointer (some ⟨b, off, none⟩) =>
    match w.heap[b]? with
    | some (.cells cs e fz) => if szv P t = some v.cells.size ∧ fz = (0, 0) ∧ off + v.cells.size ≤ cs.size ∧ v.cells.toList.all one = true ∧ 0 < v.cells.size then
        some (undef, w.putb b (.cells (spl cs off v.cells.toList) e (0, 0))) else none
    | _ => none
  | _ => none
theorem sStore_sound {P : Program} {t : TypeId} {x v : Operand} {ty : TypeId} {f : Fr} {w : World} {K : Value → World → Prop}
    (h : B (sStore P t (ev f x) (ev f v) w) K) : raw P (.store t x v) ty f w K := by
  unfold B at h
  split at h
  · rename_i u w' hs
    unfold sStore at hs
    split at hs
    · rename_i b off hx
      split at hs
      · rename_i cs e fz hb
        split at hs
        · rename_i hc
          obtain ⟨h1, rfl, h3, h4, h5⟩ := hc
          simp only [Option.some.injEq, Prod.mk.injEq] at hs
          obtain ⟨rfl, rfl⟩ := hs
          have hr := run_storeCells (P := P) (off := off) (ev f v).cells.toList 0 w cs hb (by simpa using h3) (fun u hu => by simpa using (List.all_eq_true.1 h4) u hu)
          have hne : (ev f v).cells.toList ≠ [] := by
            intro e
            have : (ev f v).cells.size = 0 := by rw [← Array.length_toList, e]; rfl
            omega
          simp only [hne, if_false, Nat.add_zero] at hr
          simpa [raw, execOp, Instr.storeAt, Instr.sureAddr, storeVar, hx, run_bind, run_sizeOf h1, hr, Sem.run, pure, upon] using h
        · simp at hs
      · simp at hs
    · simp at hs
  · exact h.elim

def sAlloc (P : Program) (t : TypeId) (w : World) : Option (Value × World) :=
  match zrv P t with
  | some z => some (.pointer (some ⟨w.heap.size, 0, none⟩), w.alloc (.cells z.cells t))
  | none => none
theorem sAlloc_sound {P : Program} {t : TypeId} {ty : TypeId} {f : Fr} {w : World} {K : Value → World → Prop}
    (h : B (sAlloc P t w) K) : raw P (.alloc t) ty f w K := by
  unfold B sAlloc at h
  split at h
  · rename_i u w' hs
    split at hs
    · rename_i z hz
      simp only [Option.some.injEq, Prod.mk.injEq] at hs
      obtain ⟨rfl, rfl⟩ := hs
      simpa [raw, execOp, Instr.alloc, run_bind, run_zeroValue hz, newVar, newRow, newObj, Sem.run, pure, upon] using h
    · simp at hs
  · exact h.elim
def sBox (t : TypeId) (x : Value) (w : World) : Option (Value × World) := some (.pointer (some ⟨w.heap.size, 0, none⟩), w.alloc (.cells x.cells t))
theorem sBox_sound {P : Program} {t : TypeId} {x : Operand} {ty : TypeId} {f : Fr} {w : World} {K : Value → World → Prop}
    (h : B (sBox t (ev f x) w) K) : raw P (.box t x) ty f w K := by
  simpa [raw, execOp, Instr.box, run_bind, newVar, newRow, newObj, Sem.run, pure, upon, sBox, B] using h

/-! ### addresses -/
def sFieldAddr (P : Program) (s : TypeId) (x : Value) (k : Nat) (w : World) : Option (Value × World) :=
  match x with
  | .pointer (some a) => (fld P s k).map fun o => (.pointer (some (a.add o.1)), w)
  | _ => none
theorem fld_spec {P : Program} {s : TypeId} {k : Nat} {o n : Nat} {b : Bool} (h : fld P s k = some (o, n, b)) :
    ∃ fs fl, P.underlying s = some (.struct fs) ∧ fs[k]? = some fl ∧ szv P fl.type = some n ∧ agb P fl.type = some b ∧ fl.offset = o ∧ n ≠ 0 := by
  unfold fld at h
  split at h
  · rename_i fs hu
    split at h
    · rename_i fl hf
      split at h
      · rename_i n' b' h1 h2
        split at h
        · simp at h
        · rename_i hne
          simp only [Option.some.injEq, Prod.mk.injEq] at h
          obtain ⟨rfl, rfl, rfl⟩ := h
          exact ⟨fs, fl, hu, hf, h1, h2, rfl, hne⟩
      · simp at h
    · simp at h
  · simp at h
theorem sFieldAddr_sound {P : Program} {s : TypeId} {x : Operand} {k : Nat} {ty : TypeId} {f : Fr} {w : World} {K : Value → World → Prop}
    (h : B (sFieldAddr P s (ev f x) k w) K) : raw P (.fieldAddr s x k) ty f w K := by
  unfold B at h
  split at h
  · rename_i u w' hs
    unfold sFieldAddr at hs
    split at hs
    · rename_i a hx
      obtain ⟨⟨o, n, b⟩, ho, he⟩ := Option.map_eq_some_iff.1 hs
      simp only [Prod.mk.injEq] at he
      obtain ⟨rfl, rfl⟩ := he
      obtain ⟨fs, fl, h1, h2, h3, h4, rfl, h6⟩ := fld_spec ho
      simpa [raw, execOp, Instr.fieldAt, hx, run_bind, run_underlying h1, h2, Instr.sureAddr, fieldPlace, run_sizeOf h3, h6, Sem.run, pure, upon] using h
    · simp at hs
  · exact h.elim

def sField (P : Program) (s : TypeId) (x : Value) (k : Nat) (w : World) : Option (Value × World) :=
  match x with
  | .agg cs => match fld P s k with
    | some (o, n, true) => some (.agg (cs.extract o (o + n)), w)
    | some (o, _, false) => (cs[o]?).map (·, w)
    | none => none
  | _ => none
theorem sField_sound {P : Program} {s : TypeId} {x : Operand} {k : Nat} {ty : TypeId} {f : Fr} {w : World} {K : Value → World → Prop}
    (h : B (sField P s (ev f x) k w) K) : raw P (.field s x k) ty f w K := by
  unfold B at h
  split at h
  · rename_i u w' hs
    unfold sField at hs
    split at hs
    · rename_i cs hx
      split at hs
      · rename_i o n ho
        obtain ⟨fs, fl, h1, h2, h3, h4, rfl, h6⟩ := fld_spec ho
        simp only [Option.some.injEq, Prod.mk.injEq] at hs
        obtain ⟨rfl, rfl⟩ := hs
        simpa [raw, execOp, Instr.field, hx, run_bind, run_underlying h1, h2, asAgg, part, run_isAgg h4, run_sizeOf h3, Sem.run, pure, upon] using h
      · rename_i o n ho
        obtain ⟨fs, fl, h1, h2, h3, h4, rfl, h6⟩ := fld_spec ho
        obtain ⟨v, hv, he⟩ := Option.map_eq_some_iff.1 hs
        simp only [Prod.mk.injEq] at he
        obtain ⟨rfl, rfl⟩ := he
        simpa [raw, execOp, Instr.field, hx, run_bind, run_underlying h1, h2, asAgg, part, run_isAgg h4, hv, Sem.run, pure, upon] using h
      · simp at hs
    · simp at hs
  · exact h.elim

theorem elt_spec {P : Program} {t e : TypeId} (h : elt P t = some e) : P.underlying t = some (.slice e) := by
  unfold elt at h
  split at h
  · rename_i e' hu; simp only [Option.some.injEq] at h; subst h; exact hu
  · simp at h
def esz (P : Program) (t : TypeId) : Option Nat := (elt P t).bind (szv P)
theorem esz_spec {P : Program} {t : TypeId} {n : Nat} (h : esz P t = some n) : ∃ e, P.underlying t = some (.slice e) ∧ szv P e = some n := by
  obtain ⟨e, he, hn⟩ := Option.bind_eq_some_iff.1 h
  exact ⟨e, elt_spec he, hn⟩
def sIndexAddr (P : Program) (t : TypeId) (x i : Value) (w : World) : Option (Value × World) :=
  match x, i with
  | .slice (some a) len _, .int _ j => match esz P t with
    | some n => if 0 ≤ j ∧ j < len then some (.pointer (some (a.add (j.toNat * n))), w) else none
    | none => none
  | _, _ => none
theorem sIndexAddr_sound {P : Program} {t : TypeId} {x i : Operand} {ty : TypeId} {f : Fr} {w : World} {K : Value → World → Prop}
    (h : B (sIndexAddr P t (ev f x) (ev f i) w) K) : raw P (.indexAddr t x i) ty f w K := by
  unfold B at h
  split at h
  · rename_i u w' hs
    unfold sIndexAddr at hs
    split at hs
    · rename_i a len cap k j hx hi
      split at hs
      · rename_i n hn
        obtain ⟨e, he, hse⟩ := esz_spec hn
        split at hs
        · rename_i hc
          simp only [Option.some.injEq, Prod.mk.injEq] at hs
          obtain ⟨rfl, rfl⟩ := hs
          simpa [raw, execOp, Instr.indexAt, hx, hi, asIntOf, run_bind, run_underlying he, run_sizeOf hse, hc, Sem.run, pure, upon] using h
        · simp at hs
      · simp at hs
    · simp at hs
  · exact h.elim
end Go.W
