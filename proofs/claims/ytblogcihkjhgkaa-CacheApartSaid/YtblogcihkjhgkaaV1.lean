/-
  Tombs: worlds in which the cells of a call's own variables are out of sight. A world and its veiled image: what each operation does in the image, it does in the world.
-/
import Derived.Test.YtblogcihkjhgkaaW14
set_option linter.unusedSimpArgs false
set_option linter.unusedVariables false
namespace Go.W
/-- what stands in the place of a hidden block -/
def tomb : Obj := .coro none
def tombW (T : Nat → Bool) (w : World) : World := { w with heap := w.heap.mapIdx fun i o => if T i then tomb else o }
/-- nothing is hidden beyond the heap -/
def TB (T : Nat → Bool) (w : World) : Prop := ∀ b, w.heap.size ≤ b → T b = false
/-- hidden blocks stay as they are; no old block becomes hidden -/
structure Kp (T : Nat → Bool) (w : World) (T' : Nat → Bool) (w' : World) : Prop where
  tb0 : TB T w
  tb : TB T' w'
  size : w.heap.size ≤ w'.heap.size
  old : ∀ b, b < w.heap.size → T' b = T b
  get : ∀ b, T b = true → w'.heap[b]? = w.heap[b]?
theorem Kp.refl {T : Nat → Bool} {w : World} (h : TB T w) : Kp T w T w := ⟨h, h, Nat.le_refl _, fun _ _ => rfl, fun _ _ => rfl⟩
theorem TB.lt {T : Nat → Bool} {w : World} (h : TB T w) {b : Nat} (hb : T b = true) : b < w.heap.size := by
  apply Nat.lt_of_not_le; intro hle; rw [h b hle] at hb; cases hb
theorem Kp.hid {T T' : Nat → Bool} {w w' : World} (h : Kp T w T' w') {b : Nat} (hb : T b = true) : T' b = true := by rw [h.old b (h.tb0.lt hb)]; exact hb
theorem Kp.trans {T T' T'' : Nat → Bool} {w w' w'' : World} (h : Kp T w T' w') (k : Kp T' w' T'' w'') : Kp T w T'' w'' :=
  ⟨h.tb0, k.tb, Nat.le_trans h.size k.size, fun b hb => (k.old b (Nat.lt_of_lt_of_le hb h.size)).trans (h.old b hb), fun b hb => (k.get b (h.hid hb)).trans (h.get b hb)⟩
theorem tombW_size (T : Nat → Bool) (w : World) : (tombW T w).heap.size = w.heap.size := by simp [tombW]
theorem tombW_get (T : Nat → Bool) (w : World) (b : Nat) : (tombW T w).heap[b]? = (w.heap[b]?).map fun o => if T b then tomb else o := by
  simp [tombW]
theorem tombW_see {T : Nat → Bool} {w : World} {b : Nat} (h : T b = false) : (tombW T w).heap[b]? = w.heap[b]? := by
  rw [tombW_get]; simp [h]
theorem tombW_real {T : Nat → Bool} {w : World} {b : Nat} {o : Obj} (h : (tombW T w).heap[b]? = some o) (ho : o ≠ tomb) : T b = false ∧ w.heap[b]? = some o := by
  rw [tombW_get] at h
  obtain ⟨o', h1, h2⟩ := Option.map_eq_some_iff.1 h
  cases hb : T b with
  | true => rw [hb] at h2; exact (ho h2.symm).elim
  | false => rw [hb] at h2; simp only [Bool.false_eq_true, if_false] at h2; exact ⟨rfl, h2 ▸ h1⟩
theorem tombW_cells {T : Nat → Bool} {w : World} {b : Nat} {cs : Array Value} {e : TypeId} {fz : Nat × Nat} (h : (tombW T w).heap[b]? = some (.cells cs e fz)) : T b = false ∧ w.heap[b]? = some (.cells cs e fz) := tombW_real h (by simp [tomb])
theorem tombW_map {T : Nat → Bool} {w : World} {b : Nat} {es : Array MapEntry} {c : Nat} (h : (tombW T w).heap[b]? = some (.map es c)) : T b = false ∧ w.heap[b]? = some (.map es c) := tombW_real h (by simp [tomb])
theorem tombW_iter {T : Nat → Bool} {w : World} {b : Nat} {m : Option Nat} {s : Nat} {seen : Array Nat} {st : Nat} (h : (tombW T w).heap[b]? = some (.mapIter m s seen st)) : T b = false ∧ w.heap[b]? = some (.mapIter m s seen st) := tombW_real h (by simp [tomb])
theorem world_ext {w w' : World} (h1 : w.heap = w'.heap) (h2 : w.tape = w'.tape) (h3 : w.drawn = w'.drawn) (h4 : w.os = w'.os) (h5 : w.output = w'.output) : w = w' := by
  cases w; cases w'; simp_all
theorem heap_ext {a b : Array Obj} (h : ∀ i : Nat, a[i]? = b[i]?) : a = b := by
  apply Array.ext'
  apply List.ext_getElem?
  intro i
  simpa using h i
theorem tombW_putb {T : Nat → Bool} {w : World} {b : Nat} (h : T b = false) (o : Obj) : tombW T (w.putb b o) = (tombW T w).putb b o := by
  refine world_ext (heap_ext fun i => ?_) rfl rfl rfl rfl
  rw [tombW_get]
  simp only [World.putb, Array.getElem?_setIfInBounds]
  by_cases e : b = i
  · subst e; simp [h, tombW_size]
  · simp only [e, if_false]; rw [tombW_get]
theorem tombW_hide {T : Nat → Bool} {w : World} {b : Nat} (h : T b = true) (o : Obj) : tombW T (w.putb b o) = tombW T w := by
  refine world_ext (heap_ext fun i => ?_) rfl rfl rfl rfl
  rw [tombW_get, tombW_get]
  simp only [World.putb, Array.getElem?_setIfInBounds]
  by_cases e : b = i
  · subst e
    by_cases hlt : b < w.heap.size
    · simp [h, hlt]
    · simp [hlt]
  · simp [e]
theorem tombW_alloc {T : Nat → Bool} {w : World} (h : TB T w) (o : Obj) : tombW T (w.alloc o) = (tombW T w).alloc o := by
  refine world_ext (heap_ext fun i => ?_) rfl rfl rfl rfl
  rw [tombW_get, alloc_get_if, alloc_get_if, tombW_size, tombW_get]
  by_cases e : i = w.heap.size
  · subst e; simp [h _ (Nat.le_refl _)]
  · simp [e]
theorem tombW_allocT {T : Nat → Bool} {w : World} (h : TB T w) (o : Obj) : tombW (setL T w.heap.size) (w.alloc o) = (tombW T w).alloc tomb := by
  refine world_ext (heap_ext fun i => ?_) rfl rfl rfl rfl
  rw [tombW_get, alloc_get_if, alloc_get_if, tombW_size, tombW_get]
  by_cases e : i = w.heap.size
  · subst e; simp [setL]
  · simp [e, setL]
theorem tombW_drew (T : Nat → Bool) (w : World) : tombW T w.drew = (tombW T w).drew := rfl
theorem tombW_none (w : World) : tombW (fun _ => false) w = w := by
  refine world_ext (heap_ext fun i => ?_) rfl rfl rfl rfl
  rw [tombW_get]; simp
theorem tombW_cell {T : Nat → Bool} {w : World} {a : Addr} {v : Value} (h : (tombW T w).cell? a = some v) : w.cell? a = some v := by
  unfold World.cell? at h ⊢
  split at h
  · rename_i c e fz hb
    rw [(tombW_cells hb).2]; exact h
  · simp at h
theorem tombW_rd {T : Nat → Bool} {w : World} {a : Addr} {n : Nat} {cs : Array Value} (h : rd (tombW T w) a n = some cs) : rd w a n = some cs := by
  unfold rd at h ⊢
  split at h
  · rename_i c e fz hb
    rw [(tombW_cells hb).2]; exact h
  · simp at h
theorem TB.alloc {T : Nat → Bool} {w : World} (h : TB T w) (o : Obj) : TB T (w.alloc o) := fun b hb => h b (by rw [alloc_size] at hb; omega)
theorem Kp.alloc {T : Nat → Bool} {w : World} (h : TB T w) (o : Obj) : Kp T w T (w.alloc o) :=
  ⟨h, h.alloc o, by rw [alloc_size]; omega, fun _ _ => rfl, fun b hb => alloc_get_lt (h.lt hb) o⟩
theorem Kp.allocT {T : Nat → Bool} {w : World} (h : TB T w) (o : Obj) : Kp T w (setL T w.heap.size) (w.alloc o) :=
  ⟨h, fun b hb => by rw [alloc_size] at hb; simp only [setL]; rw [if_neg (by omega)]; exact h b (by omega), by rw [alloc_size]; omega,
    fun b hb => by simp only [setL]; rw [if_neg (by omega)], fun b hb => alloc_get_lt (h.lt hb) o⟩
theorem Kp.putb {T : Nat → Bool} {w : World} (h : TB T w) {b : Nat} (hb : T b = false) (o : Obj) : Kp T w T (w.putb b o) :=
  ⟨h, fun c hc => h c (by rw [putb_size] at hc; exact hc), by rw [putb_size]; exact Nat.le_refl _, fun _ _ => rfl, fun c hc => putb_get_ne (by rintro rfl; rw [hb] at hc; cases hc) o⟩
theorem Kp.drew {T : Nat → Bool} {w : World} (h : TB T w) : Kp T w T w.drew := ⟨h, h, Nat.le_refl _, fun _ _ => rfl, fun _ _ => rfl⟩

/-- an operation that does in the world what it does in the image -/
def Tr (r : World → Option (Value × World)) : Prop :=
  ∀ T w v w', TB T w → r (tombW T w) = some (v, w') → ∃ w1, r w = some (v, w1) ∧ w' = tombW T w1 ∧ Kp T w T w1
theorem Tr_pure {r : World → Option (Value × World)} (g : Option Value) (h : ∀ w, r w = g.map (·, w)) : Tr r := by
  intro T w v w' hT hr
  rw [h] at hr ⊢
  obtain ⟨u, hu, he⟩ := Option.map_eq_some_iff.1 hr
  simp only [Prod.mk.injEq] at he
  obtain ⟨rfl, rfl⟩ := he
  exact ⟨w, by rw [hu]; rfl, rfl, Kp.refl hT⟩
theorem Tr_none : Tr fun _ => none := by intro T w v w' _ h; simp at h
theorem Tr_bind {α : Type} (o : Option α) {r : α → World → Option (Value × World)} (h : ∀ a, Tr (r a)) : Tr fun w => o.bind fun a => r a w := by
  cases o with
  | none => exact Tr_none
  | some a => exact h a
theorem Tr_ite (p : Prop) [Decidable p] {r : World → Option (Value × World)} (h : Tr r) : Tr fun w => if p then r w else none := by
  by_cases hp : p
  · simp only [hp, if_true]; exact h
  · simp only [hp, if_false]; exact Tr_none
theorem Tr_alloc (g : Nat → Value) (o : Obj) : Tr fun w => some (g w.heap.size, w.alloc o) := by
  intro T w v w' hT h
  simp only [Option.some.injEq, Prod.mk.injEq, tombW_size] at h
  obtain ⟨rfl, rfl⟩ := h
  exact ⟨_, rfl, (tombW_alloc hT o).symm, Kp.alloc hT o⟩
theorem Tr_sLoad (P : Program) (t : TypeId) (x : Value) : Tr (sLoad P t x) := by
  intro T w v w' hT h
  unfold sLoad at h ⊢
  split at h
  · rename_i a
    split at h
    · rename_i hb
      split at h
      · rename_i n hn
        obtain ⟨cs, hcs, he⟩ := Option.map_eq_some_iff.1 h
        simp only [Prod.mk.injEq] at he
        obtain ⟨rfl, rfl⟩ := he
        exact ⟨w, by simp only [tombW_rd hcs, Option.map_some], rfl, Kp.refl hT⟩
      · simp at h
    · rename_i hb
      obtain ⟨u, hu, he⟩ := Option.map_eq_some_iff.1 h
      simp only [Prod.mk.injEq] at he
      obtain ⟨rfl, rfl⟩ := he
      exact ⟨w, by simp only [tombW_cell hu, Option.map_some], rfl, Kp.refl hT⟩
    · simp at h
  · simp at h
theorem Tr_sStore (P : Program) (t : TypeId) (x v : Value) : Tr (sStore P t x v) := by
  intro T w u w' hT h
  unfold sStore at h ⊢
  split at h
  · rename_i b off
    split at h
    · rename_i cs e fz hb
      obtain ⟨hTb, hb'⟩ := tombW_cells hb
      simp only [hb']
      split at h
      · rename_i hc
        simp only [hc, and_self, if_true]
        simp only [Option.some.injEq, Prod.mk.injEq] at h
        obtain ⟨rfl, rfl⟩ := h
        exact ⟨_, rfl, (tombW_putb hTb _).symm, Kp.putb hT hTb _⟩
      · simp at h
    · simp at h
  · simp at h
theorem Tr_sLen (P : Program) (t : TypeId) (x : Value) : Tr (sLen P t x) := by
  intro T w u w' hT h
  unfold sLen at h ⊢
  split at h
  · split at h
    · rename_i hc; simp only [hc, if_true]; simp only [Option.some.injEq, Prod.mk.injEq] at h; obtain ⟨rfl, rfl⟩ := h; exact ⟨w, rfl, rfl, Kp.refl hT⟩
    · simp at h
  · split at h
    · rename_i hc; simp only [hc, if_true]; simp only [Option.some.injEq, Prod.mk.injEq] at h; obtain ⟨rfl, rfl⟩ := h; exact ⟨w, rfl, rfl, Kp.refl hT⟩
    · simp at h
  · split at h
    · rename_i es c hr
      simp only [(tombW_map hr).2]
      split at h
      · rename_i hc; simp only [hc, if_true]; simp only [Option.some.injEq, Prod.mk.injEq] at h; obtain ⟨rfl, rfl⟩ := h; exact ⟨w, rfl, rfl, Kp.refl hT⟩
      · simp at h
    · simp at h
  · simp at h
theorem Tr_sAlloc (P : Program) (t : TypeId) : Tr (sAlloc P t) := by
  have : sAlloc P t = fun w => (zrv P t).bind fun z => some (.pointer (some ⟨w.heap.size, 0, none⟩), w.alloc (.cells z.cells t)) := by funext w; exact sAlloc_e P w t
  rw [this]
  exact Tr_bind _ fun z => Tr_alloc (fun n => .pointer (some ⟨n, 0, none⟩)) _
theorem Tr_sBox (t : TypeId) (x : Value) : Tr (sBox t x) := Tr_alloc (fun n => .pointer (some ⟨n, 0, none⟩)) _
theorem Tr_sMakeMap : Tr sMakeMap := Tr_alloc (fun n => .map (some n)) _
theorem Tr_sBuildSlice (P : Program) (t : TypeId) (len : Nat) (ps : List (Nat × Value)) : Tr (sBuildSlice P t len ps) := by
  have : sBuildSlice P t len ps = fun w => (elt P t).bind fun e => (zrv P e).bind fun z => (szv P e).bind fun n => if len * n ≤ 16777216 then
        (fillV (fun i => some (i * n, n)) ((List.replicate len z.cells.toList).flatten.toArray) ps).bind fun cs => some (.slice (some ⟨w.heap.size, 0, none⟩) len len, w.alloc (.cells cs e))
      else none := by funext w; exact sBuildSlice_e P w t len ps
  rw [this]
  exact Tr_bind _ fun e => Tr_bind _ fun z => Tr_bind _ fun n => Tr_ite _ (Tr_bind _ fun cs => Tr_alloc (fun m => .slice (some ⟨m, 0, none⟩) len len) _)
theorem Tr_sMakeSlice (P : Program) (t : TypeId) (l c : Value) : Tr (sMakeSlice P t l c) := by
  cases l with
  | int k n =>
    cases c with
    | int k' m =>
      have : sMakeSlice P t (.int k n) (.int k' m) = fun w => (elt P t).bind fun e => (zrv P e).bind fun z => (szv P e).bind fun sz => (byv P e).bind fun by_ =>
          if n = m ∧ 0 ≤ n ∧ n ≤ 9223372036854775807 ∧ by_ * n ≤ 281474976710656 ∧ sz = 1 ∧ z.cells.size = 1 then
            some (.slice (some ⟨w.heap.size, 0, none⟩) n.toNat n.toNat, w.alloc (.cells (Array.replicate n.toNat z.cells[0]!) e)) else none := by funext w; exact sMakeSlice_i P w t k k' n m
      rw [this]
      exact Tr_bind _ fun e => Tr_bind _ fun z => Tr_bind _ fun n => Tr_bind _ fun b => Tr_ite _ (Tr_alloc (fun q => .slice (some ⟨q, 0, none⟩) _ _) _)
    | _ => exact Tr_none
  | _ => exact Tr_none
theorem Tr_rdW (P : Program) (op : Op) (f : Fr) : Tr (rdW P op f) := by
  intro T w v w' hT h
  have hE : w' = tombW T w := by
    have := rdW_ext (Ext.refl _) h
    rw [h] at this
    simp only [Option.some.injEq, Prod.mk.injEq, true_and] at this
    exact this
  subst hE
  refine ⟨w, ?_, rfl, Kp.refl hT⟩
  unfold rdW at h ⊢
  split at h
  · simp only [Option.some.injEq, Prod.mk.injEq] at h; simp [h.1]
  · simp only [Option.some.injEq, Prod.mk.injEq] at h; simp [h.1]
  · unfold sPick at h ⊢; split at h
    · simp only [Option.some.injEq, Prod.mk.injEq] at h; simp [h.1]
    · simp at h
  · unfold sBuild at h ⊢; split at h
    · exact map_fst_ext h
    · simp at h
  · obtain ⟨w1, h1, h2, _⟩ := Tr_sLoad P _ _ T w v _ hT h
    rw [h1, (sLoad_run h1).2]
  · unfold sNil at h ⊢; split at h
    · simp only [Option.some.injEq, Prod.mk.injEq] at h; simp [h.1]
    · simp at h
  · exact sBin_ext h
  · unfold sConv at h ⊢; split at h
    · split at h
      · split at h
        · rename_i hc; simp only [hc, if_true]; simp only [Option.some.injEq, Prod.mk.injEq] at h; simp [h.1]
        · simp at h
      · simp at h
    · simp at h
  · unfold sFieldAddr at h ⊢; split at h
    · exact map_fst_ext (g := fun o : Nat × Nat × Bool => _) h
    · simp at h
  · unfold sField at h ⊢; split at h
    · split at h
      · simp only [Option.some.injEq, Prod.mk.injEq] at h; simp [h.1]
      · exact map_fst_ext (g := fun x : Value => x) h
      · simp at h
    · simp at h
  · unfold sIndexAddr at h ⊢; split at h
    · split at h
      · split at h
        · rename_i hc; simp only [hc, and_self, if_true]; simp only [Option.some.injEq, Prod.mk.injEq] at h; simp [h.1]
        · simp at h
      · simp at h
    · simp at h
  · unfold sExtract at h ⊢; split at h
    · exact map_fst_ext (g := fun x : Value => x) h
    · simp at h
  · unfold sNot at h ⊢; split at h
    · simp only [Option.some.injEq, Prod.mk.injEq] at h; simp [h.1]
    · simp at h
  · unfold sSlice at h ⊢; split at h
    · split at h
      · split at h
        · split at h
          · simp only [Option.some.injEq, Prod.mk.injEq] at h; simp [h.1]
          · simp at h
        · simp at h
      · simp at h
    · simp at h
  · split at h
    · obtain ⟨w1, h1, h2, _⟩ := Tr_sLen P _ _ T w v _ hT h
      have := sLen_ext (Ext.refl _) h1
      exact this
    · unfold sMax at h ⊢; split at h
      · simp only [Option.some.injEq, Prod.mk.injEq] at h; simp [h.1]
      · simp at h
    · unfold sMin at h ⊢; split at h
      · simp only [Option.some.injEq, Prod.mk.injEq] at h; simp [h.1]
      · simp at h
    · simp at h
  · simp at h
end Go.W
