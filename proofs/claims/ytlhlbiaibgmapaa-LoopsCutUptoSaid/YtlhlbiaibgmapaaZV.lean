/-
  Tombs: worlds in which the cells of a call's own variables are out of sight. A world and its veiled image: what each operation does in the image, it does in the world.
-/
import Derived.Test.YtlhlbiaibgmapaaZW
set_option linter.unusedSimpArgs false
set_option linter.unusedVariables false
namespace Go.W
/-- what stands in the place of a hidden block -/
def tomb : Obj := .coro none
def tombW (T : Nat → Bool) (w : World) : World := { w with heap := w.heap.mapIdx fun i o => if T i then tomb else o }
/-- nothing is hidden beyond the heap -/
def TB (T : Nat → Bool) (w : World) : Prop := ∀ b, w.heap.size ≤ b → T b = false
/-- hidden blocks stay as they are; no old block becomes hidden -/
structure Kp (T : Nat → Bool) (w : World) (T' : Nat → Bool) (w' : World) : Prop where
  tb0 : TB T w
  tb : TB T' w'
  size : w.heap.size ≤ w'.heap.size
  old : ∀ b, b < w.heap.size → T' b = T b
  get : ∀ b, T b = true → w'.heap[b]? = w.heap[b]?
theorem Kp.refl {T : Nat → Bool} {w : World} (h : TB T w) : Kp T w T w := ⟨h, h, Nat.le_refl _, fun _ _ => rfl, fun _ _ => rfl⟩
theorem TB.lt {T : Nat → Bool} {w : World} (h : TB T w) {b : Nat} (hb : T b = true) : b < w.heap.size := by
  apply Nat.lt_of_not_le; intro hle; rw [h b hle] at hb; cases hb
theorem Kp.hid {T T' : Nat → Bool} {w w' : World} (h : Kp T w T' w') {b : Nat} (hb : T b = true) : T' b = true := by rw [h.old b (h.tb0.lt hb)]; exact hb
theorem Kp.trans {T T' T'' : Nat → Bool} {w w' w'' : World} (h : Kp T w T' w') (k : Kp T' w' T'' w'') : Kp T w T'' w'' :=
  ⟨h.tb0, k.tb, Nat.le_trans h.size k.size, fun b hb => (k.old b (Nat.lt_of_lt_of_le hb h.size)).trans (h.old b hb), fun b hb => (k.get b (h.hid hb)).trans (h.get b hb)⟩
theorem tombW_size (T : Nat → Bool) (w : World) : (tombW T w).heap.size = w.heap.size := by simp [tombW]
theorem tombW_get (T : Nat → Bool) (w : World) (b : Nat) : (tombW T w).heap[b]? = (w.heap[b]?).map fun o => if T b then tomb else o := by
  simp [tombW]
theorem tombW_see {T : Nat → Bool} {w : World} {b : Nat} (h : T b = false) : (tombW T w).heap[b]? = w.heap[b]? := by
  rw [tombW_get]; simp [h]
theorem tombW_real {T : Nat → Bool} {w : World} {b : Nat} {o : Obj} (h : (tombW T w).heap[b]? = some o) (ho : o ≠ tomb) : T b = false ∧ w.heap[b]? = some o := by
  rw [tombW_get] at h
  obtain ⟨o', h1, h2⟩ := Option.map_eq_some_iff.1 h
  cases hb : T b with
  | true => rw [hb] at h2; exact (ho h2.symm).elim
  | false => rw [hb] at h2; simp only [Bool.false_eq_true, if_false] at h2; exact ⟨rfl, h2 ▸ h1⟩
theorem tombW_cells {T : Nat → Bool} {w : World} {b : Nat} {cs : Array Value} {e : TypeId} {fz : Nat × Nat} (h : (tombW T w).heap[b]? = some (.cells cs e fz)) : T b = false ∧ w.heap[b]? = some (.cells cs e fz) := tombW_real h (by simp [tomb])
theorem tombW_map {T : Nat → Bool} {w : World} {b : Nat} {es : Array MapEntry} {c : Nat} (h : (tombW T w).heap[b]? = some (.map es c)) : T b = false ∧ w.heap[b]? = some (.map es c) := tombW_real h (by simp [tomb])
theorem tombW_iter {T : Nat → Bool} {w : World} {b : Nat} {m : Option Nat} {s : Nat} {seen : Array Nat} {st : Nat} (h : (tombW T w).heap[b]? = some (.mapIter m s seen st)) : T b = false ∧ w.heap[b]? = some (.mapIter m s seen st) := tombW_real h (by simp [tomb])
theorem world_ext {w w' : World} (h1 : w.heap = w'.heap) (h2 : w.tape = w'.tape) (h3 : w.drawn = w'.drawn) (h4 : w.os = w'.os) (h5 : w.output = w'.output) : w = w' := by
  cases w; cases w'; simp_all
theorem heap_ext {a b : Array Obj} (h : ∀ i : Nat, a[i]? = b[i]?) : a = b := by
  apply Array.ext'
  apply List.ext_getElem?
  intro i
  simpa using h i
theorem tombW_putb {T : Nat → Bool} {w : World} {b : Nat} (h : T b = false) (o : Obj) : tombW T (w.putb b o) = (tombW T w).putb b o := by
  refine world_ext (heap_ext fun i => ?_) rfl rfl rfl rfl
  rw [tombW_get]
  simp only [World.putb, Array.getElem?_setIfInBounds]
  by_cases e : b = i
  · subst e; simp [h, tombW_size]
  · simp only [e, if_false]; rw [tombW_get]
theorem tombW_hide {T : Nat → Bool} {w : World} {b : Nat} (h : T b = true) (o : Obj) : tombW T (w.putb b o) = tombW T w := by
  refine world_ext (heap_ext fun i => ?_) rfl rfl rfl rfl
  rw [tombW_get, tombW_get]
  simp only [World.putb, Array.getElem?_setIfInBounds]
  by_cases e : b = i
  · subst e
    by_cases hlt : b < w.heap.size
    · simp [h, hlt]
    · simp [hlt]
  · simp [e]
theorem tombW_alloc {T : Nat → Bool} {w : World} (h : TB T w) (o : Obj) : tombW T (w.alloc o) = (tombW T w).alloc o := by
  refine world_ext (heap_ext fun i => ?_) rfl rfl rfl rfl
  rw [tombW_get, alloc_get_if, alloc_get_if, tombW_size, tombW_get]
  by_cases e : i = w.heap.size
  · subst e; simp [h _ (Nat.le_refl _)]
  · simp [e]
theorem tombW_allocT {T : Nat → Bool} {w : World} (h : TB T w) (o : Obj) : tombW (setL T w.heap.size) (w.alloc o) = (tombW T w).alloc tomb := by
  refine world_ext (heap_ext fun i => ?_) rfl rfl rfl rfl
  rw [tombW_get, alloc_get_if, alloc_get_if, tombW_size, tombW_get]
  by_cases e : i = w.heap.size
  · subst e; simp [setL]
  · simp [e, setL]
theorem tombW_drew (T : Nat → Bool) (w : World) : tombW T w.drew = (tombW T w).drew := rfl
theorem tombW_none (w : World) : tombW (fun _ => false) w = w := by
  refine world_ext (heap_ext fun i => ?_) rfl rfl rfl rfl
  rw [tombW_get]; simp
theorem tombW_cell {T : Nat → Bool} {w : World} {a : Addr} {v : Value} (h : (tombW T w).cell? a = some v) : w.cell? a = some v := by
  unfold World.cell? at h ⊢
  split at h
  · rename_i c e fz hb
    rw [(tombW_cells hb).2]; exact h
  · simp at h
theorem tombW_rd {T : Nat → Bool} {w : World} {a : Addr} {n : Nat} {cs : Array Value} (h : rd (tombW T w) a n = some cs) : rd w a n = some cs := by
  unfold rd at h ⊢
  split at h
  · rename_i c e fz hb
    rw [(tombW_cells hb).2]; exact h
  · simp at h
theorem TB.alloc {T : Nat → Bool} {w : World} (h : TB T w) (o : Obj) : TB T (w.alloc o) := fun b hb => h b (by rw [alloc_size] at hb; omega)
theorem Kp.alloc {T : Nat → Bool} {w : World} (h : TB T w) (o : Obj) : Kp T w T (w.alloc o) :=
  ⟨h, h.alloc o, by rw [alloc_size]; omega, fun _ _ => rfl, fun b hb => alloc_get_lt (h.lt hb) o⟩
theorem Kp.allocT {T : Nat → Bool} {w : World} (h : TB T w) (o : Obj) : Kp T w (setL T w.heap.size) (w.alloc o) :=
  ⟨h, fun b hb => by rw [alloc_size] at hb; simp only [setL]; rw [if_neg (by omega)]; exact h b (by omega), by rw [alloc_size]; omega,
    fun b hb => by simp only [setL]; rw [if_neg (by omega)], fun b hb => alloc_get_lt (h.lt hb) o⟩
theorem Kp.putb {T : Nat → Bool} {w : World} (h : TB T w) {b : Nat} (hb : T b = false) (o : Obj) : Kp T w T (w.putb b o) :=
  ⟨h, fun c hc => h c (by rw [putb_size] at hc; exact hc), by rw [putb_size]; exact Nat.le_refl _, fun _ _ => rfl, fun c hc => putb_get_ne (by rintro rfl; rw [hb] at hc; cases hc) o⟩
theorem Kp.drew {T : Nat → Bool} {w : World} (h : TB T w) : Kp T w T w.drew := ⟨h, h, Nat.le_refl _, fun _ _ => rfl, fun _ _ => rfl⟩

/-- an operation that does in the world what it does in the image -/
def Tr (r : World → Option (Value × World)) : Prop :=
  ∀ T w v w', TB T w → r (tombW T w) = some (v, w') → ∃ w1, r w = some (v, w1) ∧ w' = tombW T w1 ∧ Kp T w T w1
theorem Tr_pure {r : World → Option (Value × World)} (g : Option Value) (h : ∀ w, r w = g.map (·, w)) : Tr r := by
  intro T w v w' hT hr
  rw [h] at hr ⊢
  obtain ⟨u, hu, he⟩ := Option.map_eq_some_iff.1 hr
  simp only [Prod.mk.injEq] at he
  obtain ⟨rfl, rfl⟩ := he
  exact ⟨w, by rw [hu]; rfl, rfl, Kp.refl hT⟩
theorem Tr_none : Tr fun _ => none := by intro T w v w' _ h; simp at h
theorem Tr_bind {α : Type} (o : Option α) {r : α → World → Option (Value × World)} (h : ∀ a, Tr (r a)) : Tr fun w => o.bind fun a => r a w := by
  cases o with
  | none => exact Tr_none
  | some a => exact h a
theorem Tr_ite (p : Prop) [Decidable p] {r : World → Option (Value × World)} (h : Tr r) : Tr fun w => if p then r w else none := by
  by_cases hp : p
  · simp only [hp, if_true]; exact h
  · simp only [hp, if_false]; exact Tr_none
theorem Tr_alloc (g : Nat → Value) (o : Obj) : Tr fun w => some (g w.heap.size, w.alloc o) := by
  intro T w v w' hT h
  simp only [Option.some.injEq, Prod.mk.injEq, tombW_size] at h
  obtain ⟨rfl, rfl⟩ := h
  exact ⟨_, rfl, (tombW_alloc hT o).symm, Kp.alloc hT o⟩
theorem Tr_sLoad (P : Program) (t : TypeId) (x : Value) : Tr (sLoad P t x) := by
  intro T w v w' hT h
  unfold sLoad at h ⊢
  split at h
  · rename_i a
    split at h
    · rename_i hb
      split at h
      · rename_i n hn
        obtain ⟨cs, hcs, he⟩ := Option.map_eq_some_iff.1 h
        simp only [Prod.mk.injEq] at he
        obtain ⟨rfl, rfl⟩ := he
        exact ⟨w, by simp only [tombW_rd hcs, Option.map_some], rfl, Kp.refl hT⟩
      · simp at h
    · rename_i hb
      obtain ⟨u, hu, he⟩ := Option.map_eq_some_iff.1 h
      simp only [Prod.mk.injEq] at he
      obtain ⟨rfl, rfl⟩ := he
      exact ⟨w, by simp only [tombW_cell hu, Option.map_some], rfl, Kp.refl hT⟩
    · simp at h
  · simp at h
theorem Tr_sStore (P : Program) (t : TypeId) (x v : Value) : Tr (sStore P t x v) := by
  intro T w u w' hT h
  unfold sStore at h ⊢
  split at h
  · rename_i b off
    split at h
    · rename_i cs e fz hb
      obtain ⟨hTb, hb'⟩ := tombW_cells hb
      simp only [hb']
      split at h
      · rename_i hc
        simp only [hc, and_self, if_true]
        simp only [Option.some.injEq, Prod.mk.injEq] at h
        obtain ⟨rfl, rfl⟩ := h
        exact ⟨_, rfl, (tombW_putb hTb _).symm, Kp.putb hT hTb _⟩
      · simp at h
    · simp at h
  · simp at h
theorem Tr_sLen (P : Program) (t : TypeId) (x : Value) : Tr (sLen P t x) := by
  intro T w u w' hT h
  unfold sLen at h ⊢
  split at h
  · split at h
    · rename_i hc; simp only [hc, if_true]; simp only [Option.some.injEq, Prod.mk.injEq] at h; obtain ⟨rfl, rfl⟩ := h; exact ⟨w, rfl, rfl, Kp.refl hT⟩
    · simp at h
  · split at h
    · rename_i hc; simp only [hc, if_true]; simp only [Option.some.injEq, Prod.mk.injEq] at h; obtain ⟨rfl, rfl⟩ := h; exact ⟨w, rfl, rfl, Kp.refl hT⟩
    · simp at h
  · split at h
    · rename_i es c hr
      simp only [(tombW_map hr).2]
      split at h
      · rename_i hc; simp only [hc, if_true]; simp only [Option.some.injEq, Prod.mk.injEq] at h; obtain ⟨rfl, rfl⟩ := h; exact ⟨w, rfl, rfl, Kp.refl hT⟩
      · simp at h
    · simp at h
  · simp at h
theorem Tr_sAlloc (P : Program) (t : TypeId) : Tr (sAlloc P t) := by
  have : sAlloc P t = fun w => (zrv P t).bind fun z => some (.pointer (some ⟨w.heap.size, 0, none⟩), w.alloc (.cells z.cells t)) := by funext w; exact sAlloc_e P w t
  rw [this]
  exact Tr_bind _ fun z => Tr_alloc (fun n => .pointer (some ⟨n, 0, none⟩)) _
theorem Tr_sBox (t : TypeId) (x : Value) : Tr (sBox t x) := Tr_alloc (fun n => .pointer (some ⟨n, 0, none⟩)) _
theorem Tr_sMakeMap : Tr sMakeMap := Tr_alloc (fun n => .map (some n)) _
theorem Tr_sBuildSlice (P : Program) (t : TypeId) (len : Nat) (ps : List (Nat × Value)) : Tr (sBuildSlice P t len ps) := by
  have : sBuildSlice P t len ps = fun w => (elt P t).bind fun e => (zrv P e).bind fun z => (szv P e).bind fun n => if len * n ≤ 16777216 then
        (fillV (fun i => some (i * n, n)) ((List.replicate len z.cells.toList).flatten.toArray) ps).bind fun cs => some (.slice (some ⟨w.heap.size, 0, none⟩) len len, w.alloc (.cells cs e))
      else none := by funext w; exact sBuildSlice_e P w t len ps
  rw [this]
  exact Tr_bind _ fun e => Tr_bind _ fun z => Tr_bind _ fun n => Tr_ite _ (Tr_bind _ fun cs => Tr_alloc (fun m => .slice (some ⟨m, 0, none⟩) len len) _)
theorem Tr_sMakeSlice (P : Program) (t : TypeId) (l c : Value) : Tr (sMakeSlice P t l c) := by
  cases l with
  | int k n =>
    cases c with
    | int k' m =>
      have : sMakeSlice P t (.int k n) (.int k' m) = fun w => (elt P t).bind fun e => (zrv P e).bind fun z => (szv P e).bind fun sz => (byv P e).bind fun by_ =>
          if n = m ∧ 0 ≤ n ∧ n ≤ 9223372036854775807 ∧ by_ * n ≤ 281474976710656 ∧ sz = 1 ∧ z.cells.size = 1 then
            some (.slice (some ⟨w.heap.size, 0, none⟩) n.toNat n.toNat, w.alloc (.cells (Array.replicate n.toNat z.cells[0]!) e)) else none := by funext w; exact sMakeSlice_i P w t k k' n m
      rw [this]
      exact Tr_bind _ fun e => Tr_bind _ fun z => Tr_bind _ fun n => Tr_bind _ fun b => Tr_ite _ (Tr_alloc (fun q => .slice (some ⟨q, 0, none⟩) _ _) _)
    | _ => exact Tr_none
  | _ => exact Tr_none
theorem Tr_rdW (P : Program) (op : Op) (f : Fr) : Tr (rdW P op f) := by
  intro T w v w' hT h
  have hE : w' = tombW T w := by
    have := rdW_ext (Ext.refl _) h
    rw [h] at this
    simp only [Option.some.injEq, Prod.mk.injEq, true_and] at this
    exact this
  subst hE
  refine ⟨w, ?_, rfl, Kp.refl hT⟩
  unfold rdW at h ⊢
  split at h
  · simp only [Option.some.injEq, Prod.mk.injEq] at h; simp [h.1]
  · simp only [Option.some.injEq, Prod.mk.injEq] at h; simp [h.1]
  · unfold sPick at h ⊢; split at h
    · simp only [Option.some.injEq, Prod.mk.injEq] at h; simp [h.1]
    · simp at h
  · unfold sBuild at h ⊢; split at h
    · exact map_fst_ext h
    · simp at h
  · obtain ⟨w1, h1, h2, _⟩ := Tr_sLoad P _ _ T w v _ hT h
    rw [h1, (sLoad_run h1).2]
  · unfold sNil at h ⊢; split at h
    · simp only [Option.some.injEq, Prod.mk.injEq] at h; simp [h.1]
    · simp at h
  · exact sBin_ext h
  · unfold sConv at h ⊢; split at h
    · split at h
      · split at h
        · rename_i hc; simp only [hc, if_true]; simp only [Option.some.injEq, Prod.mk.injEq] at h; simp [h.1]
        · simp at h
      · simp at h
    · simp at h
  · unfold sFieldAddr at h ⊢; split at h
    · exact map_fst_ext (g := fun o : Nat × Nat × Bool => _) h
    · simp at h
  · unfold sField at h ⊢; split at h
    · split at h
      · simp only [Option.some.injEq, Prod.mk.injEq] at h; simp [h.1]
      · exact map_fst_ext (g := fun x : Value => x) h
      · simp at h
    · simp at h
  · unfold sIndexAddr at h ⊢; split at h
    · split at h
      · split at h
        · rename_i hc; simp only [hc, and_self, if_true]; simp only [Option.some.injEq, Prod.mk.injEq] at h; simp [h.1]
        · simp at h
      · simp at h
    · split at h
      · split at h
        · rename_i hc; simp only [hc, and_self, if_true]; simp only [Option.some.injEq, Prod.mk.injEq] at h; simp [h.1]
        · simp at h
      · simp at h
    · simp at h
  · unfold sExtract at h ⊢; split at h
    · exact map_fst_ext (g := fun x : Value => x) h
    · simp at h
  · unfold sNot at h ⊢; split at h
    · simp only [Option.some.injEq, Prod.mk.injEq] at h; simp [h.1]
    · simp at h
  · unfold sSlice at h ⊢; split at h
    · split at h
      · split at h
        · split at h
          · simp only [Option.some.injEq, Prod.mk.injEq] at h; simp [h.1]
          · simp at h
        · simp at h
      · simp at h
    · simp at h
  · split at h
    · obtain ⟨w1, h1, h2, _⟩ := Tr_sLen P _ _ T w v _ hT h
      have := sLen_ext (Ext.refl _) h1
      exact this
    · unfold sMax at h ⊢; split at h
      · simp only [Option.some.injEq, Prod.mk.injEq] at h; simp [h.1]
      · simp at h
    · unfold sMin at h ⊢; split at h
      · simp only [Option.some.injEq, Prod.mk.injEq] at h; simp [h.1]
      · simp at h
    · simp at h
  · simp at h
end Go.W
set_option linter.unusedSimpArgs false
set_option linter.unusedVariables false
namespace Go.W
def upV (K : Value → World → Prop) (T : Nat → Bool) (wa : World) (v : Value) (wa' : World) : Prop := ∃ T', Kp T wa T' wa' ∧ K v (tombW T' wa')
def rawV (P : Program) (op : Op) (ty : TypeId) (f : Fr) (w : World) (K : Value → World → Prop) : Prop := ∀ T wa, w = tombW T wa → TB T wa → raw P op ty f wa (upV K T wa)
/-- the call returns, in every world of which this is the image; or the function has no body and the model's own entry runs -/
def VRet (P : Program) (g : Nat) (args : Array Value) (w : World) (Φ : Value → World → Prop) : Prop :=
  (enters P g = true ∧ ∀ T wa, w = tombW T wa → TB T wa → Ret P g args wa (upV Φ T wa)) ∨
    ∀ T wa, w = tombW T wa → TB T wa → ∀ (as : Array Operand) (ts : Array TypeId) (ty : TypeId) (f : Fr), as.map (ev f) = args → raw P (.call ⟨.value (.func g), as, ts⟩) ty f wa (upV Φ T wa)
theorem upV.mono {K K' : Value → World → Prop} (hm : ∀ v w, K v w → K' v w) {T : Nat → Bool} {wa : World} {v : Value} {wa' : World} (h : upV K T wa v wa') : upV K' T wa v wa' :=
  let ⟨T', h1, h2⟩ := h; ⟨T', h1, hm _ _ h2⟩
theorem rawV_mono {P : Program} {op : Op} {ty : TypeId} {f : Fr} {w : World} {K K' : Value → World → Prop} (hm : ∀ v w, K v w → K' v w) (h : rawV P op ty f w K) : rawV P op ty f w K' :=
  fun T wa h1 h2 => raw_mono (fun _ _ => upV.mono hm) (h T wa h1 h2)
theorem VRet.mono {P : Program} {g : Nat} {args : Array Value} {w : World} {Φ Ψ : Value → World → Prop} (h : VRet P g args w Φ) (hm : ∀ v w', Φ v w' → Ψ v w') : VRet P g args w Ψ :=
  match h with
  | .inl h => .inl ⟨h.1, fun T wa h1 h2 => (h.2 T wa h1 h2).mono fun _ _ => upV.mono hm⟩
  | .inr h => .inr fun T wa h1 h2 as ts ty f ha => raw_mono (fun _ _ => upV.mono hm) (h T wa h1 h2 as ts ty f ha)
/-- a plain call with no hidden cells -/
theorem VRet.ret {P : Program} {g : Nat} {args : Array Value} {w : World} {Φ : Value → World → Prop} (hen : enters P g = true) (h : VRet P g args w Φ) :
    Ret P g args w fun v w' => ∃ T', (∀ b, b < w.heap.size → T' b = false) ∧ TB T' w' ∧ w.heap.size ≤ w'.heap.size ∧ Φ v (tombW T' w') := by
  have hk : ∀ v w', upV Φ (fun _ => false) w v w' → ∃ T', (∀ b, b < w.heap.size → T' b = false) ∧ TB T' w' ∧ w.heap.size ≤ w'.heap.size ∧ Φ v (tombW T' w') := fun v w' ⟨T', hk, hp⟩ => ⟨T', hk.old, hk.tb, hk.size, hp⟩
  rcases h with h | h
  · exact (h.2 (fun _ => false) w (tombW_none w).symm (fun _ _ => rfl)).mono hk
  · have h1 := h (fun _ => false) w (tombW_none w).symm (fun _ _ => rfl) (args.map .const) #[] 0 (fun _ => undef) (by
      rw [Array.map_map]; exact (Array.map_congr_left (fun _ _ => rfl)).trans (Array.map_id _))
    have e : (invoke (.fn (.func g) #[]) ((args.map Operand.const).map (ev fun _ => undef))).run P w = .ok (.enter g ((args.map Operand.const).map (ev fun _ => undef))) w := by
      simp [invoke, run_callFunc hen]
    simp only [raw, execOp, resolve, ev, Deferred.ofValue, run_bind, Sem.run, pure, Array.empty_append, e, upon] at h1
    have ea : (args.map Operand.const).map (ev fun _ => undef) = args := by rw [Array.map_map]; exact (Array.map_congr_left (fun _ _ => rfl)).trans (Array.map_id _)
    rw [ea] at h1
    exact ⟨hen, h1.mono fun _ _ ⟨v, e, hv⟩ => ⟨v, e, hk _ _ hv⟩⟩
def callV (P : Program) (c : Call) (ty : TypeId) (f : Fr) (w : World) (K : Value → World → Prop) : Prop :=
  match c with
  | ⟨.builtin b, as, ts⟩ => match b, as.toList, ts.toList with
    | .len, [x], [t] => B (sLen P t (ev f x) w) K
    | .max, [x, y], _ => B (sMax (ev f x) (ev f y) w) K
    | .min, [x, y], _ => B (sMin (ev f x) (ev f y) w) K
    | _, _, _ => rawV P (.call c) ty f w K
  | ⟨.value (.func g), as, _⟩ => VRet P g (as.map (ev f)) w K
  | c => rawV P (.call c) ty f w K
def opV (P : Program) (op : Op) (ty : TypeId) (f : Fr) (w : World) (K : Value → World → Prop) : Prop :=
  match op with
  | .move x => K (ev f x) w
  | .assign x => K (ev f x) w
  | .pick c a b => B (sPick (ev f c) (ev f a) (ev f b) w) K
  | .alloc t => B (sAlloc P t w) K
  | .box t x => B (sBox t (ev f x) w) K
  | .build t ps => B (sBuild P t (ps.toList.map fun p => (p.1, ev f p.2)) w) K
  | .buildSlice t n ps => sBuildSliceOk P t = true ∧ B (sBuildSlice P t n (ps.toList.map fun p => (p.1, ev f p.2)) w) K
  | .load t x => B (sLoad P t (ev f x) w) K
  | .store t x v => B (sStore P t (ev f x) (ev f v) w) K
  | .nilCheck x => B (sNil (ev f x) w) K
  | .binOp o t x y t' => if ty = 999999 then rawV P (.binOp o t x y t') ty f w K else B (sBin P o t (ev f x) (ev f y) w) K
  | .convert s t x => B (sConv P s t (ev f x) w) K
  | .fieldAddr s x k => B (sFieldAddr P s (ev f x) k w) K
  | .field s x k => B (sField P s (ev f x) k w) K
  | .indexAddr t x i => B (sIndexAddr P t (ev f x) (ev f i) w) K
  | .extract x i => B (sExtract (ev f x) i w) K
  | .unOp .not _ x => B (sNot (ev f x) w) K
  | .makeMap _ none => B (sMakeMap w) K
  | .makeSlice t l c => B (sMakeSlice P t (ev f l) (ev f c) w) K
  | .slice t x lo hi none => B (sSlice P t (ev f x) (lo.map (ev f)) (hi.map (ev f)) w) K
  | .call c => callV P c ty f w K
  | op => rawV P op ty f w K
theorem B_up {r : World → Option (Value × World)} (hr : Tr r) {T : Nat → Bool} {wa : World} (hT : TB T wa) {K : Value → World → Prop} (h : B (r (tombW T wa)) K) : B (r wa) (upV K T wa) := by
  unfold B at h
  split at h
  · rename_i v w' hs
    obtain ⟨w1, h1, rfl, hk⟩ := hr T wa v w' hT hs
    rw [h1]
    exact ⟨T, hk, h⟩
  · exact h.elim
theorem callV_sound {P : Program} {c : Call} {ty : TypeId} {f : Fr} {T : Nat → Bool} {wa : World} (hT : TB T wa) {K : Value → World → Prop} (h : callV P c ty f (tombW T wa) K) : raw P (.call c) ty f wa (upV K T wa) := by
  unfold callV at h
  split at h
  · rename_i b as ts
    split at h
    · rename_i x t h1 h2
      obtain rfl : as = #[x] := by apply Array.ext'; simpa using h1
      obtain rfl : ts = #[t] := by apply Array.ext'; simpa using h2
      exact sLen_sound (B_up (Tr_sLen P _ _) hT h)
    · rename_i x y h1
      obtain rfl : as = #[x, y] := by apply Array.ext'; simpa using h1
      exact sMax_sound (B_up (Tr_rdW P (.call ⟨.builtin .max, #[x, y], ts⟩) f) hT h)
    · rename_i x y h1
      obtain rfl : as = #[x, y] := by apply Array.ext'; simpa using h1
      exact sMin_sound (B_up (Tr_rdW P (.call ⟨.builtin .min, #[x, y], ts⟩) f) hT h)
    · exact h T wa rfl hT
  · rename_i g as ts
    rcases h with h | h
    · exact callW_sound (c := ⟨.value (.func g), as, ts⟩) (h.2 T wa rfl hT)
    · exact h T wa rfl hT as ts ty f rfl
  · exact h T wa rfl hT
theorem opV_sound {P : Program} {op : Op} {ty : TypeId} {f : Fr} {T : Nat → Bool} {wa : World} (hT : TB T wa) {K : Value → World → Prop} (h : opV P op ty f (tombW T wa) K) : raw P op ty f wa (upV K T wa) := by
  unfold opV at h
  split at h
  · exact opW_sound (op := .move _) ⟨T, Kp.refl hT, h⟩
  · exact opW_sound (op := .assign _) ⟨T, Kp.refl hT, h⟩
  · rename_i c a b; exact sPick_sound (B_up (Tr_rdW P (.pick c a b) f) hT h)
  · exact sAlloc_sound (B_up (Tr_sAlloc P _) hT h)
  · exact sBox_sound (B_up (Tr_sBox _ _) hT h)
  · rename_i t ps; exact sBuild_sound (B_up (Tr_rdW P (.build t ps) f) hT h)
  · exact sBuildSlice_sound h.1 (B_up (Tr_sBuildSlice P _ _ _) hT h.2)
  · exact sLoad_sound (B_up (Tr_sLoad P _ _) hT h)
  · exact sStore_sound (B_up (Tr_sStore P _ _ _) hT h)
  · rename_i x; exact sNil_sound (B_up (Tr_rdW P (.nilCheck x) f) hT h)
  · rename_i o t x y t'
    split at h
    · exact h T wa rfl hT
    · exact sBin_sound (B_up (Tr_rdW P (.binOp o t x y t') f) hT h)
  · rename_i s t x; exact sConv_sound (B_up (Tr_rdW P (.convert s t x) f) hT h)
  · rename_i s x k; exact sFieldAddr_sound (B_up (Tr_rdW P (.fieldAddr s x k) f) hT h)
  · rename_i s x k; exact sField_sound (B_up (Tr_rdW P (.field s x k) f) hT h)
  · rename_i t x i; exact sIndexAddr_sound (B_up (Tr_rdW P (.indexAddr t x i) f) hT h)
  · rename_i x i; exact sExtract_sound (B_up (Tr_rdW P (.extract x i) f) hT h)
  · rename_i t x; exact sNot_sound (B_up (Tr_rdW P (.unOp .not t x) f) hT h)
  · exact sMakeMap_sound (B_up Tr_sMakeMap hT h)
  · exact sMakeSlice_sound (B_up (Tr_sMakeSlice P _ _ _) hT h)
  · rename_i t x lo hi; exact sSlice_sound (B_up (Tr_rdW P (.slice t x lo hi none) f) hT h)
  · exact callV_sound hT h
  · exact h T wa rfl hT
theorem raw_congr {P : Program} {op : Op} {ty : TypeId} {f fa : Fr} {w : World} {K : Value → World → Prop} (hs : ∀ cs b, op ≠ .select cs b) (hx : ∀ x ∈ op.operands, ev fa x = ev f x) (h : raw P op ty f w K) : raw P op ty fa w K := by
  unfold raw at *
  rwa [execOp_congr (⟨none, op, ty, "", #[], none⟩ : Oper) hs fun x hm => hx x hm]

/-! ### boxes -/
/-- a value that is there -/
def live : Value → Bool
  | .tuple _ => false
  | _ => true
inductive VI where
  | op (d : Option Nat) (o : Op) (ty : TypeId)
  | path (e b off : Nat) (via : Option (Nat × Nat))
  | part (d : Option Nat) (via : Option Nat) (b off n : Nat) (agg : Bool)
  | put (via b off n : Nat) (x : Operand)
  | set (b n : Nat) (x : Operand)
  | new (b : Nat) (z : Value)
  | box (b n : Nat) (x : Operand)
structure VO where
  g : Option (Nat × Bool)
  i : VI
abbrev OK := Nat → Option (Nat × Nat)
def ok0 : OK := fun _ => none
def oset (ok : OK) (e b off : Nat) : OK := fun t => if t = e then some (b, off) else ok t
def oclr (ok : OK) (e : Nat) : OK := fun t => if t = e then none else ok t
def odel (ok : OK) (b : Nat) : OK := fun t => (ok t).bind fun p => if p.1 = b then none else some p
/-- the slots that hold boxes, with their sizes; the slots that hold places inside boxes -/
structure Cx where
  bx : List (Nat × Nat)
  ps : List Nat
def Cx.bsz (cx : Cx) (d : Nat) : Option Nat := (cx.bx.find? (·.1 == d)).map (·.2)
def Cx.isV (cx : Cx) (t : Nat) : Bool := (cx.bsz t).isSome || cx.ps.contains t
def Cx.ok (cx : Cx) : Bool := cx.ps.all fun e => (cx.bsz e).isNone
def Cx.ordO (cx : Cx) : Operand → Bool
  | .tmp t => !cx.isV t
  | _ => true
def Cx.ordD (cx : Cx) : Option Nat → Bool
  | some t => !cx.isV t
  | none => true
def isSel : Op → Bool
  | .select .. => true
  | _ => false
/-- marked operations (by a hint): an arithmetic one is met by the model's own run, a load in a drawn region by what it hands back -/
def mayMark : Op → Bool
  | .binOp .. | .load .. => true
  | _ => false
def fty (pe : List (Nat × Nat × Nat)) (o : Oper) : TypeId := if mayMark o.op && (match o.dst with | some d => pe.any (·.1 == d + 1000000) | none => false) then 999999 else o.type
def cOrd (cx : Cx) (pe : List (Nat × Nat × Nat)) (o : Oper) : Option VI := if o.op.operands.all cx.ordO && cx.ordD o.dst && !isSel o.op then some (.op o.dst o.op (fty pe o)) else none
def pfind (pe : List (Nat × Nat × Nat)) (e : Nat) : Option (Nat × Nat) := (pe.find? (·.1 == e)).map (·.2)
def cOp (P : Program) (cx : Cx) (pe : List (Nat × Nat × Nat)) (o : Oper) : Option VI :=
  match o.op, o.dst with
  | .alloc t, some d => match cx.bsz d with
    | some n => match zrv P t with
      | some z => if live z && z.cells.size == n && decide (0 < n) then some (.new d z) else none
      | none => none
    | none => cOrd cx pe o
  | .box t x, some d => match cx.bsz d with
    | some n => if cx.ordO x then some (.box d n x) else none
    | none => cOrd cx pe o
  | .fieldAddr s (.tmp y) k, some e =>
    if cx.ps.contains e then match fld P s k with
      | some (fo, _, _) => match cx.bsz y with
        | some _ => some (.path e y fo none)
        | none => match pfind pe y with
          | some (b, off) => some (.path e b (off + fo) (some (y, off)))
          | none => none
      | none => none
    else cOrd cx pe o
  | .load t (.tmp y), d => if cx.isV y then match agb P t, szv P t with
      | some ag, some n => if cx.ordD d then match cx.bsz y with
          | some _ => some (.part d none y 0 n ag)
          | none => match pfind pe y with
            | some (b, off) => some (.part d (some y) b off n ag)
            | none => none
        else none
      | _, _ => none
    else cOrd cx pe o
  | .store t (.tmp y) x, none => if cx.isV y then match szv P t with
      | some n => if cx.ordO x && decide (0 < n) then match cx.bsz y with
          | some m => if m = n then some (.set y n x) else none
          | none => match pfind pe y with
            | some (b, off) => some (.put y b off n x)
            | none => none
        else none
      | none => none
    else cOrd cx pe o
  | _, _ => cOrd cx pe o
def sPart (v : Value) (off n : Nat) (ag : Bool) : Option Value :=
  if live v = true then if ag = true then (if off + n ≤ v.cells.size then some (.agg (v.cells.extract off (off + n))) else none) else v.cells[off]? else none
def shp (v : Value) (cs : Array Value) : Value := match v with | .agg _ => .agg cs | _ => cs.getD 0 undef
def sPut (v : Value) (off n : Nat) (x : Value) : Option Value :=
  match v with
  | .agg cs => if x.cells.size = n ∧ off + n ≤ cs.size ∧ x.cells.toList.all one = true ∧ 0 < n then some (.agg (spl cs off x.cells.toList)) else none
  | _ => none
def OB (r : Option Value) (κ : Value → Prop) : Prop := match r with | some v => κ v | none => False
def kk (k : OK → Fr → World → Prop) (ok : OK) (f : Fr) (d : Option Nat) (v : Value) (w : World) : Prop := k ok (updO f d v) w
def kv (k : OK → Fr → World → Prop) (ok : OK) (f : Fr) (d : Option Nat) (w : World) (v : Value) : Prop := k ok (updO f d v) w
def vok (ok : OK) (via : Option Nat) (b off : Nat) : Prop := match via with | none => off = 0 | some e => ok e = some (b, off)
def vi (P : Program) (i : VI) (k : OK → Fr → World → Prop) (ok : OK) (f : Fr) (w : World) : Prop :=
  match i with
  | .op d o ty => opV P o ty f w (kk k ok f d)
  | .path e b off via => live (f b) = true ∧ (match via with | none => True | some (y, o) => ok y = some (b, o)) ∧ k (oset ok e b off) f w
  | .part d via b off n ag => vok ok via b off ∧ OB (sPart (f b) off n ag) (kv k ok f d w)
  | .put via b off n x => ok via = some (b, off) ∧ OB (sPut (f b) off n (ev f x)) (kv k ok f (some b) w)
  | .set b n x => live (f b) = true ∧ (live (ev f x) = true ∧ (ev f x).cells.size = n ∧ (ev f x).cells.toList.all one = true) ∧ k ok (upd f b (ev f x)) w
  | .new b z => k (odel ok b) (upd f b z) (w.alloc tomb)
  | .box b n x => (live (ev f x) = true ∧ (ev f x).cells.size = n) ∧ k (odel ok b) (upd f b (ev f x)) (w.alloc tomb)
def sk (i : VI) (k : OK → Fr → World → Prop) (ok : OK) (f : Fr) (w : World) : Prop :=
  match i with
  | .op d _ _ | .part d _ _ _ _ _ => k ok (updO f d undef) w
  | .path e _ _ _ => k (oclr ok e) f w
  | .put .. | .set .. => k ok f w
  | .new b _ | .box b _ _ => k (odel ok b) (upd f b undef) w
def Y (P : Program) : List VO → (Fr → World → Prop) → OK → Fr → World → Prop
  | [], K, _, f, w => K f w
  | ⟨none, i⟩ :: l, K, ok, f, w => vi P i (Y P l K) ok f w
  | ⟨some (t, want), i⟩ :: l, K, ok, f, w => G (f t) want (vi P i (Y P l K) ok f w) (sk i (Y P l K) ok f w)

/-- the frame and the world of the walk (f, w) and those of the run (fa, wa) -/
structure VR (cx : Cx) (T0 : Nat → Bool) (wa0 : World) (ok : OK) (f : Fr) (w : World) (fa : Fr) (wa : World) (T : Nat → Bool) (B : Nat → Nat) : Prop where
  tw : w = tombW T wa
  kp : Kp T0 wa0 T wa
  ord : ∀ t, cx.isV t = false → fa t = f t
  box : ∀ d n, cx.bsz d = some n → live (f d) = true → fa d = .pointer (some ⟨B d, 0, none⟩) ∧ T (B d) = true ∧ wa0.heap.size ≤ B d ∧ (f d).cells.size = n ∧ ∃ ty, wa.heap[B d]? = some (.cells (f d).cells ty (0, 0))
  inj : ∀ d d' n n', cx.bsz d = some n → cx.bsz d' = some n' → live (f d) = true → live (f d') = true → B d = B d' → d = d'
  pth : ∀ e b off, ok e = some (b, off) → cx.ps.contains e = true ∧ (∃ n, cx.bsz b = some n) ∧ live (f b) = true ∧ fa e = .pointer (some ⟨B b, off, none⟩)
def VRx (cx : Cx) (T0 : Nat → Bool) (wa0 : World) (ok : OK) (f : Fr) (w : World) (fa : Fr) (wa : World) : Prop := ∃ T B, VR cx T0 wa0 ok f w fa wa T B
theorem isV_box {cx : Cx} {d n : Nat} (h : cx.bsz d = some n) : cx.isV d = true := by simp [Cx.isV, h]
theorem isV_ps {cx : Cx} {d : Nat} (h : cx.ps.contains d = true) : cx.isV d = true := by simp only [Cx.isV, h, Bool.or_true]
theorem ps_box {cx : Cx} (hc : cx.ok = true) {e : Nat} (h : cx.ps.contains e = true) : cx.bsz e = none := by
  have := List.all_eq_true.1 hc e (by simpa using h)
  simpa using this
theorem VR.ev {cx : Cx} {T0 : Nat → Bool} {wa0 : World} {ok : OK} {f : Fr} {w : World} {fa : Fr} {wa : World} {T : Nat → Bool} {B : Nat → Nat} (h : VR cx T0 wa0 ok f w fa wa T B) {x : Operand} (hx : cx.ordO x = true) : ev fa x = ev f x := by
  cases x with
  | tmp t => simp only [Cx.ordO, Bool.not_eq_true'] at hx; exact h.ord t hx
  | _ => rfl
/-- an ordinary slot is written -/
theorem VR.putO {cx : Cx} {T0 : Nat → Bool} {wa0 : World} {ok : OK} {f : Fr} {w : World} {fa : Fr} {wa : World} {T : Nat → Bool} {B : Nat → Nat} (h : VR cx T0 wa0 ok f w fa wa T B) {d : Option Nat} (hd : cx.ordD d = true) (v : Value) :
    VR cx T0 wa0 ok (updO f d v) w (updO fa d v) wa T B := by
  cases d with
  | none => exact h
  | some d =>
    simp only [Cx.ordD, Bool.not_eq_true'] at hd
    have hne : ∀ t, cx.isV t = true → t ≠ d := by rintro t ht rfl; rw [hd] at ht; cases ht
    refine ⟨h.tw, h.kp, fun t ht => ?_, fun b n hb hl => ?_, fun b b' n n' hb hb' hl hl' e => ?_, fun e b off he => ?_⟩
    · simp only [updO, upd]; split
      · rfl
      · exact h.ord t ht
    · have := hne b (isV_box hb)
      simp only [updO, upd_ne _ _ this] at hl ⊢
      exact h.box b n hb hl
    · simp only [updO, upd_ne _ _ (hne b (isV_box hb)), upd_ne _ _ (hne b' (isV_box hb'))] at hl hl'
      exact h.inj b b' n n' hb hb' hl hl' e
    · obtain ⟨h1, ⟨n, h2⟩, h3, h4⟩ := h.pth e b off he
      simp only [updO, upd_ne _ _ (hne b (isV_box h2)), upd_ne _ _ (hne e (isV_ps h1))]
      exact ⟨h1, ⟨n, h2⟩, h3, h4⟩
/-- the world moves on, the hidden cells staying -/
theorem VR.move {cx : Cx} {T0 : Nat → Bool} {wa0 : World} {ok : OK} {f : Fr} {w : World} {fa : Fr} {wa : World} {T : Nat → Bool} {B : Nat → Nat} (h : VR cx T0 wa0 ok f w fa wa T B) {T' : Nat → Bool} {wa' : World} (hk : Kp T wa T' wa') :
    VR cx T0 wa0 ok f (tombW T' wa') fa wa' T' B := by
  refine ⟨rfl, h.kp.trans hk, h.ord, fun d n hd hl => ?_, h.inj, h.pth⟩
  obtain ⟨h1, h2, h3, h4, ty, h5⟩ := h.box d n hd hl
  exact ⟨h1, hk.hid h2, h3, h4, ty, (hk.get _ h2).trans h5⟩
theorem VR.clear {cx : Cx} {T0 : Nat → Bool} {wa0 : World} {ok : OK} {f : Fr} {w : World} {fa : Fr} {wa : World} {T : Nat → Bool} {B : Nat → Nat} (h : VR cx T0 wa0 ok f w fa wa T B) : VR cx T0 wa0 ok0 f w fa wa T B :=
  ⟨h.tw, h.kp, h.ord, h.box, h.inj, fun e b off he => by simp [ok0] at he⟩
/-- a place inside a box -/
theorem VR.path {cx : Cx} {T0 : Nat → Bool} {wa0 : World} {ok : OK} {f : Fr} {w : World} {fa : Fr} {wa : World} {T : Nat → Bool} {B : Nat → Nat} (hc : cx.ok = true) (h : VR cx T0 wa0 ok f w fa wa T B) {e b off n : Nat} (he : cx.ps.contains e = true) (hb : cx.bsz b = some n) (hl : live (f b) = true) :
    VR cx T0 wa0 (oset ok e b off) f w (upd fa e (.pointer (some ⟨B b, off, none⟩))) wa T B := by
  have hne : ∀ t n, cx.bsz t = some n → t ≠ e := by rintro t n ht rfl; rw [ps_box hc he] at ht; cases ht
  refine ⟨h.tw, h.kp, fun t ht => ?_, fun d n hd hl => ?_, h.inj, fun e' b' off' he' => ?_⟩
  · have : t ≠ e := by rintro rfl; rw [isV_ps he] at ht; cases ht
    rw [upd_ne _ _ this]; exact h.ord t ht
  · rw [upd_ne _ _ (hne d n hd)]; exact h.box d n hd hl
  · simp only [oset] at he'
    by_cases e1 : e' = e
    · subst e1
      simp only [if_true, Option.some.injEq, Prod.mk.injEq] at he'
      obtain ⟨rfl, rfl⟩ := he'
      exact ⟨he, ⟨n, hb⟩, hl, by rw [upd_same]⟩
    · rw [if_neg e1] at he'
      rw [upd_ne _ _ e1]
      exact h.pth e' b' off' he'
/-- a box is written -/
theorem VR.write {cx : Cx} {T0 : Nat → Bool} {wa0 : World} {ok : OK} {f : Fr} {w : World} {fa : Fr} {wa : World} {T : Nat → Bool} {B : Nat → Nat} (h : VR cx T0 wa0 ok f w fa wa T B) {b n : Nat} (hb : cx.bsz b = some n) (hl : live (f b) = true) {v : Value} (hv : live v = true) (hn : v.cells.size = n) {ty : TypeId}
    (hcell : wa.heap[B b]? = some (.cells (f b).cells ty (0, 0))) : VR cx T0 wa0 ok (upd f b v) w fa (wa.putb (B b) (.cells v.cells ty (0, 0))) T B := by
  obtain ⟨h1, h2, h3, h4, _⟩ := h.box b n hb hl
  have hlt := get_lt hcell
  refine ⟨by rw [tombW_hide h2]; exact h.tw, ?_, fun t ht => ?_, fun d m hd hld => ?_, fun d d' m m' hd hd' hld hld' e => ?_, fun e b' off he => ?_⟩
  · refine ⟨h.kp.tb0, fun c hc => h.kp.tb c (by rw [putb_size] at hc; exact hc), by rw [putb_size]; exact h.kp.size, h.kp.old, fun c hc => ?_⟩
    rw [putb_get_ne (by rintro rfl; have := h.kp.tb0.lt hc; omega)]
    exact h.kp.get c hc
  · have : t ≠ b := by rintro rfl; rw [isV_box hb] at ht; cases ht
    rw [upd_ne _ _ this]; exact h.ord t ht
  · by_cases e : d = b
    · subst e
      rw [hb] at hd; simp only [Option.some.injEq] at hd; subst hd
      rw [upd_same]
      exact ⟨h1, h2, h3, hn, ty, putb_get_same hlt _⟩
    · rw [upd_ne _ _ e] at hld ⊢
      obtain ⟨k1, k2, k3, k4, ty', k5⟩ := h.box d m hd hld
      refine ⟨k1, k2, k3, k4, ty', ?_⟩
      rw [putb_get_ne (fun e' => e (h.inj d b m n hd hb hld hl e'))]
      exact k5
  · have hlv : ∀ d, live (upd f b v d) = true → live (f d) = true := by
      intro d hd; by_cases e : d = b
      · subst e; exact hl
      · rwa [upd_ne _ _ e] at hd
    exact h.inj d d' m m' hd hd' (hlv d hld) (hlv d' hld') e
  · obtain ⟨k1, k2, k3, k4⟩ := h.pth e b' off he
    refine ⟨k1, k2, ?_, k4⟩
    by_cases e : b' = b
    · subst e; rw [upd_same]; exact hv
    · rwa [upd_ne _ _ e]
/-- a box is made -/
theorem VR.make {cx : Cx} {T0 : Nat → Bool} {wa0 : World} {ok : OK} {f : Fr} {w : World} {fa : Fr} {wa : World} {T : Nat → Bool} {B : Nat → Nat} (hc : cx.ok = true) (h : VR cx T0 wa0 ok f w fa wa T B) {b n : Nat} (hb : cx.bsz b = some n) {v : Value} (hv : live v = true) (hn : v.cells.size = n) (ty : TypeId) :
    VR cx T0 wa0 (odel ok b) (upd f b v) (w.alloc tomb) (upd fa b (.pointer (some ⟨wa.heap.size, 0, none⟩))) (wa.alloc (.cells v.cells ty (0, 0))) (setL T wa.heap.size) (fun d => if d = b then wa.heap.size else B d) := by
  have hk := Kp.allocT h.kp.tb (.cells v.cells ty (0, 0))
  refine ⟨by rw [h.tw, tombW_allocT h.kp.tb], h.kp.trans hk, fun t ht => ?_, fun d m hd hld => ?_, fun d d' m m' hd hd' hld hld' e => ?_, fun e b' off he => ?_⟩
  · have : t ≠ b := by rintro rfl; rw [isV_box hb] at ht; cases ht
    rw [upd_ne _ _ this, upd_ne _ _ this]; exact h.ord t ht
  · by_cases e : d = b
    · subst e
      rw [hb] at hd; simp only [Option.some.injEq] at hd; subst hd
      rw [upd_same, upd_same]
      refine ⟨by simp, by simp [setL], by simp only [if_true]; exact h.kp.size, hn, ty, ?_⟩
      simp only [if_true]; exact alloc_get_new _ _
    · rw [upd_ne _ _ e] at hld ⊢
      rw [upd_ne _ _ e, if_neg e]
      obtain ⟨k1, k2, k3, k4, ty', k5⟩ := h.box d m hd hld
      exact ⟨k1, hk.hid k2, k3, k4, ty', (hk.get _ k2).trans k5⟩
  · have hBlt : ∀ d m, cx.bsz d = some m → d ≠ b → live (upd f b v d) = true → B d < wa.heap.size := by
      intro d m hd e hl
      rw [upd_ne _ _ e] at hl
      exact h.kp.tb.lt (h.box d m hd hl).2.1
    by_cases e1 : d = b <;> by_cases e2 : d' = b
    · rw [e1, e2]
    · rw [if_pos e1, if_neg e2] at e
      have := hBlt d' m' hd' e2 hld'; omega
    · rw [if_neg e1, if_pos e2] at e
      have := hBlt d m hd e1 hld; omega
    · rw [if_neg e1, if_neg e2] at e
      rw [upd_ne _ _ e1] at hld
      rw [upd_ne _ _ e2] at hld'
      exact h.inj d d' m m' hd hd' hld hld' e
  · simp only [odel] at he
    obtain ⟨p, hp, he⟩ := Option.bind_eq_some_iff.1 he
    split at he
    · simp at he
    · rename_i hne
      simp only [Option.some.injEq] at he
      subst he
      obtain ⟨k1, k2, k3, k4⟩ := h.pth e b' off hp
      have e1 : e ≠ b := by rintro rfl; rw [ps_box hc k1] at hb; cases hb
      simp only [] at hne
      rw [upd_ne _ _ e1, upd_ne _ _ hne]
      simp only [hne, if_false]
      exact ⟨k1, k2, k3, k4⟩
end Go.W
set_option linter.unusedSimpArgs false
set_option linter.unusedVariables false
namespace Go.W
theorem spl_get (vs : List Value) : ∀ (cs : Array Value) (off i : Nat), off + vs.length ≤ cs.size → (spl cs off vs)[i]? = if off ≤ i ∧ i < off + vs.length then vs[i - off]? else cs[i]? := by
  induction vs with
  | nil => intro cs off i _; simp only [spl, List.length_nil, Nat.add_zero]; rw [if_neg (by omega)]
  | cons v vs ih =>
    intro cs off i h
    simp only [List.length_cons] at h
    simp only [spl]
    rw [ih _ _ _ (by simp; omega)]
    simp only [List.length_cons]
    by_cases e : i = off
    · subst e
      rw [if_neg (by omega), if_pos (by omega)]
      rw [Array.getElem?_setIfInBounds_self_of_lt (by omega)]
      simp
    · rw [Array.getElem?_setIfInBounds_ne (Ne.symm e)]
      by_cases hr : off + 1 ≤ i ∧ i < off + 1 + vs.length
      · rw [if_pos hr, if_pos (by omega), show i - off = (i - (off + 1)) + 1 by omega, List.getElem?_cons_succ]
      · rw [if_neg hr, if_neg (by omega)]
theorem spl_all {cs xs : Array Value} (h : xs.size = cs.size) : spl cs 0 xs.toList = xs := by
  apply Array.ext'
  apply List.ext_getElem?
  intro i
  have := spl_get xs.toList cs 0 i (by simp; omega)
  simp only [Array.length_toList, Nat.zero_add, Nat.zero_le, true_and, Nat.sub_zero] at this
  rw [← Array.getElem?_toList] at this
  rw [this]
  split
  · rfl
  · rw [List.getElem?_eq_none (by simp; omega), Array.getElem?_eq_none (by omega)]
def nx (cx : Cx) (T0 : Nat → Bool) (wa0 : World) (k : OK → Fr → World → Prop) (fa : Fr) (wa : World) : Prop := ∃ ok f w, VRx cx T0 wa0 ok f w fa wa ∧ k ok f w
section
variable {P : Program} {cx : Cx} {pe : List (Nat × Nat × Nat)} {T0 : Nat → Bool} {wa0 : World} {ok : OK} {f : Fr} {w : World} {fa : Fr} {wa : World} {T : Nat → Bool} {B : Nat → Nat} {o : Oper} {i : VI} {k : OK → Fr → World → Prop}
theorem raw_fty {P : Program} {pe : List (Nat × Nat × Nat)} {o : Oper} {f : Fr} {w : World} {K : Value → World → Prop} (h : raw P o.op (fty pe o) f w K) : raw P o.op o.type f w K := by
  unfold fty at h
  cases hm : mayMark o.op with
  | false => rw [hm] at h; exact h
  | true =>
    generalize (mayMark o.op && _) = c at h
    cases c with
    | false => exact h
    | true =>
      obtain ⟨d, op, ty, pos, af, g⟩ := o
      cases op <;> first | (simp [mayMark] at hm; done) | exact h
theorem cOrd_spec (h : cOrd cx pe o = some i) : i = .op o.dst o.op (fty pe o) ∧ (∀ x ∈ o.op.operands, cx.ordO x = true) ∧ cx.ordD o.dst = true ∧ ∀ cs b, o.op ≠ .select cs b := by
  unfold cOrd at h
  split at h
  · rename_i hc
    simp only [Option.some.injEq] at h
    simp only [Bool.and_eq_true, Bool.not_eq_true'] at hc
    refine ⟨h.symm, Array.all_eq_true_iff_forall_mem.1 hc.1.1, hc.1.2, fun cs b e => ?_⟩
    rw [e] at hc; simp [isSel] at hc
  · simp at h
theorem cOrd_sound (h : cOrd cx pe o = some i) (hR : VR cx T0 wa0 ok f w fa wa T B) (hv : vi P i k ok f w) : raw P o.op o.type fa wa fun v wa' => nx cx T0 wa0 k (updO fa o.dst v) wa' := by
  obtain ⟨rfl, hx, hd, hs⟩ := cOrd_spec h
  simp only [vi] at hv
  have hw := hR.tw
  subst hw
  refine raw_congr hs (fun x hm => hR.ev (hx x hm)) (raw_mono ?_ (raw_fty (opV_sound hR.kp.tb hv)))
  rintro v wa' ⟨T', hk, hq⟩
  exact ⟨ok, _, _, ⟨T', B, (hR.move hk).putO hd v⟩, hq⟩
theorem load_box (hR : VR cx T0 wa0 ok f w fa wa T B) {t : TypeId} {y b off n m : Nat} {ag : Bool} {d : Option Nat} {ty : TypeId} (hd : cx.ordD d = true) (hag : agb P t = some ag) (hn : szv P t = some n) (hb : cx.bsz b = some m)
    (hy : live (f b) = true → fa y = .pointer (some ⟨B b, off, none⟩)) (hv : OB (sPart (f b) off n ag) (kv k ok f d w)) : raw P (.load t (.tmp y)) ty fa wa fun v wa' => nx cx T0 wa0 k (updO fa d v) wa' := by
  unfold OB sPart at hv
  split at hv
  · rename_i v hs
    split at hs
    · rename_i hl
      obtain ⟨h1, h2, h3, h4, ty', h5⟩ := hR.box b m hb hl
      have hload : sLoad P t (.pointer (some ⟨B b, off, none⟩)) wa = some (v, wa) := by
        rw [sLoad_p, hag, hn]
        cases ag with
        | true =>
          simp only [if_true] at hs
          simp only [Option.bind_some, if_true, rd_mk, h5]
          split at hs
          · rename_i hle
            simp only [Option.some.injEq] at hs
            rw [if_pos hle, ← hs]
            rfl
          · simp at hs
        | false =>
          simp only [Bool.false_eq_true, if_false] at hs
          simp only [Option.bind_some, Bool.false_eq_true, if_false, cell_mk, h5, hs, Option.map_some]
      refine sLoad_sound ?_
      simp only [ev_tmp, hy hl, hload, Go.W.B]
      exact ⟨ok, _, w, ⟨T, B, hR.putO hd v⟩, hv⟩
    · simp at hs
  · exact hv.elim
theorem store_box (hR : VR cx T0 wa0 ok f w fa wa T B) {t : TypeId} {y b off n m : Nat} {x : Operand} {ty : TypeId} (hx : cx.ordO x = true) (hn : szv P t = some n) (hpos : 0 < n) (hb : cx.bsz b = some m) (hl : live (f b) = true)
    (hy : fa y = .pointer (some ⟨B b, off, none⟩)) {v : Value} (hlv : live v = true) (hcs : v.cells = spl (f b).cells off (ev f x).cells.toList) (h1 : (ev f x).cells.size = n) (h2 : off + n ≤ (f b).cells.size) (h3 : (ev f x).cells.toList.all one = true)
    (hv : k ok (upd f b v) w) : raw P (.store t (.tmp y) x) ty fa wa fun v wa' => nx cx T0 wa0 k (updO fa none v) wa' := by
  obtain ⟨k1, k2, k3, k4, ty', k5⟩ := hR.box b m hb hl
  refine sStore_sound ?_
  have hev := hR.ev hx
  simp only [ev_tmp, hy, hev, sStore_p, k5]
  rw [if_pos ⟨by rw [hn, h1], trivial, by rw [h1]; exact h2, h3, by rw [h1]; exact hpos⟩]
  refine ⟨ok, _, w, ⟨T, B, ?_⟩, hv⟩
  have := hR.write hb hl hlv (by rw [hcs, spl_size]; exact k4) k5
  rw [hcs] at this
  exact this
theorem pth_of (hR : VR cx T0 wa0 ok f w fa wa T B) {e b off : Nat} (h : ok e = some (b, off)) : (∃ n, cx.bsz b = some n) ∧ live (f b) = true ∧ fa e = .pointer (some ⟨B b, off, none⟩) := (hR.pth e b off h).2
theorem vi_sound (hc : cx.ok = true) (h : cOp P cx pe o = some i) (hR : VR cx T0 wa0 ok f w fa wa T B) (hv : vi P i k ok f w) : raw P o.op o.type fa wa fun v wa' => nx cx T0 wa0 k (updO fa o.dst v) wa' := by
  unfold cOp at h
  split at h
  · rename_i t d hop hdst
    split at h
    · rename_i n hb
      split at h
      · rename_i z hz
        split at h
        · rename_i hcond
          simp only [Bool.and_eq_true, beq_iff_eq, decide_eq_true_eq] at hcond
          simp only [Option.some.injEq] at h
          subst h
          rw [hop, hdst]
          refine sAlloc_sound ?_
          simp only [sAlloc, hz, Go.W.B]
          exact ⟨_, _, _, ⟨_, _, hR.make hc hb hcond.1.1 hcond.1.2 t⟩, hv⟩
        · simp at h
      · simp at h
    · exact cOrd_sound h hR hv
  · rename_i t x d hop hdst
    split at h
    · rename_i n hb
      split at h
      · rename_i hx
        simp only [Option.some.injEq] at h
        subst h
        rw [hop, hdst]
        refine sBox_sound ?_
        simp only [sBox, Go.W.B, hR.ev hx]
        exact ⟨_, _, _, ⟨_, _, hR.make hc hb hv.1.1 hv.1.2 t⟩, hv.2⟩
      · simp at h
    · exact cOrd_sound h hR hv
  · rename_i s y k' e hop hdst
    split at h
    · rename_i he
      split at h
      · rename_i fo n0 b0 hf
        have main : ∀ (b off : Nat), fa y = .pointer (some ⟨B b, off, none⟩) → live (f b) = true → (∃ n, cx.bsz b = some n) → k (oset ok e b (off + fo)) f w → raw P o.op o.type fa wa fun v wa' => nx cx T0 wa0 k (updO fa o.dst v) wa' := by
          intro b off hy hl hb hk
          rw [hop, hdst]
          refine sFieldAddr_sound ?_
          simp only [ev_tmp, hy, sFieldAddr_p, hf, Option.map_some, Go.W.B, add_mk]
          obtain ⟨n, hb⟩ := hb
          exact ⟨_, _, _, ⟨_, _, hR.path hc he hb hl⟩, hk⟩
        split at h
        · rename_i n hb
          simp only [Option.some.injEq] at h
          subst h
          obtain ⟨hl, _, hk⟩ := hv
          exact main y 0 (hR.box y n hb hl).1 hl ⟨n, hb⟩ (by rw [Nat.zero_add]; exact hk)
        · split at h
          · rename_i b off hp
            simp only [Option.some.injEq] at h
            subst h
            obtain ⟨hl, hok, hk⟩ := hv
            obtain ⟨h1, h2, h3⟩ := pth_of hR hok
            exact main b off h3 hl h1 hk
          · simp at h
      · simp at h
    · exact cOrd_sound h hR hv
  · rename_i t y hop
    split at h
    · rename_i hV
      split at h
      · rename_i ag n hag hn
        split at h
        · rename_i hd
          split at h
          · rename_i m hb
            simp only [Option.some.injEq] at h
            subst h
            rw [hop]
            exact load_box hR hd hag hn hb (fun hl => (hR.box y m hb hl).1) hv.2
          · split at h
            · rename_i b off hp
              simp only [Option.some.injEq] at h
              subst h
              rw [hop]
              obtain ⟨h1, h2⟩ := hv
              obtain ⟨⟨m, hb⟩, hl, hy⟩ := pth_of hR h1
              exact load_box hR hd hag hn hb (fun _ => hy) h2
            · simp at h
        · simp at h
      · simp at h
    · exact cOrd_sound h hR hv
  · rename_i t y x hop hdst
    split at h
    · rename_i hV
      split at h
      · rename_i n hn
        split at h
        · rename_i hxn
          simp only [Bool.and_eq_true, decide_eq_true_eq] at hxn
          split at h
          · rename_i m hb
            split at h
            · rename_i hmn
              subst hmn
              simp only [Option.some.injEq] at h
              subst h
              obtain ⟨hl, ⟨hlx, hsz, hone⟩, hk⟩ := hv
              have h4 := (hR.box y m hb hl).2.2.2.1
              rw [hop, hdst]
              exact store_box hR hxn.1 hn hxn.2 hb hl (hR.box y m hb hl).1 hlx (by rw [spl_all (by rw [h4, hsz])]) hsz (by rw [h4]; omega) hone hk
            · simp at h
          · split at h
            · rename_i b off hp
              simp only [Option.some.injEq] at h
              subst h
              obtain ⟨h1, h2⟩ := hv
              obtain ⟨⟨m, hb⟩, hl, hy⟩ := pth_of hR h1
              rw [hop, hdst]
              unfold OB sPut at h2
              split at h2
              · rename_i v hs
                split at hs
                · rename_i cs hcs
                  split at hs
                  · rename_i hcond
                    simp only [Option.some.injEq] at hs
                    subst hs
                    exact store_box hR hxn.1 hn hxn.2 hb hl hy rfl (by rw [hcs]; rfl) hcond.1 (by rw [hcs]; exact hcond.2.1) hcond.2.2.1 h2
                  · simp at hs
                · simp at hs
              · exact h2.elim
            · simp at h
        · simp at h
      · simp at h
    · exact cOrd_sound h hR hv
  · exact cOrd_sound h hR hv
theorem VR.unbox (hc : cx.ok = true) (hR : VR cx T0 wa0 ok f w fa wa T B) {b n : Nat} (hb : cx.bsz b = some n) (u : Value) : VR cx T0 wa0 (odel ok b) (upd f b undef) w (upd fa b u) wa T B := by
  refine ⟨hR.tw, hR.kp, fun t ht => ?_, fun d m hd hl => ?_, fun d d' m m' hd hd' hl hl' e => ?_, fun e b' off he => ?_⟩
  · have : t ≠ b := by rintro rfl; rw [isV_box hb] at ht; cases ht
    rw [upd_ne _ _ this, upd_ne _ _ this]; exact hR.ord t ht
  · by_cases e : d = b
    · subst e; rw [upd_same] at hl; cases hl
    · rw [upd_ne _ _ e] at hl ⊢; rw [upd_ne _ _ e]; exact hR.box d m hd hl
  · have e1 : d ≠ b := by rintro rfl; rw [upd_same] at hl; cases hl
    have e2 : d' ≠ b := by rintro rfl; rw [upd_same] at hl'; cases hl'
    rw [upd_ne _ _ e1] at hl; rw [upd_ne _ _ e2] at hl'
    exact hR.inj d d' m m' hd hd' hl hl' e
  · simp only [odel] at he
    obtain ⟨p, hp, he⟩ := Option.bind_eq_some_iff.1 he
    split at he
    · simp at he
    · rename_i hne
      simp only [Option.some.injEq] at he
      subst he
      obtain ⟨k1, k2, k3, k4⟩ := hR.pth e b' off hp
      have e1 : e ≠ b := by rintro rfl; rw [ps_box hc k1] at hb; cases hb
      simp only [] at hne
      rw [upd_ne _ _ e1, upd_ne _ _ hne]
      exact ⟨k1, k2, k3, k4⟩
theorem VR.unpath (hc : cx.ok = true) (hR : VR cx T0 wa0 ok f w fa wa T B) {e : Nat} (he : cx.ps.contains e = true) (u : Value) : VR cx T0 wa0 (oclr ok e) f w (upd fa e u) wa T B := by
  have hne : ∀ t n, cx.bsz t = some n → t ≠ e := by rintro t n ht rfl; rw [ps_box hc he] at ht; cases ht
  refine ⟨hR.tw, hR.kp, fun t ht => ?_, fun d n hd hl => ?_, hR.inj, fun e' b' off' he' => ?_⟩
  · have : t ≠ e := by rintro rfl; rw [isV_ps he] at ht; cases ht
    rw [upd_ne _ _ this]; exact hR.ord t ht
  · rw [upd_ne _ _ (hne d n hd)]; exact hR.box d n hd hl
  · simp only [oclr] at he'
    split at he'
    · simp at he'
    · rename_i e1; rw [upd_ne _ _ e1]; exact hR.pth e' b' off' he'
theorem sk_sound (hc : cx.ok = true) (h : cOp P cx pe o = some i) (hR : VR cx T0 wa0 ok f w fa wa T B) (hv : sk i k ok f w) : nx cx T0 wa0 k (updO fa o.dst undef) wa := by
  have ord : cOrd cx pe o = some i → nx cx T0 wa0 k (updO fa o.dst undef) wa := by
    intro h
    obtain ⟨rfl, _, hd, _⟩ := cOrd_spec h
    exact ⟨_, _, _, ⟨T, B, hR.putO hd undef⟩, hv⟩
  unfold cOp at h
  split at h
  · rename_i t d hop hdst
    split at h
    · rename_i n hb
      split at h
      · split at h
        · simp only [Option.some.injEq] at h; subst h; rw [hdst]; exact ⟨_, _, _, ⟨T, B, hR.unbox hc hb undef⟩, hv⟩
        · simp at h
      · simp at h
    · exact ord h
  · rename_i t x d hop hdst
    split at h
    · rename_i n hb
      split at h
      · simp only [Option.some.injEq] at h; subst h; rw [hdst]; exact ⟨_, _, _, ⟨T, B, hR.unbox hc hb undef⟩, hv⟩
      · simp at h
    · exact ord h
  · rename_i s y k' e hop hdst
    split at h
    · rename_i he
      split at h
      · split at h
        · simp only [Option.some.injEq] at h; subst h; rw [hdst]; exact ⟨_, _, _, ⟨T, B, hR.unpath hc he undef⟩, hv⟩
        · split at h
          · simp only [Option.some.injEq] at h; subst h; rw [hdst]; exact ⟨_, _, _, ⟨T, B, hR.unpath hc he undef⟩, hv⟩
          · simp at h
      · simp at h
    · exact ord h
  · rename_i t y hop
    split at h
    · split at h
      · split at h
        · rename_i hd
          split at h
          · simp only [Option.some.injEq] at h; subst h; exact ⟨_, _, _, ⟨T, B, hR.putO hd undef⟩, hv⟩
          · split at h
            · simp only [Option.some.injEq] at h; subst h; exact ⟨_, _, _, ⟨T, B, hR.putO hd undef⟩, hv⟩
            · simp at h
        · simp at h
      · simp at h
    · exact ord h
  · rename_i t y x hop hdst
    split at h
    · split at h
      · split at h
        · split at h
          · split at h
            · simp only [Option.some.injEq] at h; subst h; rw [hdst]; exact ⟨_, _, _, ⟨T, B, hR⟩, hv⟩
            · simp at h
          · split at h
            · simp only [Option.some.injEq] at h; subst h; rw [hdst]; exact ⟨_, _, _, ⟨T, B, hR⟩, hv⟩
            · simp at h
        · simp at h
      · simp at h
    · exact ord h
  · exact ord h
end
/-! ### a run of operations -/
def cGuard (cx : Cx) (all : List Oper) (g : Option (Nat × Bool)) : Option (Option (Nat × Bool)) :=
  match g with
  | none => some none
  | some (j, want) => match all[j]? with
    | some o => match o.dst with
      | some t => if cx.isV t then none else some (some (t, want))
      | none => none
    | none => none
def cOne (P : Program) (cx : Cx) (pe : List (Nat × Nat × Nat)) (all : List Oper) (o : Oper) : Option VO :=
  match cGuard cx all o.guard, cOp P cx pe o with
  | some g, some i => some ⟨g, i⟩
  | _, _ => none
def cList (P : Program) (cx : Cx) (pe : List (Nat × Nat × Nat)) (all : List Oper) : List Oper → Option (List VO)
  | [] => some []
  | o :: l => match cOne P cx pe all o, cList P cx pe all l with
    | some v, some vl => some (v :: vl)
    | _, _ => none
theorem gv_dst (f : Fr) : ∀ (all : List Oper) (j : Nat) (o : Oper) (t : Nat), all[j]? = some o → o.dst = some t → gv f all j = f t
  | [], j, o, t, h, _ => by simp at h
  | x :: l, 0, o, t, h, hd => by simp only [List.getElem?_cons_zero, Option.some.injEq] at h; subst h; simp [gv, hd]
  | x :: l, j + 1, o, t, h, hd => by simpa [gv] using gv_dst f l j o t (by simpa using h) hd
def inV (cx : Cx) (T0 : Nat → Bool) (wa0 : World) (K : Fr → World → Prop) (fa : Fr) (wa : World) : Prop := ∃ f w, VRx cx T0 wa0 ok0 f w fa wa ∧ K f w
/-- one operation, guarded or not -/
theorem one_sound {P : Program} {n : Nat} {cx : Cx} {pe : List (Nat × Nat × Nat)} {T0 : Nat → Bool} {wa0 : World} {all : List Oper} {Q : Exit → Act → World → Prop} (hc : cx.ok = true) (hall : ∀ o ∈ all, operFits n o = true) {o : Oper} {v : VO} (ho : operFits n o = true) (h : cOne P cx pe all o = some v)
    {ok : OK} {f : Fr} {w : World} {fa : Fr} {a : Act} {wa : World} (hF : FRel n fa a) (hR : VRx cx T0 wa0 ok f w fa wa) {k : OK → Fr → World → Prop} {Kc : Act → World → Prop}
    (hv : match v.g with | none => vi P v.i k ok f w | some (t, want) => G (f t) want (vi P v.i k ok f w) (sk v.i k ok f w)) (hK : ∀ fa a wa, FRel n fa a → nx cx T0 wa0 k fa wa → Kc a wa) :
    if Region.wanted o (yielded all.toArray a.tmps) then o.wp P a wa Kc Q else Kc (a.put o.dst undef) wa := by
  unfold cOne at h
  split at h
  · rename_i g i hg hi
    simp only [Option.some.injEq] at h
    subst h
    obtain ⟨T, B, hR⟩ := hR
    obtain ⟨_, _, hd⟩ := operFits_spec ho
    have main : vi P i k ok f w → o.wp P a wa Kc Q := fun hv => raw_sound hF ho (vi_sound hc hi hR hv) fun v w' hx => hK _ _ _ (hF.put hd v) hx
    have skip : sk i k ok f w → Kc (a.put o.dst undef) wa := fun hv => hK _ _ _ (hF.put hd undef) (sk_sound hc hi hR hv)
    unfold cGuard at hg
    split at hg
    · rename_i hog
      simp only [Option.some.injEq] at hg
      subst hg
      rw [if_pos (by simp [Region.wanted, hog])]
      exact main hv
    · rename_i j want hog
      split at hg
      · rename_i o' ho'
        split at hg
        · rename_i t ht
          split at hg
          · simp at hg
          · rename_i hV
            simp only [Option.some.injEq] at hg
            subst hg
            simp only [] at hv
            have hy := gv_spec hF all j hall
            have hgv : gv fa all j = f t := by rw [gv_dst fa all j o' t ho' ht]; exact hR.ord t (by simpa using hV)
            unfold G at hv
            split at hv
            · rename_i b hb
              have hyb : yielded all.toArray a.tmps j = some b := (hy b).2 (hgv.trans hb)
              by_cases hbw : b = want
              · rw [if_pos (by simp [Region.wanted, hog, hyb, hbw])]; exact main (hv.1 hbw)
              · rw [if_neg (by simp [Region.wanted, hog, hyb, hbw])]; exact skip (hv.2 hbw)
            · rename_i hne
              rw [if_neg (by
                simp only [Region.wanted, hog, beq_iff_eq]
                intro e
                exact hne _ (hgv.symm.trans ((hy want).1 e)))]
              exact skip hv
        · simp at hg
      · simp at hg
  · simp at h
theorem Y_cons (P : Program) (v : VO) (l : List VO) (K : Fr → World → Prop) (ok : OK) (f : Fr) (w : World) :
    Y P (v :: l) K ok f w = match v.g with | none => vi P v.i (Y P l K) ok f w | some (t, want) => G (f t) want (vi P v.i (Y P l K) ok f w) (sk v.i (Y P l K) ok f w) := by
  obtain ⟨g, i⟩ := v
  cases g with
  | none => rfl
  | some p => rfl
theorem Y_sound {P : Program} {n : Nat} {cx : Cx} {pe : List (Nat × Nat × Nat)} {T0 : Nat → Bool} {wa0 : World} {all : List Oper} {Q : Exit → Act → World → Prop} {K : Fr → World → Prop} (hc : cx.ok = true) (hall : ∀ o ∈ all, operFits n o = true)
    (hQ : ∀ fa a wa, FRel n fa a → inV cx T0 wa0 K fa wa → Q .normal a wa) : ∀ (l : List Oper) (vl : List VO), cList P cx pe all l = some vl → (∀ o ∈ l, operFits n o = true) → ∀ (ok : OK) (f : Fr) (w : World) (fa : Fr) (a : Act) (wa : World), FRel n fa a → VRx cx T0 wa0 ok f w fa wa →
      Y P vl K ok f w → wpList P all.toArray Q l a wa := by
  intro l
  induction l with
  | nil =>
    intro vl h _ ok f w fa a wa hF hR hY
    simp only [cList, Option.some.injEq] at h
    subst h
    obtain ⟨T, B, hR⟩ := hR
    exact hQ fa a wa hF ⟨f, w, ⟨T, B, hR.clear⟩, hY⟩
  | cons o rest ih =>
    intro vl h hl ok f w fa a wa hF hR hY
    simp only [cList] at h
    split at h
    · rename_i v vl' hv hvl
      simp only [Option.some.injEq] at h
      subst h
      rw [Y_cons] at hY
      refine wpList_step fun Kc hKc => ?_
      exact one_sound hc hall (hl o (by simp)) hv hF hR hY fun fa a wa hF' ⟨ok', f', w', hR', hk⟩ => hKc _ _ (ih vl' hvl (fun o h => hl o (by simp [h])) ok' f' w' fa a wa hF' hR' hk)
    · simp at h
end Go.W
set_option linter.unusedSimpArgs false
set_option linter.unusedVariables false
namespace Go.W
theorem opV_bin_of {P : Program} {o : BinOp} {t t' ty : TypeId} {x y : Operand} {f : Fr} {w : World} {K : Value → World → Prop} (hB : B (sBin P o t (ev f x) (ev f y) w) K) : opV P (.binOp o t x y t') ty f w K := by
  show (if ty = 999999 then rawV P (.binOp o t x y t') ty f w K else B (sBin P o t (ev f x) (ev f y) w) K)
  split
  · exact fun T wa hw hT => sBin_sound (B_up (Tr_rdW P (.binOp o t x y t') f) hT (by subst hw; exact hB))
  · exact hB
theorem rdW_opV {P : Program} {op : Op} {ty : TypeId} {f : Fr} {w w' : World} {v : Value} {K : Value → World → Prop} (h : rdW P op f w = some (v, w')) (hk : K v w') : opV P op ty f w K := by
  unfold rdW at h
  split at h
  all_goals first
    | (simp only [Option.some.injEq, Prod.mk.injEq] at h; obtain ⟨rfl, rfl⟩ := h; exact hk)
    | (show B _ K; rw [h]; exact hk)
    | (refine opV_bin_of ?_; rw [h]; exact hk)
    | skip
  · rename_i b as ts
    split at h
    · rename_i x t h1 h2
      obtain rfl : as = #[x] := by apply Array.ext'; simpa using h1
      obtain rfl : ts = #[t] := by apply Array.ext'; simpa using h2
      show B _ K; rw [h]; exact hk
    · rename_i x y h1
      obtain rfl : as = #[x, y] := by apply Array.ext'; simpa using h1
      show B _ K; rw [h]; exact hk
    · rename_i x y h1
      obtain rfl : as = #[x, y] := by apply Array.ext'; simpa using h1
      show B _ K; rw [h]; exact hk
    · simp at h
  · simp at h
theorem callV_mono {P : Program} {c : Call} {ty : TypeId} {f : Fr} {w : World} {K K' : Value → World → Prop} (hm : ∀ v w, K v w → K' v w) (h : callV P c ty f w K) : callV P c ty f w K' := by
  rcases c with ⟨callee, as, ts⟩
  cases callee with
  | builtin b =>
    cases b
    case len =>
      simp only [callV] at h ⊢
      generalize has : as.toList = la at h ⊢
      generalize hts : ts.toList = lt at h ⊢
      rcases la with _ | ⟨x, _ | ⟨y, r⟩⟩ <;> rcases lt with _ | ⟨t, _ | ⟨u, r'⟩⟩ <;> first | exact B_mono hm h | exact rawV_mono hm h
    case max =>
      simp only [callV] at h ⊢
      generalize has : as.toList = la at h ⊢
      rcases la with _ | ⟨x, _ | ⟨y, _ | ⟨z, r⟩⟩⟩ <;> first | exact B_mono hm h | exact rawV_mono hm h
    case min =>
      simp only [callV] at h ⊢
      generalize has : as.toList = la at h ⊢
      rcases la with _ | ⟨x, _ | ⟨y, _ | ⟨z, r⟩⟩⟩ <;> first | exact B_mono hm h | exact rawV_mono hm h
    all_goals exact rawV_mono hm h
  | value f0 => cases f0 <;> first | exact VRet.mono h hm | exact rawV_mono hm h
  | invoke a b => exact rawV_mono hm h
theorem opV_mono {P : Program} {op : Op} {ty : TypeId} {f : Fr} {w : World} {K K' : Value → World → Prop} (hm : ∀ v w, K v w → K' v w) (h : opV P op ty f w K) : opV P op ty f w K' := by
  cases op
  case unOp o t x => cases o <;> simp only [opV] at h ⊢ <;> first | exact B_mono hm h | exact rawV_mono hm h
  case makeMap t r => cases r <;> simp only [opV] at h ⊢ <;> first | exact B_mono hm h | exact rawV_mono hm h
  case slice t x lo hi mx => cases mx <;> simp only [opV] at h ⊢ <;> first | exact B_mono hm h | exact rawV_mono hm h
  case call c => exact callV_mono hm h
  case move x => exact hm _ _ h
  case assign x => exact hm _ _ h
  case buildSlice t n ps => exact ⟨h.1, B_mono hm h.2⟩
  case binOp o t x y t' =>
    simp only [opV] at h ⊢
    split at h
    · rename_i e; rw [if_pos e]; exact rawV_mono hm h
    · rename_i e; rw [if_neg e]; exact B_mono hm h
  all_goals (simp only [opV] at h ⊢; first | exact B_mono hm h | exact rawV_mono hm h)
/-! ### what is read -/
def oslot : Operand → List Nat
  | .tmp t => [t]
  | _ => []
def oslots (o : Op) : List Nat := o.operands.toList.flatMap oslot
def sameOn (l : List Nat) (f g : Fr) : Prop := ∀ t ∈ l, f t = g t
theorem ev_on {f g : Fr} {x : Operand} (h : sameOn (oslot x) f g) : ev f x = ev g x := by
  cases x with
  | tmp t => exact h t (by simp [oslot])
  | _ => rfl
theorem evs_on {f g : Fr} {o : Op} (h : sameOn (oslots o) f g) : ∀ x ∈ o.operands, ev f x = ev g x := by
  intro x hx
  refine ev_on fun t ht => h t ?_
  exact List.mem_flatMap.2 ⟨x, by simpa using hx, ht⟩
theorem rdW_congr {P : Program} {op : Op} {f g : Fr} {w : World} (h : ∀ x ∈ op.operands, ev f x = ev g x) : rdW P op f w = rdW P op g w := by
  unfold rdW
  split <;> (try rfl)
  all_goals try (simp only [Op.operands, List.mem_toArray, List.mem_cons, List.not_mem_nil, or_false, forall_eq_or_imp, forall_eq] at h)
  all_goals try (simp only [h]; done)
  · rename_i t ps
    congr 1
    apply List.map_congr_left
    intro p hp
    have := h p.2 (by simp only [Op.operands, List.mem_toArray, List.mem_map]; exact ⟨p, hp, rfl⟩)
    rw [this]
  · rename_i t x lo hi
    have h1 := h x (by simp [Op.operands])
    have h2 : lo.map (ev f) = lo.map (ev g) := by
      cases lo with
      | none => rfl
      | some l => simp only [Option.map_some]; rw [h l (by simp [Op.operands])]
    have h3 : hi.map (ev f) = hi.map (ev g) := by
      cases hi with
      | none => rfl
      | some l => simp only [Option.map_some]; rw [h l (by simp [Op.operands])]
    rw [h1, h2, h3]
  · rename_i b as ts
    have h' : ∀ x ∈ as.toList, ev f x = ev g x := fun x hx => h x (by simp only [Op.operands, Call.operands, Array.mem_append]; right; simpa using hx)
    generalize as.toList = la at *
    generalize ts.toList = lt at *
    split
    · rw [h' _ (by simp)]
    · rw [h' _ (by simp), h' _ (by simp)]
    · rw [h' _ (by simp), h' _ (by simp)]
    · rfl
theorem opV_congr {P : Program} {op : Op} {ty : TypeId} {f g : Fr} {w : World} {K : Value → World → Prop} (hs : isSel op = false) (h : ∀ x ∈ op.operands, ev f x = ev g x) (hv : opV P op ty f w K) : opV P op ty g w K := by
  have hsel : ∀ cs b, op ≠ .select cs b := by rintro cs b rfl; simp [isSel] at hs
  have hraw : rawV P op ty f w K → rawV P op ty g w K := fun hr T wa h1 h2 => raw_congr hsel (fun x hx => (h x hx).symm) (hr T wa h1 h2)
  have hrd : ∀ w, rdW P op f w = rdW P op g w := fun w => rdW_congr h
  unfold opV at hv ⊢
  split at hv
  case h_11 o t x y t' =>
    have h1 := hrd w
    simp only [rdW] at h1
    split at hv
    · rename_i e; simp only [if_pos e]; exact hraw hv
    · rename_i e; simp only [if_neg e]; rw [← h1]; exact hv
  all_goals try (have h1 := hrd w; simp only [rdW] at h1; first | (rw [← h1]; exact hv) | skip; done)
  · simp only [Op.operands, List.mem_toArray, List.mem_cons, List.not_mem_nil, or_false, forall_eq] at h; rw [← h]; exact hv
  · simp only [Op.operands, List.mem_toArray, List.mem_cons, List.not_mem_nil, or_false, forall_eq] at h; rw [← h]; exact hv
  · exact hv
  · simp only [Op.operands, List.mem_toArray, List.mem_cons, List.not_mem_nil, or_false, forall_eq] at h; rw [← h]; exact hv
  · rename_i t n ps
    have : (ps.toList.map fun p => (p.1, ev g p.2)) = ps.toList.map fun p => (p.1, ev f p.2) := by
      apply List.map_congr_left
      intro p hp
      rw [h p.2 (by simp only [Op.operands, List.mem_toArray, List.mem_map]; exact ⟨p, hp, rfl⟩)]
    rw [this]; exact hv
  · simp only [Op.operands, List.mem_toArray, List.mem_cons, List.not_mem_nil, or_false, forall_eq_or_imp, forall_eq] at h; rw [← h.1, ← h.2]; exact hv
  · exact hv
  · simp only [Op.operands, List.mem_toArray, List.mem_cons, List.not_mem_nil, or_false, forall_eq_or_imp, forall_eq] at h; rw [← h.1, ← h.2]; exact hv
  · rename_i c
    rcases c with ⟨callee, as, ts⟩
    have h' : ∀ x ∈ as, ev f x = ev g x := fun x hx => h x (by simp only [Op.operands, Call.operands, Array.mem_append]; right; exact hx)
    have hmap : as.map (ev g) = as.map (ev f) := Array.map_congr_left fun x hx => (h' x hx).symm
    cases callee with
    | builtin b =>
      have h'' : ∀ x ∈ as.toList, ev f x = ev g x := fun x hx => h' x (by simpa using hx)
      cases b
      case len =>
        simp only [callV] at hv ⊢
        generalize as.toList = la at *
        generalize ts.toList = lt at *
        rcases la with _ | ⟨x, _ | ⟨y, r⟩⟩ <;> rcases lt with _ | ⟨t, _ | ⟨u, r'⟩⟩ <;> first | exact hraw hv | (simp only [] at hv ⊢; rw [← h'' x (by simp)]; exact hv)
      case max =>
        simp only [callV] at hv ⊢
        generalize as.toList = la at *
        rcases la with _ | ⟨x, _ | ⟨y, _ | ⟨z, r⟩⟩⟩ <;> first | exact hraw hv | (simp only [] at hv ⊢; rw [← h'' x (by simp), ← h'' y (by simp)]; exact hv)
      case min =>
        simp only [callV] at hv ⊢
        generalize as.toList = la at *
        rcases la with _ | ⟨x, _ | ⟨y, _ | ⟨z, r⟩⟩⟩ <;> first | exact hraw hv | (simp only [] at hv ⊢; rw [← h'' x (by simp), ← h'' y (by simp)]; exact hv)
      all_goals exact hraw hv
    | value f0 =>
      cases f0
      case func k => simp only [callV] at hv ⊢; rw [hmap]; exact hv
      all_goals exact hraw hv
    | invoke a b => exact hraw hv
  · exact hraw hv
/-- it hands something back -/
theorem opV_ex {P : Program} {op : Op} {ty : TypeId} {f : Fr} {w : World} {K : Value → World → Prop} (h : opV P op ty f w K) : ∃ v w', K v w' := by
  have h1 := opV_sound (T := fun _ => false) (wa := w) (fun _ _ => rfl) (by rw [tombW_none]; exact h)
  unfold raw at h1
  generalize (execOp (ev f) ⟨none, op, ty, "", #[], none⟩).run P w = r at h1
  cases r with
  | halt x w' => cases x <;> simp [upon] at h1
  | ok nx w' =>
    cases nx with
    | value v => obtain ⟨T', _, hk⟩ := h1; exact ⟨_, _, hk⟩
    | skip => obtain ⟨T', _, hk⟩ := h1; exact ⟨_, _, hk⟩
    | enter g args => obtain ⟨e, w'', fr, ⟨v, _, T', _, hk⟩, _⟩ := h1 []; exact ⟨_, _, hk⟩
    | _ => simp [upon] at h1
end Go.W
set_option linter.unusedSimpArgs false
set_option linter.unusedVariables false
namespace Go.W
abbrev Psi := Nat → List Value → Value → World → Prop
abbrev Fact := Nat → World → Prop
def F0 : Fact := fun _ _ => True
def updF (F : Fact) (n : Nat) (φ : World → Prop) : Fact := fun m => if m = n then φ else F m
def FA (F : Fact) (w : World) : Prop := ∀ n, F n w
def FD (F : Fact) (deps : List Nat) (w : World) : Prop := ∀ n ∈ deps, F n w
/-- it lasts -/
def St (φ : World → Prop) : Prop := ∀ w w', φ w → Ext w w' → φ w'
structure DI where
  n : Nat
  deps : List Nat
  g : Option (Nat × Bool)
  i : VI
inductive Eff where
  | slot (d : Option Nat) (v : Value)
  | tok (e b off : Nat)
  | untok (e : Nat)
  | newb (b : Nat) (v : Value)
def ap : Eff → OK × Fr → OK × Fr
  | .slot d v, s => (s.1, updO s.2 d v)
  | .tok e b off, s => (oset s.1 e b off, s.2)
  | .untok e, s => (oclr s.1 e, s.2)
  | .newb b v, s => (odel s.1 b, upd s.2 b v)
def vvia (ok : OK) (via : Option (Nat × Nat)) (b : Nat) : Prop := match via with | none => True | some (y, o) => ok y = some (b, o)
instance (ok : OK) (via : Option (Nat × Nat)) (b : Nat) : Decidable (vvia ok via b) := by unfold vvia; split <;> exact inferInstance
instance (ok : OK) (via : Option Nat) (b off : Nat) : Decidable (vok ok via b off) := by unfold vok; split <;> exact inferInstance
def ef (P : Program) (w1 : World) (i : VI) (s : OK × Fr) : Option Eff :=
  match i with
  | .op d o _ => (rdW P o s.2 w1).map fun p => .slot d p.1
  | .path e b off via => if live (s.2 b) = true ∧ vvia s.1 via b then some (.tok e b off) else none
  | .part d via b off n ag => if vok s.1 via b off then (sPart (s.2 b) off n ag).map (.slot d ·) else none
  | .put via b off n x => if s.1 via = some (b, off) then (sPut (s.2 b) off n (ev s.2 x)).map (.slot (some b) ·) else none
  | .set b n x => if live (s.2 b) = true ∧ live (ev s.2 x) = true ∧ (ev s.2 x).cells.size = n ∧ (ev s.2 x).cells.toList.all one = true then some (.slot (some b) (ev s.2 x)) else none
  | .new b z => some (.newb b z)
  | .box b n x => if live (ev s.2 x) = true ∧ (ev s.2 x).cells.size = n then some (.newb b (ev s.2 x)) else none
def es : VI → Eff
  | .op d _ _ | .part d _ _ _ _ _ => .slot d undef
  | .path e _ _ _ => .untok e
  | .put .. | .set .. => .slot none undef
  | .new b _ | .box b _ _ => .newb b undef
def lightOp : Op → Bool
  | .move _ | .assign _ | .pick .. | .build .. | .load .. | .nilCheck _ | .binOp .. | .convert .. | .fieldAddr .. | .field .. | .indexAddr .. | .extract .. | .unOp .not _ _ | .slice _ _ _ _ none => true
  | .call ⟨.builtin .len, _, _⟩ | .call ⟨.builtin .max, _, _⟩ | .call ⟨.builtin .min, _, _⟩ => true
  | _ => false
def isL : VI → Bool
  | .op _ (.load _ _) ty => ty != 999999
  | .op _ o _ => lightOp o
  | _ => true
def wants (g : Option (Nat × Bool)) (f : Fr) : Bool :=
  match g with
  | none => true
  | some (t, want) => match f t with | .bool b => b == want | _ => false
def args (p : Op) (f : Fr) : List Value := p.operands.toList.map (ev f)
def kE (k : Fact → OK × Fr → Prop) (F : Fact) (s : OK × Fr) (r : Option Eff) : Prop := match r with | some E => k F (ap E s) | none => False
def PhY (P : Program) (w1 : World) (Ps : Psi) (o : DI) (k : Fact → OK × Fr → Prop) (F : Fact) (s : OK × Fr) : Prop :=
  match o.i with
  | .op d p ty => isSel p = false ∧ (∀ v, St (Ps o.n (args p s.2) v)) ∧ (∀ w', Ext w1 w' → FD F o.deps w' → opV P p ty s.2 w' fun v w'' => Ext w' w'' ∧ Ps o.n (args p s.2) v w'') ∧
      ∀ v, (∃ w', Ext w1 w' ∧ FA F w' ∧ Ps o.n (args p s.2) v w') → k (updF F o.n (Ps o.n (args p s.2) v)) (s.1, updO s.2 d v)
  | _ => False
def stepY (P : Program) (w1 : World) (Ps : Psi) (o : DI) (k : Fact → OK × Fr → Prop) (F : Fact) (s : OK × Fr) : Prop :=
  if wants o.g s.2 = true then (if isL o.i = true then kE k F s (ef P w1 o.i s) else PhY P w1 Ps o k F s) else k F (ap (es o.i) s)
def YD (P : Program) (w1 : World) (Ps : Psi) (K : OK → Fr → World → Prop) : List DI → Fact → OK × Fr → Prop
  | [], F, s => ∀ w', Ext w1 w' → FA F w' → K s.1 s.2 w'
  | o :: l, F, s => stepY P w1 Ps o (YD P w1 Ps K l) F s
/-! ### what is read and written -/
def rdS : VI → List Nat
  | .op _ o _ => oslots o
  | .path _ b _ none => [b]
  | .path _ b _ (some (y, _)) => [b, y]
  | .part _ none b _ _ _ => [b]
  | .part _ (some y) b _ _ _ => [b, y]
  | .put via b _ _ x => via :: b :: oslot x
  | .set b _ x => b :: oslot x
  | .new _ _ => []
  | .box _ _ x => oslot x
def dl : Option Nat → List Nat
  | some d => [d]
  | none => []
def wrS : VI → List Nat
  | .op d _ _ | .part d _ _ _ _ _ => dl d
  | .path e _ _ _ => [e]
  | .put _ b _ _ _ | .set b _ _ | .new b _ | .box b _ _ => [b]
def gS : Option (Nat × Bool) → List Nat
  | some (t, _) => [t]
  | none => []
def disj (a b : List Nat) : Bool := a.all fun t => !b.contains t
def apart (o p : DI) : Bool := disj (wrS o.i) (rdS p.i ++ gS p.g ++ wrS p.i) && disj (wrS p.i) (rdS o.i ++ gS o.g)
def tgt : Eff → Option Nat
  | .slot d _ => d
  | .tok e _ _ | .untok e => some e
  | .newb b _ => some b
/-- the effect does not touch what o reads -/
def Far (E : Eff) (o : DI) : Prop := ∀ t, tgt E = some t → t ∉ rdS o.i ∧ t ∉ gS o.g
theorem updO_far {f : Fr} {d : Option Nat} {v : Value} {l : List Nat} (h : ∀ t, d = some t → t ∉ l) : sameOn l (updO f d v) f := by
  intro t ht
  cases d with
  | none => rfl
  | some d => simp only [updO]; rw [upd_ne]; rintro rfl; exact h t rfl ht
theorem ap_fr {E : Eff} {s : OK × Fr} {l : List Nat} (h : ∀ t, tgt E = some t → t ∉ l) : sameOn l (ap E s).2 s.2 := by
  cases E with
  | slot d v => exact updO_far h
  | tok e b off => intro t _; rfl
  | untok e => intro t _; rfl
  | newb b v => exact updO_far (d := some b) h
theorem ap_ok {E : Eff} {s : OK × Fr} {e b off : Nat} (h1 : tgt E ≠ some e) (h2 : tgt E ≠ some b) : ((ap E s).1 e = some (b, off)) = (s.1 e = some (b, off)) := by
  cases E with
  | slot d v => rfl
  | tok e' b' off' => simp only [ap, oset, tgt, ne_eq, Option.some.injEq] at h1 ⊢; rw [if_neg (fun x => h1 x.symm)]
  | untok e' => simp only [ap, oclr, tgt, ne_eq, Option.some.injEq] at h1 ⊢; rw [if_neg (fun x => h1 x.symm)]
  | newb b' v =>
    simp only [ap, odel, tgt, ne_eq, Option.some.injEq] at h2 ⊢
    cases hs : s.1 e with
    | none => simp
    | some p =>
      obtain ⟨c, d⟩ := p
      simp only [Option.bind_some]
      split
      · rename_i hc; simp only [reduceCtorEq, Option.some.injEq, Prod.mk.injEq]; refine (eq_false ?_).symm; rintro ⟨rfl, _⟩; exact h2 hc.symm
      · rfl
theorem far_ne {E : Eff} {l : List Nat} (h : ∀ t, tgt E = some t → t ∉ l) {e : Nat} (he : e ∈ l) : tgt E ≠ some e := fun hx => h e hx he
theorem ef_ap {P : Program} {w1 : World} {E : Eff} {i : VI} {s : OK × Fr} (h : ∀ t, tgt E = some t → t ∉ rdS i) : ef P w1 i (ap E s) = ef P w1 i s := by
  have hf : sameOn (rdS i) (ap E s).2 s.2 := ap_fr h
  cases i with
  | op d o ty => simp only [ef]; rw [rdW_congr (evs_on hf)]
  | path e b off via =>
    have h2 : vvia (ap E s).1 via b = vvia s.1 via b := by
      cases via with
      | none => rfl
      | some p => exact ap_ok (far_ne h (by simp [rdS])) (far_ne h (by simp [rdS]))
    have h1 : (ap E s).2 b = s.2 b := hf b (by cases via <;> simp [rdS])
    simp only [ef, h1, h2]
  | part d via b off n ag =>
    have h2 : vok (ap E s).1 via b off = vok s.1 via b off := by
      cases via with
      | none => rfl
      | some p => exact ap_ok (far_ne h (by simp [rdS])) (far_ne h (by simp [rdS]))
    have h1 : (ap E s).2 b = s.2 b := hf b (by cases via <;> simp [rdS])
    simp only [ef, h1, h2]
  | put via b off n x =>
    have h2 : ((ap E s).1 via = some (b, off)) = (s.1 via = some (b, off)) := ap_ok (far_ne h (by simp [rdS])) (far_ne h (by simp [rdS]))
    have h1 : (ap E s).2 b = s.2 b := hf b (by simp [rdS])
    have h3 : ev (ap E s).2 x = ev s.2 x := ev_on fun t ht => hf t (by simp [rdS, ht])
    simp only [ef, h1, h2, h3]
  | set b n x =>
    have h1 : (ap E s).2 b = s.2 b := hf b (by simp [rdS])
    have h3 : ev (ap E s).2 x = ev s.2 x := ev_on fun t ht => hf t (by simp [rdS, ht])
    simp only [ef, h1, h3]
  | new b z => rfl
  | box b n x =>
    have h3 : ev (ap E s).2 x = ev s.2 x := ev_on fun t ht => hf t (by simp [rdS, ht])
    simp only [ef, h3]
theorem wants_on {g : Option (Nat × Bool)} {f f' : Fr} (h : sameOn (gS g) f f') : wants g f = wants g f' := by
  cases g with
  | none => rfl
  | some p => obtain ⟨t, want⟩ := p; simp only [wants]; rw [h t (by simp [gS])]
theorem tgt_ef {P : Program} {w1 : World} {i : VI} {s : OK × Fr} {E : Eff} (h : ef P w1 i s = some E) {t : Nat} (ht : tgt E = some t) : t ∈ wrS i := by
  cases i <;> simp only [ef] at h
  case op d o ty => obtain ⟨p, _, rfl⟩ := Option.map_eq_some_iff.1 h; simp only [tgt] at ht; subst ht; simp [wrS, dl]
  case path e b off via => split at h <;> simp only [Option.some.injEq, reduceCtorEq] at h; subst h; simp only [tgt, Option.some.injEq] at ht; simp [wrS, ht]
  case part d via b off n ag =>
    split at h
    · obtain ⟨p, _, rfl⟩ := Option.map_eq_some_iff.1 h; simp only [tgt] at ht; subst ht; simp [wrS, dl]
    · simp at h
  case put via b off n x =>
    split at h
    · obtain ⟨p, _, rfl⟩ := Option.map_eq_some_iff.1 h; simp only [tgt, Option.some.injEq] at ht; subst ht; simp [wrS]
    · simp at h
  case set b n x => split at h <;> simp only [Option.some.injEq, reduceCtorEq] at h; subst h; simp only [tgt, Option.some.injEq] at ht; simp [wrS, ht]
  case new b z => simp only [Option.some.injEq] at h; subst h; simp only [tgt, Option.some.injEq] at ht; simp [wrS, ht]
  case box b n x => split at h <;> simp only [Option.some.injEq, reduceCtorEq] at h; subst h; simp only [tgt, Option.some.injEq] at ht; simp [wrS, ht]
theorem tgt_es {i : VI} {t : Nat} (ht : tgt (es i) = some t) : t ∈ wrS i := by
  cases i <;> simp only [es, tgt, Option.some.injEq, reduceCtorEq] at ht <;> simp [wrS, dl, ht]
theorem tok_ef {P : Program} {w1 : World} {i : VI} {s : OK × Fr} {e b off : Nat} (h : ef P w1 i s = some (.tok e b off)) : b ∈ rdS i := by
  cases i <;> simp only [ef] at h
  case op d o ty => obtain ⟨p, _, h⟩ := Option.map_eq_some_iff.1 h; cases h
  case path e b off via => split at h <;> simp only [Option.some.injEq, reduceCtorEq, Eff.tok.injEq] at h; obtain ⟨rfl, rfl, rfl⟩ := h; cases via <;> simp [rdS]
  case part d via b off n ag =>
    split at h
    · obtain ⟨p, _, h⟩ := Option.map_eq_some_iff.1 h; cases h
    · simp at h
  case put via b off n x =>
    split at h
    · obtain ⟨p, _, h⟩ := Option.map_eq_some_iff.1 h; cases h
    · simp at h
  case set b n x => split at h <;> simp only [Option.some.injEq, reduceCtorEq] at h
  case new b z => simp only [Option.some.injEq, reduceCtorEq] at h
  case box b n x => split at h <;> simp only [Option.some.injEq, reduceCtorEq] at h
theorem updO_comm {f : Fr} {d e : Option Nat} {u v : Value} (h : ∀ t, d = some t → e ≠ some t) : updO (updO f d u) e v = updO (updO f e v) d u := by
  cases d with
  | none => rfl
  | some d =>
    cases e with
    | none => rfl
    | some e =>
      have hne : d ≠ e := by rintro rfl; exact h d rfl rfl
      funext t
      simp only [updO, upd]
      by_cases h1 : t = e <;> by_cases h2 : t = d
      · exact (hne (h2.symm.trans h1)).elim
      · simp [h1, h2]; intro h3; exact (hne h3.symm).elim
      · simp [h1, h2]; intro h3; exact (hne h3).elim
      · simp [h1, h2]
/-- two effects that are apart -/
theorem ap_comm {E E' : Eff} {s : OK × Fr} (h : ∀ t, tgt E = some t → tgt E' ≠ some t) (h1 : ∀ e b off, E = .tok e b off → tgt E' ≠ some b) (h2 : ∀ e b off, E' = .tok e b off → tgt E ≠ some b) : ap E (ap E' s) = ap E' (ap E s) := by
  cases E <;> cases E' <;> simp only [ap, Prod.mk.injEq, true_and, and_true]
  case slot.slot d v d' v' => exact updO_comm fun t ht => fun hd => h t hd ht
  case slot.newb d v b u => exact updO_comm (e := d) (d := some b) fun t ht => fun hd => h t hd ht
  case newb.slot b u d v => exact updO_comm (e := some b) (d := d) fun t ht => fun hd => h t hd ht
  case tok.tok e b off e' b' off' =>
    have hne : e ≠ e' := by rintro rfl; exact h e rfl rfl
    funext t; simp only [oset]; by_cases q1 : t = e <;> by_cases q2 : t = e' <;> simp [q1, q2] <;> (intro q3; first | exact (hne q3).elim | exact (hne q3.symm).elim | exact (hne (q1.symm.trans q2)).elim)
  case tok.untok e b off e' =>
    have hne : e ≠ e' := by rintro rfl; exact h e rfl rfl
    funext t; simp only [oset, oclr]; by_cases q1 : t = e <;> by_cases q2 : t = e' <;> simp [q1, q2] <;> (intro q3; first | exact (hne q3).elim | exact (hne q3.symm).elim | exact (hne (q1.symm.trans q2)).elim)
  case untok.tok e e' b off =>
    have hne : e ≠ e' := by rintro rfl; exact h e rfl rfl
    funext t; simp only [oset, oclr]; by_cases q1 : t = e <;> by_cases q2 : t = e' <;> simp [q1, q2] <;> (intro q3; first | exact (hne q3).elim | exact (hne q3.symm).elim | exact (hne (q1.symm.trans q2)).elim)
  case untok.untok e e' =>
    funext t; simp only [oclr]; by_cases q1 : t = e <;> by_cases q2 : t = e' <;> simp [q1, q2]
  case tok.newb e b off b' v =>
    have hne : ¬ b = b' := by rintro rfl; exact h1 e b off rfl rfl
    funext t; simp only [oset, odel]; by_cases q1 : t = e <;> simp [q1, hne]
  case newb.tok b' v e b off =>
    have hne : ¬ b = b' := by rintro rfl; exact h2 e b off rfl rfl
    funext t; simp only [oset, odel]; by_cases q1 : t = e <;> simp [q1, hne]
  case untok.newb e b v => funext t; simp only [oclr, odel]; by_cases q1 : t = e <;> simp [q1]
  case newb.untok b v e => funext t; simp only [oclr, odel]; by_cases q1 : t = e <;> simp [q1]
  case newb.newb b v b' v' =>
    have hne : b ≠ b' := by rintro rfl; exact h b rfl rfl
    refine ⟨?_, updO_comm (d := some b') (e := some b) fun t ht => fun hd => by simp only [Option.some.injEq] at ht hd; exact hne (hd.trans ht.symm)⟩
    funext t
    simp only [odel]
    cases s.1 t with
    | none => rfl
    | some p =>
      obtain ⟨c, d⟩ := p
      have e1 : ∀ x : Nat, ((if c = x then none else some (c, d)) : Option (Nat × Nat)) = if c = x then none else some (c, d) := fun _ => rfl
      by_cases q1 : c = b
      · have q2 : ¬ c = b' := fun q => hne (q1.symm.trans q)
        simp only [Option.bind_some, if_pos q1, if_neg q2, Option.bind_none]
      · by_cases q2 : c = b'
        · simp only [Option.bind_some, if_neg q1, if_pos q2, Option.bind_none]
        · simp only [Option.bind_some, if_neg q1, if_neg q2]
end Go.W
set_option linter.unusedSimpArgs false
set_option linter.unusedVariables false
namespace Go.W
theorem disj_spec {a b : List Nat} (h : disj a b = true) : ∀ t ∈ a, t ∉ b := by
  intro t ht
  have := List.all_eq_true.1 h t ht
  simpa using this
theorem apart_spec {o p : DI} (h : apart o p = true) : (∀ t ∈ wrS o.i, t ∉ rdS p.i ∧ t ∉ gS p.g ∧ t ∉ wrS p.i) ∧ (∀ t ∈ wrS p.i, t ∉ rdS o.i ∧ t ∉ gS o.g) := by
  simp only [apart, Bool.and_eq_true] at h
  refine ⟨fun t ht => ?_, fun t ht => ?_⟩
  · have := disj_spec h.1 t ht
    simp only [List.mem_append, not_or] at this
    exact ⟨this.1.1, this.1.2, this.2⟩
  · have := disj_spec h.2 t ht
    simpa using this
section
variable {P : Program} {w1 : World} {Ps : Psi} {o p : DI} {k : Fact → OK × Fr → Prop} {F : Fact} {s : OK × Fr}
def Bh (P : Program) (w1 : World) (o : DI) (s : OK × Fr) (E : Eff) : Prop := (wants o.g s.2 = true ∧ isL o.i = true ∧ ef P w1 o.i s = some E) ∨ (wants o.g s.2 = false ∧ E = es o.i)
def Ph (o : DI) (s : OK × Fr) : Prop := wants o.g s.2 = true ∧ isL o.i = false
theorem stepY_iff : stepY P w1 Ps o k F s ↔ (∃ E, Bh P w1 o s E ∧ k F (ap E s)) ∨ (Ph o s ∧ PhY P w1 Ps o k F s) := by
  unfold stepY
  by_cases hw : wants o.g s.2 = true
  · rw [if_pos hw]
    by_cases hl : isL o.i = true
    · rw [if_pos hl]
      unfold kE
      constructor
      · intro h
        split at h
        · rename_i E he; exact .inl ⟨E, .inl ⟨hw, hl, he⟩, h⟩
        · exact h.elim
      · rintro (⟨E, (⟨_, _, he⟩ | ⟨hx, _⟩), hk⟩ | ⟨⟨_, hx⟩, _⟩)
        · rw [he]; exact hk
        · rw [hw] at hx; cases hx
        · rw [hl] at hx; cases hx
    · rw [if_neg hl]
      constructor
      · intro h; exact .inr ⟨⟨hw, by simpa using hl⟩, h⟩
      · rintro (⟨E, (⟨_, hx, he⟩ | ⟨hx, _⟩), hk⟩ | ⟨_, h⟩)
        · exact (hl hx).elim
        · rw [hw] at hx; cases hx
        · exact h
  · rw [if_neg hw]
    have hwf : wants o.g s.2 = false := by simpa using hw
    constructor
    · intro h; exact .inl ⟨_, .inr ⟨hwf, rfl⟩, h⟩
    · rintro (⟨E, (⟨hx, _, he⟩ | ⟨_, rfl⟩), hk⟩ | ⟨⟨hx, _⟩, _⟩)
      · exact (hw hx).elim
      · exact hk
      · exact (hw hx).elim
theorem Bh_fun {E E' : Eff} (h : Bh P w1 o s E) (h' : Bh P w1 o s E') : E = E' := by
  rcases h with ⟨a, b, c⟩ | ⟨a, b⟩ <;> rcases h' with ⟨a', b', c'⟩ | ⟨a', b'⟩
  · rw [c] at c'; exact Option.some.inj c'
  · rw [a] at a'; cases a'
  · rw [a] at a'; cases a'
  · rw [b, b']
theorem Bh_not {E : Eff} (h : Bh P w1 o s E) : ¬ Ph o s := by
  rintro ⟨h1, h2⟩
  rcases h with ⟨_, h3, _⟩ | ⟨h3, _⟩
  · rw [h2] at h3; cases h3
  · rw [h1] at h3; cases h3
theorem Bh_ap {E E' : Eff} (h : ∀ t, tgt E' = some t → t ∉ rdS o.i ∧ t ∉ gS o.g) : Bh P w1 o (ap E' s) E ↔ Bh P w1 o s E := by
  unfold Bh
  rw [ef_ap fun t ht => (h t ht).1, wants_on (ap_fr fun t ht => (h t ht).2)]
theorem Ph_ap {E' : Eff} (h : ∀ t, tgt E' = some t → t ∉ rdS o.i ∧ t ∉ gS o.g) : Ph o (ap E' s) ↔ Ph o s := by
  unfold Ph
  rw [wants_on (ap_fr fun t ht => (h t ht).2)]
theorem Bh_tgt {E : Eff} (h : Bh P w1 o s E) {t : Nat} (ht : tgt E = some t) : t ∈ wrS o.i := by
  rcases h with ⟨_, _, h⟩ | ⟨_, rfl⟩
  · exact tgt_ef h ht
  · exact tgt_es ht
theorem Bh_tok {e b off : Nat} (h : Bh P w1 o s (.tok e b off)) : b ∈ rdS o.i := by
  rcases h with ⟨_, _, h⟩ | ⟨_, h⟩
  · exact tok_ef h
  · cases hi : o.i <;> rw [hi] at h <;> simp [es] at h
theorem args_ap {q : Op} {d : Option Nat} {ty : TypeId} (hi : o.i = .op d q ty) {E' : Eff} (h : ∀ t, tgt E' = some t → t ∉ rdS o.i ∧ t ∉ gS o.g) : ∀ x ∈ q.operands, ev (ap E' s).2 x = ev s.2 x :=
  evs_on (ap_fr fun t ht => by have := (h t ht).1; rwa [hi] at this)
theorem args_eq {q : Op} {f g : Fr} (h : ∀ x ∈ q.operands, ev f x = ev g x) : args q f = args q g := List.map_congr_left fun x hx => h x (by simpa using hx)
theorem FD_upd {n : Nat} {φ : World → Prop} {deps : List Nat} (h : n ∉ deps) (w : World) : FD (updF F n φ) deps w ↔ FD F deps w := by
  constructor
  · intro hf m hm
    have := hf m hm
    rwa [updF, if_neg (by rintro rfl; exact h hm)] at this
  · intro hf m hm
    rw [updF, if_neg (by rintro rfl; exact h hm)]
    exact hf m hm
theorem updF_comm {n m : Nat} (h : n ≠ m) (φ ψ : World → Prop) : updF (updF F n φ) m ψ = updF (updF F m ψ) n φ := by
  funext t
  simp only [updF]
  by_cases h1 : t = m <;> by_cases h2 : t = n
  · exact (h (h2.symm.trans h1)).elim
  · subst h1; rw [if_pos rfl, if_neg h2, if_pos rfl]
  · subst h2; rw [if_neg h1, if_pos rfl, if_pos rfl]
  · rw [if_neg h1, if_neg h2, if_neg h2, if_neg h1]
/-- what is asked of an operation that is known by what it hands back, in a state that differs where it does not look -/
theorem PhY_ap {E' : Eff} (h : ∀ t, tgt E' = some t → t ∉ rdS o.i ∧ t ∉ gS o.g) {k' : Fact → OK × Fr → Prop} {F' : Fact} (hF : ∀ w, FD F' o.deps w → FD F o.deps w)
    (hFA : ∀ w, FA F' w → FA F w) (hk : ∀ d v ψ, dl d = wrS o.i → k (updF F o.n ψ) (ap (.slot d v) (ap E' s)) → k' (updF F' o.n ψ) (ap (.slot d v) s)) (hp : PhY P w1 Ps o k F (ap E' s)) : PhY P w1 Ps o k' F' s := by
  unfold PhY at hp ⊢
  split at hp
  · rename_i d q ty hi
    obtain ⟨h1, h2, h3, h4⟩ := hp
    have ha := args_ap (s := s) hi h
    rw [args_eq ha] at h2 h3 h4
    refine ⟨h1, h2, fun w' hE hf => opV_congr h1 ha (h3 w' hE (hF w' hf)), fun v ⟨w', q1, q2, q3⟩ => hk d v _ (by rw [hi]; rfl) (h4 v ⟨w', q1, hFA w' q2, q3⟩)⟩
  · exact hp.elim
theorem PhY_pa {E' : Eff} (h : ∀ t, tgt E' = some t → t ∉ rdS o.i ∧ t ∉ gS o.g) {k' : Fact → OK × Fr → Prop} {F' : Fact} (hF : ∀ w, FD F' o.deps w → FD F o.deps w)
    (hFA : ∀ w, FA F' w → FA F w) (hk : ∀ d v ψ, dl d = wrS o.i → (∃ w', Ext w1 w' ∧ FA F w' ∧ ψ w') → k (updF F o.n ψ) (ap (.slot d v) s) → k' (updF F' o.n ψ) (ap (.slot d v) (ap E' s))) (hp : PhY P w1 Ps o k F s) : PhY P w1 Ps o k' F' (ap E' s) := by
  unfold PhY at hp ⊢
  split at hp
  · rename_i d q ty hi
    obtain ⟨h1, h2, h3, h4⟩ := hp
    have ha := args_ap (s := s) hi h
    rw [args_eq ha]
    refine ⟨h1, h2, fun w' hE hf => opV_congr h1 (fun x hx => (ha x hx).symm) (h3 w' hE (hF w' hf)), fun v ⟨w', q1, q2, q3⟩ => hk d v _ (by rw [hi]; rfl) ⟨w', q1, hFA w' q2, q3⟩ (h4 v ⟨w', q1, hFA w' q2, q3⟩)⟩
  · exact hp.elim
theorem FA_upd {n : Nat} {φ : World → Prop} (h0 : F n = fun _ => True) {w : World} : FA (updF F n φ) w ↔ (φ w ∧ FA F w) := by
  constructor
  · intro h
    refine ⟨by have := h n; simpa [updF] using this, fun m => ?_⟩
    by_cases e : m = n
    · subst e; rw [h0]; trivial
    · have := h m; simpa [updF, e] using this
  · rintro ⟨h1, h2⟩ m
    simp only [updF]
    split
    · exact h1
    · exact h2 m
theorem swap (hap : apart o p = true) (hd1 : p.n ∉ o.deps) (hd2 : o.n ∉ p.deps) (hn : o.n ≠ p.n) (hS : ∃ w, Ext w1 w ∧ FA F w) (hSt : ∀ m, St (F m)) (h0o : F o.n = fun _ => True) (h0p : F p.n = fun _ => True)
    (h : stepY P w1 Ps p (stepY P w1 Ps o k) F s) : stepY P w1 Ps o (stepY P w1 Ps p k) F s := by
  obtain ⟨a1, a2⟩ := apart_spec hap
  have farS : ∀ (x y : DI), (∀ t ∈ wrS x.i, t ∉ rdS y.i ∧ t ∉ gS y.g) → ∀ d (v : Value), dl d = wrS x.i → ∀ t, tgt (.slot d v) = some t → t ∉ rdS y.i ∧ t ∉ gS y.g := by
    intro x y hx d v hd t ht
    simp only [tgt] at ht
    subst ht
    exact hx t (by rw [← hd]; simp [dl])
  have wo : ∀ t ∈ wrS o.i, t ∉ rdS p.i ∧ t ∉ gS p.g := fun t ht => ⟨(a1 t ht).1, (a1 t ht).2.1⟩
  have hne : ∀ t, t ∈ wrS o.i → t ∈ wrS p.i → False := fun t h1 h2 => (a1 t h1).2.2 h2
  rcases stepY_iff.1 h with ⟨Ep, hbp, h⟩ | ⟨hpp, h⟩
  · have fp : ∀ t, tgt Ep = some t → t ∉ rdS o.i ∧ t ∉ gS o.g := fun t ht => a2 t (Bh_tgt hbp ht)
    rcases stepY_iff.1 h with ⟨Eo, hbo, hk⟩ | ⟨hpo, hk⟩
    · have hbo' := (Bh_ap fp).1 hbo
      have fo : ∀ t, tgt Eo = some t → t ∉ rdS p.i ∧ t ∉ gS p.g := fun t ht => wo t (Bh_tgt hbo' ht)
      refine stepY_iff.2 (.inl ⟨Eo, hbo', stepY_iff.2 (.inl ⟨Ep, (Bh_ap fo).2 hbp, ?_⟩)⟩)
      rw [ap_comm (E := Ep) (E' := Eo)]
      · exact hk
      · intro t h1 h2; exact hne t (Bh_tgt hbo' h2) (Bh_tgt hbp h1)
      · rintro e b off rfl h2; exact (fo b h2).1 (Bh_tok hbp)
      · rintro e b off rfl h2; exact (fp b h2).1 (Bh_tok hbo')
    · refine stepY_iff.2 (.inr ⟨(Ph_ap fp).1 hpo, PhY_ap fp (fun _ h => h) (fun _ h => h) (fun d v ψ hd hk => ?_) hk⟩)
      have fo := farS o p wo d v hd
      refine stepY_iff.2 (.inl ⟨Ep, (Bh_ap fo).2 hbp, ?_⟩)
      rw [ap_comm (E := Ep) (E' := .slot d v)]
      · exact hk
      · intro t h1 h2; exact hne t (by simp only [tgt] at h2; subst h2; rw [← hd]; simp [dl]) (Bh_tgt hbp h1)
      · rintro e b off rfl h2; exact (fo b h2).1 (Bh_tok hbp)
      · intro e b off h2; cases h2
  · have hph := h
    unfold PhY at h
    split at h
    · rename_i dp q ty hi
      obtain ⟨h1, h2, h3, h4⟩ := h
      have hdp : dl dp = wrS p.i := by rw [hi]; rfl
      have fpv : ∀ v t, tgt (.slot dp v) = some t → t ∉ rdS o.i ∧ t ∉ gS o.g := fun v => farS p o a2 dp v hdp
      obtain ⟨u0, hu0⟩ : ∃ u0, ∃ w', Ext w1 w' ∧ FA F w' ∧ Ps p.n (args q s.2) u0 w' := by
        obtain ⟨w0, hE0, hF0⟩ := hS
        obtain ⟨u0, w', hE', hψ⟩ := opV_ex (h3 w0 hE0 fun m _ => hF0 m)
        exact ⟨u0, w', hE0.trans hE', fun m => hSt m w0 w' (hF0 m) hE', hψ⟩
      by_cases hpo : Ph o s
      · refine stepY_iff.2 (.inr ⟨hpo, ?_⟩)
        have hin : ∀ u, (∃ w', Ext w1 w' ∧ FA F w' ∧ Ps p.n (args q s.2) u w') → PhY P w1 Ps o k (updF F p.n (Ps p.n (args q s.2) u)) (ap (.slot dp u) s) := by
          intro u hu
          rcases stepY_iff.1 (h4 u hu) with ⟨E, hb, _⟩ | ⟨_, hx⟩
          · exact (Bh_not hb ((Ph_ap (fpv u)).2 hpo)).elim
          · exact hx
        have h0 := hin u0 hu0
        unfold PhY at h0 ⊢
        split at h0
        · rename_i do_ qo tyo hio
          obtain ⟨g1, g2, g3, g4⟩ := h0
          have hdo : dl do_ = wrS o.i := by rw [hio]; rfl
          have ha : ∀ u, ∀ x ∈ qo.operands, ev (ap (.slot dp u) s).2 x = ev s.2 x := fun u => args_ap (s := s) hio (fpv u)
          rw [args_eq (ha u0)] at g2 g3
          refine ⟨g1, g2, fun w' hE hf => opV_congr g1 (ha u0) (g3 w' hE ((FD_upd hd1 w').2 hf)), fun v hv => ?_⟩
          have fov := farS o p wo do_ v hdo
          have hpp' := (Ph_ap (s := s) fov).2 hpp
          refine stepY_iff.2 (.inr ⟨hpp', ?_⟩)
          have hap' := args_ap (s := s) hi fov
          have e0 : args q (updO s.2 do_ v) = args q s.2 := args_eq hap'
          unfold PhY
          rw [hi]
          simp only []
          refine ⟨h1, ?_, ?_, fun u hu => ?_⟩
          · rw [e0]; exact h2
          · rw [e0]; exact fun w' hE hf => opV_congr h1 (fun x hx => (hap' x hx).symm) (h3 w' hE ((FD_upd hd2 w').1 hf))
          · rw [e0] at hu
            obtain ⟨w', q1, q2, q3⟩ := hu
            obtain ⟨q4, q5⟩ := (FA_upd h0o).1 q2
            have h5 := hin u ⟨w', q1, q5, q3⟩
            unfold PhY at h5
            rw [hio] at h5
            obtain ⟨_, _, _, h6⟩ := h5
            have e1 : args qo (ap (.slot dp u) s).2 = args qo s.2 := args_eq (ha u)
            have h7 := h6 v (by rw [e1]; exact ⟨w', q1, (FA_upd h0p).2 ⟨q3, q5⟩, q4⟩)
            rw [e1] at h7
            rw [e0, updF_comm hn]
            have hc := ap_comm (s := s) (E := .slot dp u) (E' := .slot do_ v) (fun t h1 h2 => hne t (by simp only [tgt] at h2; subst h2; rw [← hdo]; simp [dl]) (by simp only [tgt] at h1; subst h1; rw [← hdp]; simp [dl])) (fun e b off h => by cases h) (fun e b off h => by cases h)
            show k _ (ap (.slot dp u) (ap (.slot do_ v) s))
            rw [hc]
            exact h7
        · exact h0.elim
      · have hE : ∃ Eo, Bh P w1 o s Eo := by
          rcases stepY_iff.1 (h4 u0 hu0) with ⟨E, hb, _⟩ | ⟨hx, _⟩
          · exact ⟨E, (Bh_ap (fpv u0)).1 hb⟩
          · exact (hpo ((Ph_ap (fpv u0)).1 hx)).elim
        obtain ⟨Eo, hbo⟩ := hE
        have fo : ∀ t, tgt Eo = some t → t ∉ rdS p.i ∧ t ∉ gS p.g := fun t ht => wo t (Bh_tgt hbo ht)
        refine stepY_iff.2 (.inl ⟨Eo, hbo, stepY_iff.2 (.inr ⟨(Ph_ap fo).2 hpp, PhY_pa fo (fun _ h => h) (fun _ h => h) (fun d u ψ hd hu hk => ?_) hph⟩)⟩)
        have fpv := farS p o a2 d u hd
        rcases stepY_iff.1 hk with ⟨E, hb, hk⟩ | ⟨hx, _⟩
        · have := Bh_fun ((Bh_ap fpv).1 hb) hbo
          subst this
          rw [ap_comm (E := .slot d u) (E' := E)]
          · exact hk
          · intro t h1 h2; exact hne t (Bh_tgt hbo h2) (by simp only [tgt] at h1; subst h1; rw [← hd]; simp [dl])
          · intro e b off h2; cases h2
          · rintro e b off rfl h2; exact (fpv b h2).1 (Bh_tok hbo)
        · exact (hpo ((Ph_ap fpv).1 hx)).elim
    · exact h.elim
theorem stepY_monoF {k' : Fact → OK × Fr → Prop} (hm : ∀ s, k F s → k' F s) (hm2 : ∀ ψ s, (∃ w', Ext w1 w' ∧ FA F w' ∧ ψ w') → St ψ → k (updF F o.n ψ) s → k' (updF F o.n ψ) s) (h : stepY P w1 Ps o k F s) : stepY P w1 Ps o k' F s := by
  rcases stepY_iff.1 h with ⟨E, hb, hk⟩ | ⟨hp, hx⟩
  · exact stepY_iff.2 (.inl ⟨E, hb, hm _ hk⟩)
  · refine stepY_iff.2 (.inr ⟨hp, ?_⟩)
    unfold PhY at hx ⊢
    split at hx
    · exact ⟨hx.1, hx.2.1, hx.2.2.1, fun v hv => hm2 _ _ hv (hx.2.1 v) (hx.2.2.2 v hv)⟩
    · exact hx.elim
theorem stepY_mono {k' : Fact → OK × Fr → Prop} (hm : ∀ F s, k F s → k' F s) (h : stepY P w1 Ps o k F s) : stepY P w1 Ps o k' F s := stepY_monoF (hm F) (fun ψ s _ _ => hm _ s) h
theorem take_first {K : OK → Fr → World → Prop} {post : List DI} : ∀ (pre : List DI), (pre.map (·.n)).Nodup → (∀ p ∈ pre, apart o p = true ∧ p.n ∉ o.deps ∧ o.n ∉ p.deps ∧ o.n ≠ p.n) → ∀ (F : Fact) (s : OK × Fr), (∃ w, Ext w1 w ∧ FA F w) → (∀ m, St (F m)) → F o.n = (fun _ => True) → (∀ p ∈ pre, F p.n = fun _ => True) →
    YD P w1 Ps K (pre ++ o :: post) F s → stepY P w1 Ps o (YD P w1 Ps K (pre ++ post)) F s := by
  intro pre
  induction pre with
  | nil => intro _ _ F s _ _ _ _ h; exact h
  | cons p pre ih =>
    intro hnd hall F s hS hSt h0 h0s h
    have h' : stepY P w1 Ps p (YD P w1 Ps K (pre ++ o :: post)) F s := h
    simp only [List.map_cons, List.nodup_cons] at hnd
    obtain ⟨q1, q2, q3, q4⟩ := hall p (by simp)
    have hp0 := h0s p (by simp)
    have hpre : ∀ x ∈ pre, x.n ≠ p.n := fun x hx e => hnd.1 (e ▸ List.mem_map.2 ⟨x, hx, rfl⟩)
    have h2 : stepY P w1 Ps p (stepY P w1 Ps o (YD P w1 Ps K (pre ++ post))) F s := by
      refine stepY_monoF (k := YD P w1 Ps K (pre ++ o :: post)) (fun s hs => ih hnd.2 (fun q hq => hall q (by simp [hq])) F s hS hSt h0 (fun x hx => h0s x (by simp [hx])) hs) (fun ψ s hψ hSψ hs => ?_) h'
      refine ih hnd.2 (fun q hq => hall q (by simp [hq])) _ s ?_ ?_ ?_ ?_ hs
      · obtain ⟨w', e1, e2, e3⟩ := hψ
        exact ⟨w', e1, (FA_upd hp0).2 ⟨e3, e2⟩⟩
      · intro m
        simp only [updF]
        split
        · exact hSψ
        · exact hSt m
      · rw [updF, if_neg q4]; exact h0
      · intro x hx
        rw [updF, if_neg (hpre x hx)]; exact h0s x (by simp [hx])
    exact swap q1 q2 q3 q4 hS hSt h0 hp0 h2
/-- what the pass says of an operation, in a world that has grown -/
def kW (w1 : World) (F0 : Fact) (n : Nat) (next : Fact → OK × Fr → Prop) (ok : OK) (f : Fr) (w : World) : Prop := ∃ F, (∀ m, m ≠ n → F m = F0 m) ∧ Ext w1 w ∧ FA F w ∧ (∀ m, St (F m)) ∧ next F (ok, f)
theorem ef_vi {i : VI} {w : World} {E : Eff} (hE : Ext w1 w) (h : ef P w1 i s = some E) {k : OK → Fr → World → Prop} (hk : ∀ w', Ext w w' → k (ap E s).1 (ap E s).2 w') : vi P i k s.1 s.2 w := by
  cases i <;> simp only [ef] at h <;> simp only [vi]
  case op d o ty =>
    obtain ⟨p, hp, rfl⟩ := Option.map_eq_some_iff.1 h
    obtain ⟨v, w'⟩ := p
    exact rdW_opV (rdW_ext hE hp) (hk w (Ext.refl _))
  case path e b off via =>
    split at h
    · rename_i hc
      simp only [Option.some.injEq] at h; subst h
      refine ⟨hc.1, ?_, hk w (Ext.refl _)⟩
      have := hc.2
      unfold vvia at this
      exact this
    · simp at h
  case part d via b off n ag =>
    split at h
    · rename_i hc
      obtain ⟨v, hv, rfl⟩ := Option.map_eq_some_iff.1 h
      refine ⟨hc, ?_⟩
      rw [hv]; exact hk w (Ext.refl _)
    · simp at h
  case put via b off n x =>
    split at h
    · rename_i hc
      obtain ⟨v, hv, rfl⟩ := Option.map_eq_some_iff.1 h
      refine ⟨hc, ?_⟩
      rw [hv]; exact hk w (Ext.refl _)
    · simp at h
  case set b n x =>
    split at h
    · rename_i hc
      simp only [Option.some.injEq] at h; subst h
      exact ⟨hc.1, hc.2, hk w (Ext.refl _)⟩
    · simp at h
  case new b z => simp only [Option.some.injEq] at h; subst h; exact hk _ ((Ext.refl _).alloc _)
  case box b n x =>
    split at h
    · rename_i hc
      simp only [Option.some.injEq] at h; subst h
      exact ⟨hc, hk _ ((Ext.refl _).alloc _)⟩
    · simp at h
theorem es_sk {i : VI} {w : World} {k : OK → Fr → World → Prop} (hk : k (ap (es i) s).1 (ap (es i) s).2 w) : sk i k s.1 s.2 w := by
  cases i <;> exact hk
theorem stepY_vi {next : Fact → OK × Fr → Prop} {w : World} (hE : Ext w1 w) (hF : FA F w) (hS : ∀ m, St (F m)) (h : stepY P w1 Ps o next F s) :
    match o.g with | none => vi P o.i (kW w1 F o.n next) s.1 s.2 w | some (t, want) => G (s.2 t) want (vi P o.i (kW w1 F o.n next) s.1 s.2 w) (sk o.i (kW w1 F o.n next) s.1 s.2 w) := by
  have hext : ∀ w', Ext w w' → FA F w' := fun w' hE' m => hS m w w' (hF m) hE'
  have run : wants o.g s.2 = true → vi P o.i (kW w1 F o.n next) s.1 s.2 w := by
    intro hw
    rcases stepY_iff.1 h with ⟨E, hb, hk⟩ | ⟨_, hx⟩
    · rcases hb with ⟨_, _, he⟩ | ⟨hx, _⟩
      · exact ef_vi hE he fun w' hE' => ⟨F, fun _ _ => rfl, hE.trans hE', hext w' hE', hS, hk⟩
      · rw [hw] at hx; cases hx
    · unfold PhY at hx
      split at hx
      · rename_i d q ty hi
        obtain ⟨h1, h2, h3, h4⟩ := hx
        rw [hi]
        refine opV_mono ?_ (h3 w hE fun m _ => hF m)
        rintro v w'' ⟨hE', hψ⟩
        refine ⟨_, fun m hm => by rw [updF, if_neg hm], hE.trans hE', ?_, ?_, h4 v ⟨w'', hE.trans hE', hext w'' hE', hψ⟩⟩
        · intro m
          simp only [updF]
          split
          · exact hψ
          · exact hext w'' hE' m
        · intro m
          simp only [updF]
          split
          · exact h2 v
          · exact hS m
      · exact hx.elim
  have skip : wants o.g s.2 = false → sk o.i (kW w1 F o.n next) s.1 s.2 w := by
    intro hw
    rcases stepY_iff.1 h with ⟨E, hb, hk⟩ | ⟨⟨hx, _⟩, _⟩
    · rcases hb with ⟨hx, _⟩ | ⟨_, rfl⟩
      · rw [hw] at hx; cases hx
      · exact es_sk ⟨F, fun _ _ => rfl, hE, hF, hS, hk⟩
    · rw [hw] at hx; cases hx
  cases hg : o.g with
  | none => exact run (by rw [hg]; rfl)
  | some q =>
    obtain ⟨t, want⟩ := q
    simp only []
    unfold G
    split
    · rename_i b hb
      refine ⟨fun e => run ?_, fun e => skip ?_⟩
      · rw [hg]; simp only [wants, hb, e, beq_self_eq_true]
      · rw [hg]; simp only [wants, hb]; simpa using e
    · rename_i hne
      refine skip ?_
      rw [hg]
      simp only [wants]
      all_goals (split <;> first | rfl | (rename_i b hb; exact (hne b hb).elim))
end
end Go.W
set_option linter.unusedSimpArgs false
set_option linter.unusedVariables false
namespace Go.W
/-- any order: an invariant over what has been done -/
theorem XA_sound {P : Program} {id : Nat} {ops : List Oper} {Q : Exit → Act → World → Prop} (hm : P.follows .mixedOrders = true) (hback : edgesBack ops = true) (I : (Nat → Bool) → Act → World → Prop) {a : Act} {wa : World} (h0 : I (fun _ => false) a wa.drew)
    (hs : ∀ L a wa i o, I L a wa → ops[i]? = some o → L i = false → (∀ e ∈ o.after.toList, Region.binds .any e = true → L e.on = true) → ∀ Kc : Act → World → Prop, (∀ a wa, I (setL L i) a wa → Kc a wa) →
      if Region.wanted o (yielded ops.toArray a.tmps) then o.wp P a wa Kc Q else Kc (a.put o.dst undef) wa)
    (hend : ∀ L a wa, I L a wa → (∀ i, i < ops.length → L i = true) → Q .normal a wa) : (Code.region id ops.toArray true).wp P Q a wa := by
  have key : ∀ (fuel : Nat) (listed : Array Bool) (a : Act) (w : World), listed.size = ops.length → listed.toList.count false = fuel →
      I (fun i => listed.getD i false) a w → wpAny P .any ops.toArray Q fuel listed a w := by
    intro fuel
    have hdone : ∀ (listed : Array Bool) (a : Act) (w : World), listed.size = ops.length → I (fun i => listed.getD i false) a w →
        Region.ready .any ops.toArray listed = [] → Q .normal a w := by
      intro listed a w hsz hI hr
      refine hend _ a w hI ?_
      intro i
      induction i using Nat.strongRecOn with
      | _ i ih =>
        intro hi
        cases hl : listed.getD i false with
        | true => rfl
        | false =>
          exfalso
          have hmem : i ∈ Region.ready .any ops.toArray listed := by
            rw [mem_ready]
            refine ⟨?_, ops[i], by simp, fun e he hb => ?_⟩
            · have : i < listed.size := by omega
              simp only [Array.getD_eq_getD_getElem?, Array.getElem?_eq_getElem this, Option.getD_some] at hl ⊢
              exact hl
            · have h1 := List.all_eq_true.1 hback (ops[i], i) (by
                rw [List.mem_zipIdx_iff_getElem?]; simp)
              have h2 := Array.all_eq_true_iff_forall_mem.1 h1 e he
              simp only [hb, Bool.not_true, Bool.false_or, decide_eq_true_eq] at h2
              exact ih e.on h2 (by omega)
          rw [hr] at hmem
          simp at hmem
    induction fuel with
    | zero =>
      intro listed a w hsz hc hI
      have hr : Region.ready .any ops.toArray listed = [] := by
        apply List.eq_nil_iff_forall_not_mem.2
        intro i hi
        rw [mem_ready] at hi
        obtain ⟨hi, o, ho, _⟩ := hi
        have hlt : i < ops.length := by
          have := (Array.getElem?_eq_some_iff.1 ho).1
          simpa using this
        have : i < listed.size := by omega
        have hmem : false ∈ listed.toList := by
          simp only [Array.getD_eq_getD_getElem?, Array.getElem?_eq_getElem this, Option.getD_some] at hi
          rw [← hi]
          simp
        have := List.count_pos_iff.2 hmem
        omega
      exact ⟨hr, hdone listed a w hsz hI hr⟩
    | succ fuel ih =>
      intro listed a w hsz hc hI
      refine ⟨hdone listed a w hsz hI, fun i hi => ?_⟩
      rw [mem_ready] at hi
      obtain ⟨hi, o, ho, hpre⟩ := hi
      have hlt : i < ops.length := by
        have := (Array.getElem?_eq_some_iff.1 ho).1
        simpa using this
      have hol : ops[i]? = some o := by simpa using ho
      have hli : i < listed.size := by omega
      have hLi : listed.getD i false = false := by
        simp only [Array.getD_eq_getD_getElem?, Array.getElem?_eq_getElem hli, Option.getD_some] at hi ⊢
        exact hi
      have hlist : setL (fun i => listed.getD i false) i = fun j => (listed.setIfInBounds i true).getD j false := by
        funext j
        unfold setL
        by_cases e : j = i
        · subst e; simp [Array.getD_eq_getD_getElem?, hli]
        · rw [if_neg e, getD_set_ne _ (Ne.symm e)]
      have hcount : (listed.setIfInBounds i true).toList.count false = fuel := by
        have e1 : (listed.setIfInBounds i true).toList = listed.toList.set i true := by simp
        have e2 : listed.toList[i]'(by simpa using hli) = false := by
          simp only [Array.getD_eq_getD_getElem?, Array.getElem?_eq_getElem hli, Option.getD_some] at hi
          simpa using hi
        rw [e1, List.count_set (by simpa using hli), e2, hc]
        rfl
      have hstep := hs _ a w i o hI hol hLi (fun e he hb => hpre e (by simpa using he) hb) (wpAny P .any ops.toArray Q fuel (listed.setIfInBounds i true)) (fun a' w' hI' => ih _ a' w' (by simpa using hsz) hcount (by rw [← hlist]; exact hI'))
      unfold wpOp
      simp only [ho]
      split
      · rename_i hw; rw [if_pos hw] at hstep; exact .inl hstep
      · rename_i hw; rw [if_neg hw] at hstep; exact hstep
  refine wp_region_any hm ?_
  have := key ops.length (Array.replicate ops.length false) a wa.drew (by simp) (by simp [List.count_replicate]) (by
    have : (fun i => (Array.replicate ops.length false).getD i false) = fun _ => false := funext fun i => by
      simp only [Array.getD_eq_getD_getElem?, Array.getElem?_replicate]; split <;> rfl
    rw [this]; exact h0)
  simpa using this
/-! ### what must come before -/
def edg (o : Oper) : List Nat := (o.after.toList.filter fun e => Region.binds .any e).map (·.on)
def cDeps : List Oper → List (List Nat) → List (List Nat)
  | [], acc => acc
  | o :: l, acc => cDeps l (acc ++ [(edg o ++ (edg o).flatMap fun j => acc.getD j []).eraseDups])
def mkAll : List VO → List (List Nat) → Nat → List DI
  | [], _, _ => []
  | v :: l, ds, i => ⟨i, ds.headD [], v.g, v.i⟩ :: mkAll l ds.tail (i + 1)
theorem mkAll_get : ∀ (vl : List VO) (ds : List (List Nat)) (k i : Nat), (mkAll vl ds k)[i]? = (vl[i]?).map fun v => ⟨k + i, (ds.drop i).headD [], v.g, v.i⟩
  | [], _, _, i => by simp [mkAll]
  | v :: l, ds, k, 0 => by simp [mkAll]
  | v :: l, ds, k, i + 1 => by
    have := mkAll_get l ds.tail (k + 1) i
    simp only [mkAll, List.getElem?_cons_succ]
    rw [this]
    congr 1
    funext v
    rw [show k + 1 + i = k + (i + 1) by omega, List.drop_tail]
def dpo (all : List DI) (i : Nat) : List Nat := match all[i]? with | some d => d.deps | none => []
def drawOk (ops : List Oper) (all : List DI) (m : Nat) : Bool :=
  edgesBack ops && (List.range ops.length).all fun i => match ops[i]?, all[i]? with
    | some o, some d => d.deps.all (fun j => decide (j < i) && ((edg o).contains j || (edg o).any fun k => decide (k < i) && (dpo all k).contains j)) &&
        (List.range i).all fun j => d.deps.contains j || (decide (i < m) && match all[j]? with | some dj => apart d dj | none => false)
    | _, _ => false
def cSplit (all : List DI) : Nat := (List.range all.length).foldl (fun acc i => if (List.range i).all fun j => (dpo all i).contains j then acc else i + 1) 0
def cDraw (P : Program) (cx : Cx) (pe : List (Nat × Nat × Nat)) (ops : List Oper) : Option (List DI × List VO) :=
  match cList P cx pe ops ops with
  | some vl =>
    let all := mkAll vl (cDeps ops []) 0
    let m := cSplit all
    if drawOk ops all m && decide (m ≤ vl.length) then some (all.take m, vl.drop m) else none
  | none => none
theorem cList_get {P : Program} {cx : Cx} {pe : List (Nat × Nat × Nat)} {all : List Oper} : ∀ (l : List Oper) (vl : List VO), cList P cx pe all l = some vl → vl.length = l.length ∧ ∀ (i : Nat) (o : Oper) (v : VO), l[i]? = some o → vl[i]? = some v → cOne P cx pe all o = some v := by
  intro l
  induction l with
  | nil => intro vl h; simp only [cList, Option.some.injEq] at h; subst h; simp
  | cons x l ih =>
    intro vl h
    simp only [cList] at h
    split at h
    · rename_i v vl' hv hvl
      simp only [Option.some.injEq] at h
      subst h
      obtain ⟨h1, h2⟩ := ih vl' hvl
      refine ⟨by simp [h1], fun i o u ho hu => ?_⟩
      cases i with
      | zero => simp only [List.getElem?_cons_zero, Option.some.injEq] at ho hu; subst ho hu; exact hv
      | succ i => simp only [List.getElem?_cons_succ] at ho hu; exact h2 i o u ho hu
    · simp at h
def rem (L : Nat → Bool) (l : List DI) : List DI := l.filter fun o => !L o.n
theorem take_split {α : Type} (l : List α) {m i : Nat} (h : i < l.length) (him : i < m) : l.take m = l.take i ++ l[i] :: (l.take m).drop (i + 1) := by
  have h1 : (l.take m).take i = l.take i := by rw [List.take_take, Nat.min_eq_left (by omega)]
  have h2 := List.take_append_drop i (l.take m)
  have h3 : i < (l.take m).length := by simp; omega
  rw [h1, List.drop_eq_getElem_cons h3, List.getElem_take] at h2
  exact h2.symm
theorem rem_out {L : Nat → Bool} {all : List DI} (hn : ∀ (q : Nat) (d : DI), all[q]? = some d → d.n = q) {m i : Nat} (h : i < all.length) (him : i < m) (hL : L i = false) :
    rem L (all.take m) = rem L (all.take i) ++ all[i] :: rem L ((all.take m).drop (i + 1)) := by
  have h1 := hn i _ (List.getElem?_eq_getElem h)
  conv => lhs; rw [take_split all h him]
  unfold rem
  rw [List.filter_append, List.filter_cons, if_pos (by rw [h1, hL]; rfl)]
theorem rem_in {L : Nat → Bool} {all : List DI} (hn : ∀ (q : Nat) (d : DI), all[q]? = some d → d.n = q) {m i : Nat} (h : i < all.length) (him : i < m) :
    rem (setL L i) (all.take m) = rem L (all.take i) ++ rem L ((all.take m).drop (i + 1)) := by
  have h1 := hn i _ (List.getElem?_eq_getElem h)
  conv => lhs; rw [take_split all h him]
  unfold rem
  rw [List.filter_append, List.filter_cons, if_neg (by rw [h1]; simp [setL])]
  congr 1
  · apply List.filter_congr
    intro d hd
    obtain ⟨q, hq, rfl⟩ := List.getElem_of_mem hd
    have hq' := hq
    simp only [List.length_take] at hq'
    have := hn q all[q] (List.getElem?_eq_getElem (by omega))
    rw [List.getElem_take, this]
    simp only [setL]; rw [if_neg (by omega)]
  · apply List.filter_congr
    intro d hd
    obtain ⟨q, hq, rfl⟩ := List.getElem_of_mem hd
    have hq' := hq
    simp only [List.length_drop, List.length_take] at hq'
    have := hn (i + 1 + q) all[i + 1 + q] (List.getElem?_eq_getElem (by omega))
    rw [List.getElem_drop, List.getElem_take, this]
    simp only [setL]; rw [if_neg (by omega)]
theorem map_n {all : List DI} (hn : ∀ (q : Nat) (d : DI), all[q]? = some d → d.n = q) : all.map (·.n) = List.range all.length := by
  apply List.ext_getElem
  · simp
  · intro i h1 h2
    simp only [List.getElem_map, List.getElem_range]
    exact hn i _ (List.getElem?_eq_getElem (by simpa using h1))
theorem rem_nodup {L : Nat → Bool} {all : List DI} (hn : ∀ (q : Nat) (d : DI), all[q]? = some d → d.n = q) {i : Nat} : ((rem L (all.take i)).map (·.n)).Nodup := by
  have h1 : (all.map (·.n)).Nodup := by rw [map_n hn]; exact List.nodup_range
  refine h1.sublist (List.Sublist.map _ ?_)
  exact List.filter_sublist.trans (List.take_sublist _ _)
theorem rem_nil {L : Nat → Bool} {all : List DI} (hn : ∀ (q : Nat) (d : DI), all[q]? = some d → d.n = q) {m : Nat} (hL : ∀ q, q < m → q < all.length → L q = true) : rem L (all.take m) = [] := by
  unfold rem
  rw [List.filter_eq_nil_iff]
  intro d hd
  obtain ⟨q, hq, rfl⟩ := List.getElem_of_mem hd
  have hq' := hq
  simp only [List.length_take] at hq'
  have := hn q all[q] (List.getElem?_eq_getElem (by omega))
  rw [List.getElem_take, this, hL q (by omega) (by omega)]
  simp
set_option maxHeartbeats 1000000 in
theorem draw_sound {P : Program} {n : Nat} {cx : Cx} {pe : List (Nat × Nat × Nat)} {T0 : Nat → Bool} {wa0 : World} {id : Nat} {ops : List Oper} {Q : Exit → Act → World → Prop} {K : Fr → World → Prop} (hm : P.follows .mixedOrders = true) (hc : cx.ok = true) (hall : ∀ o ∈ ops, operFits n o = true)
    (hQ : ∀ fa a wa, FRel n fa a → inV cx T0 wa0 K fa wa → Q .normal a wa) {dlist : List DI} {tl : List VO} (hd : cDraw P cx pe ops = some (dlist, tl)) {f : Fr} {w : World} {fa : Fr} {a : Act} {wa : World} (hF : FRel n fa a) (hR : VRx cx T0 wa0 ok0 f w fa wa) {Ps : Psi}
    (h : YD P w.drew Ps (fun ok f w => Y P tl K ok f w) dlist F0 (ok0, f)) : (Code.region id ops.toArray true).wp P Q a wa := by
  unfold cDraw at hd
  split at hd
  · rename_i vl hvl
    obtain ⟨hlen, hone⟩ := cList_get ops vl hvl
    have hget := mkAll_get vl (cDeps ops []) 0
    generalize mkAll vl (cDeps ops []) 0 = all at *
    simp only [] at hd
    generalize cSplit all = m at *
    split at hd
    · rename_i hok
      simp only [Bool.and_eq_true, decide_eq_true_eq] at hok
      obtain ⟨hok, hmle⟩ := hok
      simp only [Option.some.injEq, Prod.mk.injEq] at hd
      obtain ⟨rfl, rfl⟩ := hd
      simp only [drawOk, Bool.and_eq_true] at hok
      obtain ⟨hback, hok⟩ := hok
      -- what the check says of an operation
      have hchk : ∀ (i : Nat) (o : Oper) (d : DI), ops[i]? = some o → all[i]? = some d → (∀ j ∈ d.deps, j < i ∧ (j ∈ edg o ∨ ∃ k ∈ edg o, k < i ∧ j ∈ dpo all k)) ∧ ∀ j, j < i → j ∈ d.deps ∨ (i < m ∧ ∃ dj, all[j]? = some dj ∧ apart d dj = true) := by
        intro i o d ho hdd
        have := List.all_eq_true.1 hok i (by simp only [List.mem_range]; exact (List.getElem?_eq_some_iff.1 ho).1)
        simp only [ho, hdd, Bool.and_eq_true, List.all_eq_true, decide_eq_true_eq, Bool.or_eq_true, List.contains_eq_mem, List.any_eq_true, List.mem_range] at this
        refine ⟨fun j hj => ?_, fun j hj => ?_⟩
        · obtain ⟨h1, h2⟩ := this.1 j hj
          refine ⟨h1, ?_⟩
          rcases h2 with h2 | ⟨k, h3, h4, h5⟩
          · exact .inl h2
          · exact .inr ⟨k, h3, h4, h5⟩
        · rcases this.2 j hj with h1 | ⟨h1, h2⟩
          · exact .inl h1
          · cases hj' : all[j]? with
            | none => rw [hj'] at h2; cases h2
            | some dj => rw [hj'] at h2; exact .inr ⟨h1, dj, rfl, h2⟩
      have hn : ∀ (i : Nat) (d : DI), all[i]? = some d → d.n = i ∧ ∃ v, vl[i]? = some v ∧ d.g = v.g ∧ d.i = v.i := by
        intro i d hd
        rw [hget] at hd
        obtain ⟨v, hv, rfl⟩ := Option.map_eq_some_iff.1 hd
        exact ⟨by simp, v, hv, rfl, rfl⟩
      have hallLen : all.length = vl.length := by
        have h1 : ∀ i : Nat, all[i]? = none ↔ vl[i]? = none := fun i => by rw [hget]; simp
        have h2 := (h1 vl.length).2 (by simp)
        have h3 := (h1 all.length).1 (by simp)
        rw [List.getElem?_eq_none_iff] at h2 h3
        omega
      -- down-closed sets
      have hclosed : ∀ (L : Nat → Bool), (∀ (i : Nat) (o : Oper), ops[i]? = some o → L i = true → ∀ j ∈ edg o, L j = true) → ∀ i, ∀ j ∈ dpo all i, L i = true → L j = true := by
        intro L hL i
        induction i using Nat.strongRecOn with
        | _ i ih =>
          intro j hj hLi
          unfold dpo at hj
          split at hj
          · rename_i d hd
            have hil : i < ops.length := by have := (List.getElem?_eq_some_iff.1 hd).1; omega
            have ho := List.getElem?_eq_getElem hil
            obtain ⟨h1, h2⟩ := (hchk i _ d ho hd).1 j hj
            rcases h2 with h2 | ⟨k, h3, h4, h5⟩
            · exact hL i _ ho hLi j h2
            · exact ih k h4 j h5 (hL i _ ho hLi k h3)
          · simp at hj
      let Kt : OK → Fr → World → Prop := fun ok f w => Y P (vl.drop m) K ok f w
      let I : (Nat → Bool) → Act → World → Prop := fun L a wa => (∀ (i : Nat) (o : Oper), ops[i]? = some o → L i = true → ∀ j ∈ edg o, L j = true) ∧ ∃ fa, FRel n fa a ∧
        (((∀ i, m ≤ i → L i = false) ∧ ∃ ok f w' F, VRx cx T0 wa0 ok f w' fa wa ∧ Ext w.drew w' ∧ FA F w' ∧ (∀ q, St (F q)) ∧ (∀ q, L q = false → F q = fun _ => True) ∧ YD P w.drew Ps Kt (rem L (all.take m)) F (ok, f)) ∨
          (∃ j, (∀ i, i < m + j → L i = true) ∧ (∀ i, m + j ≤ i → L i = false) ∧ ∃ ok f w', VRx cx T0 wa0 ok f w' fa wa ∧ Y P (vl.drop (m + j)) K ok f w'))
      refine XA_sound hm hback I ?_ ?_ ?_
      · refine ⟨fun i o _ h => (by cases h), fa, hF, .inl ⟨fun _ _ => rfl, ok0, f, w.drew, F0, ?_, Ext.refl _, fun _ => trivial, fun _ _ _ _ _ => trivial, fun _ _ => rfl, ?_⟩⟩
        · obtain ⟨T, B, hR⟩ := hR
          have := hR.move (Kp.drew hR.kp.tb)
          rw [tombW_drew, ← hR.tw] at this
          exact ⟨T, B, this⟩
        · have : rem (fun _ => false) (all.take m) = all.take m := by simp [rem]
          rw [this]; exact h
      · intro L a wa i o hI ho hLi hpre Kc hKc
        obtain ⟨hL, fa, hF, hI⟩ := hI
        have hil : i < ops.length := (List.getElem?_eq_some_iff.1 ho).1
        have hda : all[i]? = some all[i] := List.getElem?_eq_getElem (by omega)
        obtain ⟨hn1, v, hv, hg, hi'⟩ := hn i _ hda
        have hcomp := hone i o v ho hv
        have hof := hall o (List.mem_of_getElem? ho)
        have hedge : ∀ j ∈ edg o, L j = true := by
          intro j hj
          simp only [edg, List.mem_map, List.mem_filter] at hj
          obtain ⟨e, ⟨he, hb⟩, rfl⟩ := hj
          exact hpre e he hb
        have hdepL : ∀ j ∈ all[i].deps, L j = true := by
          intro j hj
          obtain ⟨_, h2⟩ := (hchk i o _ ho hda).1 j hj
          rcases h2 with h2 | ⟨k, h3, _, h5⟩
          · exact hedge j h2
          · exact hclosed L hL k j h5 (hedge k h3)
        have hL' : ∀ (i' : Nat) (o' : Oper), ops[i']? = some o' → setL L i i' = true → ∀ j ∈ edg o', setL L i j = true := by
          intro i' o' ho' hi' j hj
          have hmono : ∀ j, L j = true → setL L i j = true := fun j hj => by simp only [setL]; split <;> simp_all
          by_cases e : i' = i
          · subst e
            rw [ho] at ho'
            simp only [Option.some.injEq] at ho'
            subst ho'
            exact hmono j (hedge j hj)
          · simp only [setL, if_neg e] at hi'
            exact hmono j (hL i' o' ho' hi' j hj)
        -- an operation of the tail
        have htail : ∀ j, (∀ q, q < m + j → L q = true) → (∀ q, m + j ≤ q → L q = false) → m ≤ i → i = m + j → ∀ ok f w', VRx cx T0 wa0 ok f w' fa wa → Y P (vl.drop (m + j)) K ok f w' →
            if Region.wanted o (yielded ops.toArray a.tmps) then o.wp P a wa Kc Q else Kc (a.put o.dst undef) wa := by
          intro j h1 h2 hmi hij ok f w' hR hY
          rw [← hij, List.drop_eq_getElem_cons (by omega : i < vl.length), Y_cons] at hY
          have hvi : vl[i]'(by omega) = v := by
            rw [List.getElem?_eq_getElem (by omega)] at hv; exact Option.some.inj hv
          rw [hvi] at hY
          refine one_sound hc hall hof hcomp hF hR hY fun fa' a' wa' hF' ⟨ok', f', w'', hR', hk⟩ => hKc _ _ ⟨hL', fa', hF', .inr ⟨j + 1, fun q hq => ?_, fun q hq => ?_, ok', f', w'', hR', ?_⟩⟩
          · simp only [setL]; split
            · rfl
            · exact h1 q (by omega)
          · simp only [setL]; rw [if_neg (by omega)]; exact h2 q (by omega)
          · rw [show m + (j + 1) = i + 1 by omega]; exact hk
        rcases hI with ⟨hz, ok, f, w', F, hR, hE, hFA, hSt, hF0, hY⟩ | ⟨j, h1, h2, ok, f, w', hR, hY⟩
        · by_cases him : i < m
          · -- inside the part that draws
            have hnn : ∀ (q : Nat) (d : DI), all[q]? = some d → d.n = q := fun q d hd => (hn q d hd).1
            have hsplit := rem_out (L := L) hnn (by omega) him hLi
            have hsplit' := rem_in (L := L) hnn (by omega) him
            rw [hsplit] at hY
            have hnd : ((rem L (all.take i)).map (·.n)).Nodup := rem_nodup hnn
            have hpre0 : ∀ p ∈ rem L (all.take i), F p.n = fun _ => True := fun p hp => hF0 _ (by have := (List.mem_filter.1 hp).2; simpa using this)
            have hY' := take_first _ hnd (fun p hp => by
              obtain ⟨hp1, hp2⟩ := List.mem_filter.1 hp
              obtain ⟨q, hq, rfl⟩ := List.getElem_of_mem hp1
              have hqi : q < i := by simp at hq; omega
              simp only [List.getElem_take] at hp2 ⊢
              have hqa : all[q]? = some all[q] := List.getElem?_eq_getElem (by omega)
              have hqn := (hn q _ hqa).1
              rw [hqn] at hp2 ⊢
              have hLq : L q = false := by simpa using hp2
              have hnd : q ∉ all[i].deps := fun hx => by rw [hdepL q hx] at hLq; cases hLq
              refine ⟨?_, hnd, ?_, by rw [hn1]; omega⟩
              · rcases (hchk i o _ ho hda).2 q hqi with h1 | ⟨_, dj, h2, h3⟩
                · exact (hnd h1).elim
                · rw [hqa] at h2; simp only [Option.some.injEq] at h2; subst h2; exact h3
              · rw [hn1]
                intro hx
                have := ((hchk q _ _ (List.getElem?_eq_getElem (by omega)) hqa).1 i hx).1
                omega) F (ok, f) ⟨w', hE, hFA⟩ hSt (by rw [hn1]; exact hF0 i hLi) hpre0 hY
            have hvi := stepY_vi hE hFA hSt hY'
            rw [hg, hi'] at hvi
            refine one_sound hc hall hof hcomp hF hR hvi fun fa' a' wa' hF' ⟨ok', f', w'', hR', F', hFF, hE', hFA', hSt', hY''⟩ => hKc _ _ ⟨hL', fa', hF', .inl ⟨fun q hq => ?_, ok', f', w'', F', hR', hE', hFA', hSt', ?_, ?_⟩⟩
            · simp only [setL]; rw [if_neg (by omega)]; exact hz q hq
            · intro q hq
              simp only [setL] at hq
              split at hq
              · cases hq
              · rename_i hqi; rw [hFF q (by rw [hn1]; exact hqi)]; exact hF0 q hq
            · rw [hsplit']; exact hY''
          · -- the first of the tail
            have hfull : ∀ q, q < i → L q = true := by
              intro q hq
              rcases (hchk i o _ ho hda).2 q hq with h1 | ⟨h1, _⟩
              · exact hdepL q h1
              · omega
            have hi0 : i = m := by
              apply Nat.le_antisymm _ (by omega)
              apply Nat.le_of_not_lt
              intro hlt
              have := hfull m hlt
              rw [hz m (Nat.le_refl _)] at this
              cases this
            have hnil : rem L (all.take m) = [] := rem_nil (fun q d hd => (hn q d hd).1) fun q hq _ => hfull q (by omega)
            rw [hnil] at hY
            exact htail 0 (fun q hq => hfull q (by omega)) (fun q hq => hz q (by omega)) (by omega) (by omega) ok f w' hR (hY w' hE hFA)
        · have hij : i = m + j := by
            have hge : m + j ≤ i := by
              apply Nat.le_of_not_lt
              intro hlt
              rw [h1 i hlt] at hLi
              cases hLi
            apply Nat.le_antisymm _ hge
            apply Nat.le_of_not_lt
            intro hlt
            rcases (hchk i o _ ho hda).2 (m + j) hlt with h3 | ⟨h3, _⟩
            · have := hdepL _ h3
              rw [h2 _ (Nat.le_refl _)] at this
              cases this
            · omega
          exact htail j h1 h2 (by omega) hij ok f w' hR hY
      · intro L a wa hI hLall
        obtain ⟨hL, fa, hF, hI⟩ := hI
        refine hQ fa a wa hF ?_
        rcases hI with ⟨hz, ok, f, w', F, hR, hE, hFA, hSt, hF0, hY⟩ | ⟨j, h1, h2, ok, f, w', hR, hY⟩
        · have hml : m = vl.length := by
            apply Nat.le_antisymm hmle
            apply Nat.le_of_not_lt
            intro hlt
            have := hLall m (by omega)
            rw [hz m (Nat.le_refl _)] at this
            cases this
          have hnil : rem L (all.take m) = [] := rem_nil (fun q d hd => (hn q d hd).1) fun q hq hl => hLall q (by omega)
          rw [hnil] at hY
          have := hY w' hE hFA
          simp only [Kt] at this
          rw [hml, List.drop_length] at this
          obtain ⟨T, B, hR⟩ := hR
          exact ⟨f, w', ⟨T, B, hR.clear⟩, this⟩
        · have hml : vl.length ≤ m + j := by
            apply Nat.le_of_not_lt
            intro hlt
            have := hLall (m + j) (by omega)
            rw [h2 _ (Nat.le_refl _)] at this
            cases this
          rw [List.drop_eq_nil_of_le hml] at hY
          obtain ⟨T, B, hR⟩ := hR
          exact ⟨f, w', ⟨T, B, hR.clear⟩, hY⟩
    · simp at hd
  · simp at hd
end Go.W
