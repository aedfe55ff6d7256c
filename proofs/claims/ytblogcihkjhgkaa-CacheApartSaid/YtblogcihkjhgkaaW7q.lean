/-
  What lasts: Ext. Regions that draw their order and only read, but for calls that make memory: one pass in the order of the text.
-/
import Derived.Test.YtblogcihkjhgkaaW7
import Derived.ProofKit
import Derived.Deep.Quiet
set_option linter.unusedSimpArgs false
set_option linter.unusedVariables false
namespace Go.W
open Go.RowKit
/-- nothing that was there has changed -/
structure Ext (w w' : World) : Prop where
  os : w'.os = w.os
  tape : w'.tape = w.tape
  output : w'.output = w.output
  size : w.heap.size ≤ w'.heap.size
  get : ∀ b, b < w.heap.size → w'.heap[b]? = w.heap[b]?
theorem Ext.refl (w : World) : Ext w w := ⟨rfl, rfl, rfl, Nat.le_refl _, fun _ _ => rfl⟩
theorem Ext.trans {a b c : World} (h : Ext a b) (k : Ext b c) : Ext a c :=
  ⟨k.os.trans h.os, k.tape.trans h.tape, k.output.trans h.output, Nat.le_trans h.size k.size, fun i hi => (k.get i (Nat.lt_of_lt_of_le hi h.size)).trans (h.get i hi)⟩
theorem Ext.alloc {a w : World} (h : Ext a w) (o : Obj) : Ext a (w.alloc o) :=
  h.trans ⟨rfl, rfl, rfl, by simp, fun k hk => alloc_get_lt hk o⟩
theorem Ext.putb {a w : World} (h : Ext a w) {b : Nat} (hb : a.heap.size ≤ b) (o : Obj) : Ext a (w.putb b o) :=
  ⟨h.os, h.tape, h.output, by rw [putb_size]; exact h.size, fun k hk => (putb_get_ne (by omega) o).trans (h.get k hk)⟩
theorem Ext.drew {a w : World} (h : Ext a w) : Ext a w.drew := ⟨h.os, h.tape, h.output, h.size, h.get⟩
theorem Ext.obj {w w' : World} (h : Ext w w') {b : Nat} {o : Obj} (hb : w.heap[b]? = some o) : w'.heap[b]? = some o := (h.get b (get_lt hb)).trans hb
theorem Ext.lt {w w' : World} (h : Ext w w') {b : Nat} (hb : b < w.heap.size) : b < w'.heap.size := Nat.lt_of_lt_of_le hb h.size
theorem Ext.cell {w w' : World} (h : Ext w w') {a : Addr} {v : Value} (hc : w.cell? a = some v) : w'.cell? a = some v := by
  rw [World.cell?_of_block (h.get a.block (World.block_lt_of_cell? w a hc))]; exact hc
theorem Ext.below {w w' : World} (h : Ext w w') : Below w.heap.size w w' := ⟨h.os, h.tape, h.output, h.size, h.get⟩
theorem Ext.of_below {w w' : World} (h : Below w.heap.size w w') : Ext w w' := ⟨h.os, h.tape, h.output, h.size, h.block⟩

/-- what an operation that only reads comes to, in a fixed world -/
def rdW (P : Program) (op : Op) (f : Fr) (w : World) : Option (Value × World) :=
  match op with
  | .move x => some (ev f x, w)
  | .assign x => some (ev f x, w)
  | .pick c a b => sPick (ev f c) (ev f a) (ev f b) w
  | .build t ps => sBuild P t (ps.toList.map fun p => (p.1, ev f p.2)) w
  | .load t x => sLoad P t (ev f x) w
  | .nilCheck x => sNil (ev f x) w
  | .binOp o t x y _ => sBin P o t (ev f x) (ev f y) w
  | .convert s t x => sConv P s t (ev f x) w
  | .fieldAddr s x k => sFieldAddr P s (ev f x) k w
  | .field s x k => sField P s (ev f x) k w
  | .indexAddr t x i => sIndexAddr P t (ev f x) (ev f i) w
  | .extract x i => sExtract (ev f x) i w
  | .unOp .not _ x => sNot (ev f x) w
  | .slice t x lo hi none => sSlice P t (ev f x) (lo.map (ev f)) (hi.map (ev f)) w
  | .call ⟨.builtin b, as, ts⟩ => match b, as.toList, ts.toList with
    | .len, [x], [t] => sLen P t (ev f x) w
    | .max, [x, y], _ => sMax (ev f x) (ev f y) w
    | .min, [x, y], _ => sMin (ev f x) (ev f y) w
    | _, _, _ => none
  | _ => none
theorem rdW_opW {P : Program} {op : Op} {ty : TypeId} {f : Fr} {w w' : World} {v : Value} {K : Value → World → Prop} (h : rdW P op f w = some (v, w')) (hk : K v w') : opW P op ty f w K := by
  unfold rdW at h
  split at h
  all_goals first
    | (simp only [Option.some.injEq, Prod.mk.injEq] at h; obtain ⟨rfl, rfl⟩ := h; exact hk)
    | (show B _ K; rw [h]; exact hk)
    | skip
  · rename_i b as ts
    split at h
    · rename_i x t h1 h2
      obtain rfl : as = #[x] := by apply Array.ext'; simpa using h1
      obtain rfl : ts = #[t] := by apply Array.ext'; simpa using h2
      show B _ K; rw [h]; exact hk
    · rename_i x y h1
      obtain rfl : as = #[x, y] := by apply Array.ext'; simpa using h1
      show B _ K; rw [h]; exact hk
    · rename_i x y h1
      obtain rfl : as = #[x, y] := by apply Array.ext'; simpa using h1
      show B _ K; rw [h]; exact hk
    · simp at h
  · simp at h
theorem rd_ext {w w2 : World} (hE : Ext w w2) {a : Addr} {n : Nat} {cs : Array Value} (h : rd w a n = some cs) : rd w2 a n = some cs := by
  unfold rd at h ⊢
  split at h
  · rename_i c t fz hb
    rw [hE.obj hb]; exact h
  · simp at h
theorem sLoad_ext {P : Program} {t : TypeId} {x v : Value} {w w' w2 : World} (hE : Ext w w2) (h : sLoad P t x w = some (v, w')) : sLoad P t x w2 = some (v, w2) := by
  unfold sLoad at h ⊢
  split at h
  · rename_i a
    split at h
    · rename_i hb
      split at h
      · rename_i n hn
        obtain ⟨cs, hcs, he⟩ := Option.map_eq_some_iff.1 h
        simp only [Prod.mk.injEq] at he
        simp only [rd_ext hE hcs, Option.map_some, he.1]
      · simp at h
    · rename_i hb
      obtain ⟨u, hu, he⟩ := Option.map_eq_some_iff.1 h
      simp only [Prod.mk.injEq] at he
      simp only [hE.cell hu, Option.map_some, he.1]
    · simp at h
  · simp at h
theorem sLen_ext {P : Program} {t : TypeId} {x v : Value} {w w' w2 : World} (hE : Ext w w2) (h : sLen P t x w = some (v, w')) : sLen P t x w2 = some (v, w2) := by
  unfold sLen at h ⊢
  split at h
  · split at h
    · rename_i hc; simp only [hc, if_true]; simp only [Option.some.injEq, Prod.mk.injEq] at h; simp [h.1]
    · simp at h
  · split at h
    · rename_i hc; simp only [hc, if_true]; simp only [Option.some.injEq, Prod.mk.injEq] at h; simp [h.1]
    · simp at h
  · split at h
    · rename_i es c hr
      simp only [hE.obj hr]
      split at h
      · rename_i hc; simp only [hc, if_true]; simp only [Option.some.injEq, Prod.mk.injEq] at h; simp [h.1]
      · simp at h
    · simp at h
  · simp at h
theorem map_fst_ext {α : Type} {r : Option α} {g : α → Value} {v : Value} {w w' w2 : World} (h : (r.map fun a => (g a, w)) = some (v, w')) : (r.map fun a => (g a, w2)) = some (v, w2) := by
  obtain ⟨a, ha, he⟩ := Option.map_eq_some_iff.1 h
  simp only [Prod.mk.injEq] at he
  simp [ha, he.1]
theorem sBin_ext {P : Program} {o : BinOp} {t : TypeId} {x y v : Value} {w w' w2 : World} (h : sBin P o t x y w = some (v, w')) : sBin P o t x y w2 = some (v, w2) := by
  unfold sBin at h ⊢
  split at h
  · rename_i k a k' b
    simp only [sInt] at h ⊢
    split at h
    · rename_i hk
      subst hk
      simp only [if_true]
      cases o <;> simp only [] at h ⊢ <;>
        first
        | (split at h
           · rename_i hc; simp only [hc, and_self, if_true]; simp only [Option.some.injEq, Prod.mk.injEq] at h; simp [h.1]
           · simp at h)
        | (simp only [Option.some.injEq, Prod.mk.injEq] at h; obtain ⟨rfl, _⟩ := h; rfl)
        | (simp at h; done)
    · simp at h
  · rename_i hni
    have e1 : ∀ (r : Bool) (v : Value) (w w' w2 : World), eqFin o r w = some (v, w') → eqFin o r w2 = some (v, w2) := by
      intro r v w w' w2 h
      cases o <;> simp only [eqFin, Option.some.injEq, Prod.mk.injEq] at h ⊢ <;> first | exact ⟨h.1, trivial⟩ | (simp at h; done)
    unfold sEq at h ⊢
    split at h
    · split at h
      · rename_i hc; simp only [hc, if_true]; exact e1 _ _ _ _ _ h
      · simp at h
    · split at h
      · rename_i hc; simp only [hc, if_true]; exact e1 _ _ _ _ _ h
      · simp at h
    · split at h
      · rename_i hc; simp only [hc, if_true]; exact e1 _ _ _ _ _ h
      · simp at h
    · split at h
      · rename_i hc
        simp only [hc, and_self, if_true]
        obtain ⟨r, hr, hf⟩ := Option.bind_eq_some_iff.1 h
        rw [hr]
        exact e1 _ _ _ _ _ hf
      · simp at h
    · simp at h
theorem rdW_ext {P : Program} {op : Op} {f : Fr} {w w' w2 : World} {v : Value} (hE : Ext w w2) (h : rdW P op f w = some (v, w')) : rdW P op f w2 = some (v, w2) := by
  unfold rdW at h ⊢
  split at h
  · simp only [Option.some.injEq, Prod.mk.injEq] at h; simp [h.1]
  · simp only [Option.some.injEq, Prod.mk.injEq] at h; simp [h.1]
  · unfold sPick at h ⊢; split at h
    · simp only [Option.some.injEq, Prod.mk.injEq] at h; simp [h.1]
    · simp at h
  · unfold sBuild at h ⊢; split at h
    · exact map_fst_ext h
    · simp at h
  · exact sLoad_ext hE h
  · unfold sNil at h ⊢; split at h
    · simp only [Option.some.injEq, Prod.mk.injEq] at h; simp [h.1]
    · simp at h
  · exact sBin_ext h
  · unfold sConv at h ⊢; split at h
    · split at h
      · split at h
        · rename_i hc; simp only [hc, if_true]; simp only [Option.some.injEq, Prod.mk.injEq] at h; simp [h.1]
        · simp at h
      · simp at h
    · simp at h
  · unfold sFieldAddr at h ⊢; split at h
    · exact map_fst_ext (g := fun o : Nat × Nat × Bool => _) h
    · simp at h
  · unfold sField at h ⊢; split at h
    · split at h
      · simp only [Option.some.injEq, Prod.mk.injEq] at h; simp [h.1]
      · exact map_fst_ext (g := fun x : Value => x) h
      · simp at h
    · simp at h
  · unfold sIndexAddr at h ⊢; split at h
    · split at h
      · split at h
        · rename_i hc; simp only [hc, and_self, if_true]; simp only [Option.some.injEq, Prod.mk.injEq] at h; simp [h.1]
        · simp at h
      · simp at h
    · simp at h
  · unfold sExtract at h ⊢; split at h
    · exact map_fst_ext (g := fun x : Value => x) h
    · simp at h
  · unfold sNot at h ⊢; split at h
    · simp only [Option.some.injEq, Prod.mk.injEq] at h; simp [h.1]
    · simp at h
  · unfold sSlice at h ⊢; split at h
    · split at h
      · split at h
        · split at h
          · simp only [Option.some.injEq, Prod.mk.injEq] at h; simp_all
          · simp at h
        · simp at h
      · simp at h
    · simp at h
  · split at h
    · exact sLen_ext hE h
    · unfold sMax at h ⊢; split at h
      · simp only [Option.some.injEq, Prod.mk.injEq] at h; simp [h.1]
      · simp at h
    · unfold sMin at h ⊢; split at h
      · simp only [Option.some.injEq, Prod.mk.injEq] at h; simp [h.1]
      · simp at h
    · simp at h
  · simp at h
theorem rdW_world {P : Program} {op : Op} {f : Fr} {w w' : World} {v : Value} (h : rdW P op f w = some (v, w')) : w' = w := by
  have := rdW_ext (Ext.refl w) h
  rw [h] at this
  simpa using this

/-- one operation of such a region, in any world that has grown out of w1 -/
def opQ (P : Program) (w1 : World) (op : Op) (f : Fr) (v : Value) : Prop :=
  match op with
  | .lookup t x i ok => ∀ w, Ext w1 w → (Instr.lookup t (ev f x) (ev f i) ok).run P w = .ok v w
  | .call ⟨.value (.func g), as, _⟩ => ∀ w, Ext w1 w → Ret P g (as.map (ev f)) w fun u w' => u = v ∧ Ext w w'
  | op => (rdW P op f w1).map (·.1) = some v
def XQ (P : Program) (all : List Oper) (w1 : World) : List Oper → (Fr → Prop) → Fr → Prop
  | [], K, f => K f
  | o :: rest, K, f =>
    match o.guard with
    | none => ∃ v, opQ P w1 o.op f v ∧ XQ P all w1 rest K (updO f o.dst v)
    | some (j, want) => G (gv f all j) want (∃ v, opQ P w1 o.op f v ∧ XQ P all w1 rest K (updO f o.dst v)) (XQ P all w1 rest K (updO f o.dst undef))

theorem notEnter {P : Program} {w w' : World} {g : Nat} {args : Array Value} (s : Sem Value) : (s >>= fun a => pure (Next.value a)).run P w ≠ .ok (.enter g args) w' := by
  rw [run_bind]
  cases s.run P w with
  | ok a w1 => intro h; simp [Sem.run, pure] at h
  | halt h w1 => intro h; simp at h
theorem rdW_notEnter {P : Program} {op : Op} {ty : TypeId} {f : Fr} {w w1 w' : World} {g : Nat} {args : Array Value} {r : Value × World} (h : rdW P op f w1 = some r) :
    (execOp (ev f) ⟨none, op, ty, "", #[], none⟩).run P w ≠ .ok (.enter g args) w' := by
  unfold rdW at h
  split at h
  case h_1 => simp [execOp, Sem.run, pure]
  case h_2 => simp [execOp, Sem.run, pure]
  case h_3 =>
    intro e
    unfold sPick at h
    split at h
    · rename_i hc; simp [execOp, hc, asBool, run_bind, Sem.run, pure] at e
    · simp at h
  case h_6 =>
    intro e
    unfold sNil at h
    split at h
    · rename_i hc; simp [execOp, hc, Sem.run, pure] at e
    · simp at h
  case h_15 =>
    rename_i b as ts
    split at h
    · intro e
      simp only [execOp, resolve, invoke, builtin, run_bind, Sem.run, pure] at e
      exact notEnter _ (by rw [run_bind]; exact e)
    · intro e
      simp only [execOp, resolve, invoke, builtin, run_bind, Sem.run, pure] at e
      exact notEnter _ (by rw [run_bind]; exact e)
    · intro e
      simp only [execOp, resolve, invoke, builtin, run_bind, Sem.run, pure] at e
      exact notEnter _ (by rw [run_bind]; exact e)
    · simp at h
  case h_16 => simp at h
  all_goals exact notEnter _
theorem opQ_quiet {P : Program} {n : Nat} {f : Fr} {a : Act} {o : Oper} {w1 : World} {v : Value} (hF : FRel n f a) (hfit : operFits n o = true) (h : opQ P w1 o.op f v) (w : World) (hE : Ext w1 w) : o.quietAt P a (Ext w1) w v := by
  obtain ⟨hs, hx, _⟩ := operFits_spec hfit
  have he : execOp a.eval o = execOp (ev f) o := execOp_congr o hs fun x hm => hF.eval (hx x hm)
  unfold Oper.quietAt
  rw [he, execOp_only]
  have main : ∀ op, (rdW P op f w1).map (·.1) = some v → Oper.quietUpon P (Ext w1) w v ((execOp (ev f) ⟨none, op, o.type, "", #[], none⟩).run P w) := by
    intro op hr0
    obtain ⟨⟨v', w'⟩, hr, rfl⟩ := Option.map_eq_some_iff.1 hr0
    have h2 := rdW_ext hE hr
    have h3 : raw P op o.type f w (fun u w' => u = v' ∧ w' = w) := opW_sound (rdW_opW (ty := o.type) h2 ⟨rfl, rfl⟩)
    have h4 := fun g args w' => rdW_notEnter (ty := o.type) (w := w) (w' := w') (g := g) (args := args) hr
    unfold raw at h3
    generalize (execOp (ev f) ⟨none, op, o.type, "", #[], none⟩).run P w = r at h3 h4 ⊢
    cases r with
    | halt x w' => cases x <;> simp [upon] at h3
    | ok nx w' =>
      cases nx with
      | value u => exact ⟨h3.2, h3.1⟩
      | skip => exact ⟨h3.2, h3.1.symm⟩
      | enter g args => exact (h4 g args w' rfl).elim
      | _ => simp [upon] at h3
  generalize o.op = op at h
  unfold opQ at h
  split at h
  · rename_i t x i ok
    have := h w hE
    simp only [execOp, run_bind, this, Sem.run, pure]
    exact ⟨rfl, rfl⟩
  · rename_i g as ts
    obtain ⟨h1, h2⟩ := h w hE
    have e : (invoke (.fn (.func g) #[]) (as.map (ev f))).run P w = .ok (.enter g (as.map (ev f))) w := by
      simp [invoke, run_callFunc h1]
    simp only [execOp, resolve, ev, Deferred.ofValue, run_bind, Sem.run, pure, Array.empty_append, e]
    refine ⟨rfl, h2.mono ?_⟩
    rintro e w' ⟨u, rfl, rfl, hE'⟩
    exact ⟨rfl, hE.trans hE'⟩
  · exact main op h

theorem XQ_sound {P : Program} {n : Nat} {all : List Oper} {w1 : World} {Q : Act → Prop} {K : Fr → Prop} (hall : ∀ o ∈ all, operFits n o = true)
    (hQ : ∀ f a, FRel n f a → K f → Q a) : ∀ (l : List Oper), (∀ o ∈ l, operFits n o = true) → ∀ (f : Fr) (a : Act), FRel n f a → XQ P all w1 l K f → wpQuiet P all.toArray (Ext w1) Q l a := by
  intro l
  induction l with
  | nil => intro _ f a hF h; exact hQ f a hF h
  | cons o rest ih =>
    intro hl f a hF h
    have ho := hl o (by simp)
    have hrest := ih (fun o h => hl o (by simp [h]))
    obtain ⟨_, _, hd⟩ := operFits_spec ho
    have main : (∃ v, opQ P w1 o.op f v ∧ XQ P all w1 rest K (updO f o.dst v)) → o.quiet P a (Ext w1) (wpQuiet P all.toArray (Ext w1) Q rest) := by
      rintro ⟨v, hv, hx⟩
      exact ⟨v, fun w hE => opQ_quiet hF ho hv w hE, hrest _ _ (hF.put hd v) hx⟩
    unfold wpQuiet
    cases hg : o.guard with
    | none =>
      simp only [XQ, hg] at h
      rw [if_pos (by simp [Region.wanted, hg])]
      exact main h
    | some gw =>
      obtain ⟨j, want⟩ := gw
      simp only [XQ, hg] at h
      have hy := gv_spec hF all j hall
      unfold G at h
      split at h
      · rename_i b hb
        have hyb : yielded all.toArray a.tmps j = some b := (hy b).2 hb
        by_cases hbw : b = want
        · rw [if_pos (by simp [Region.wanted, hg, hyb, hbw])]
          exact main (h.1 hbw)
        · rw [if_neg (by simp [Region.wanted, hg, hyb, hbw])]
          exact hrest _ _ (hF.put hd undef) (h.2 hbw)
      · rename_i hne
        rw [if_neg (by
          simp only [Region.wanted, hg, beq_iff_eq]
          intro e
          exact hne _ ((hy want).1 e))]
        exact hrest _ _ (hF.put hd undef) h
end Go.W
