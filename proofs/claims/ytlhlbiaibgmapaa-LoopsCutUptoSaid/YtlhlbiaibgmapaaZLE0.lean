/-
  Sets of edges: maps from pairs of integers to true.
-/
import Derived.Test.YtlhlbiaibgmapaaZLC2
import Derived.Test.YtlhlbiaibgmapaaZVM2
set_option linter.unusedSimpArgs false
set_option linter.unusedVariables false
namespace Go.Proofs.Ytlhlbiaibgmapaa
open Go.W Go.RowKit
theorem me2 : P2.mpe Try.prog 47 = some 4 := by decide +kernel
def SetP (w : World) (r : Nat) (S : Int × Int → Bool) : Prop := ∃ l c, w.heap[r]? = some (.map (P2.mk l) c) ∧ P2.MWF l c ∧ ∀ k, P2.mget l k = if S k = true then some (.bool true) else none
theorem SetP.heap {w w' : World} {r : Nat} {S : Int × Int → Bool} (h : SetP w r S) (e : w'.heap[r]? = w.heap[r]?) : SetP w' r S := by
  obtain ⟨l, c, h1, h2⟩ := h
  exact ⟨l, c, e.trans h1, h2⟩
theorem SetP.ext {w w' : World} {r : Nat} {S : Int × Int → Bool} (h : SetP w r S) (hE : Ext w w') : SetP w' r S := by
  obtain ⟨l, c, h1, h2⟩ := h
  exact ⟨l, c, hE.obj h1, h2⟩
theorem SetP.lt {w : World} {r : Nat} {S : Int × Int → Bool} (h : SetP w r S) : r < w.heap.size := by
  obtain ⟨l, c, h1, h2⟩ := h
  exact get_lt h1
theorem SetP.congr {w : World} {r : Nat} {S S' : Int × Int → Bool} (h : SetP w r S) (e : ∀ k, S k = S' k) : SetP w r S' := by
  have : S = S' := funext e
  rw [← this]; exact h
def updP (S : Int × Int → Bool) (k : Int × Int) (b : Bool) : Int × Int → Bool := fun j => if j = k then b else S j
theorem SetP.new (w : World) : SetP (w.alloc (.map #[] 0)) w.heap.size (fun _ => false) := ⟨[], 0, by rw [alloc_get_new]; rfl, ⟨by simp, by simp, by simp⟩, fun k => by simp [P2.mget_nil]⟩
set_option maxRecDepth 10000 in
theorem SetP.look {w : World} {r : Nat} {S : Int × Int → Bool} (h : SetP w r S) {κ : Value → World → Prop} (a b : Int) (hk : κ (.bool (S (a, b))) w) : RunV Try.prog w κ (Instr.lookup 47 (.map (some r)) (.agg #[.int .i64 a, .int .i64 b]) false) := by
  obtain ⟨l, c, h1, h2, h3⟩ := h
  refine P2.rV_lookup (k := (a, b)) me2 T.zr4 h1 ?_
  rw [h3]
  cases hS : S (a, b) <;> simpa [hS] using hk
set_option maxRecDepth 10000 in
theorem SetP.put {w : World} {r : Nat} {S : Int × Int → Bool} (h : SetP w r S) {κ : Value → World → Prop} (a b : Int) (hk : ∀ w', (∃ o, w' = w.putb r o) → SetP w' r (updP S (a, b) true) → κ undef w') : RunU Try.prog w κ (Instr.mapUpdate 47 (.map (some r)) (.agg #[.int .i64 a, .int .i64 b]) (.bool true)) := by
  obtain ⟨l, c, h1, h2, h3⟩ := h
  refine P2.rV_update (k := (a, b)) me2 h1 h2.1 ?_
  refine hk _ ⟨_, rfl⟩ ⟨_, _, by rw [get_putb _ _ _ _ (get_lt h1), if_pos rfl], h2.set (a, b) _, fun j => ?_⟩
  rw [P2.mget_mset, h3]
  unfold updP
  by_cases e : j = (a, b) <;> simp [e]
set_option maxRecDepth 10000 in
theorem SetP.del {w : World} {r : Nat} {S : Int × Int → Bool} (h : SetP w r S) {κ : Value → World → Prop} {kt ty : TypeId} (a b : Int) (hk : ∀ w', (∃ o, w' = w.putb r o) → SetP w' r (updP S (a, b) false) → κ (.tuple #[]) w') : RunV Try.prog w κ (Builtin.delete_ #[47, kt] ty #[.map (some r), .agg #[.int .i64 a, .int .i64 b]]) := by
  obtain ⟨l, c, h1, h2, h3⟩ := h
  refine P2.rV_delete (k := (a, b)) me2 h1 h2.1 ?_
  refine hk _ ⟨_, rfl⟩ ⟨_, _, by rw [get_putb _ _ _ _ (get_lt h1), if_pos rfl], h2.del (a, b), fun j => ?_⟩
  rw [P2.mget_mdel, h3]
  unfold updP
  by_cases e : j = (a, b) <;> simp [e]
end Go.Proofs.Ytlhlbiaibgmapaa
