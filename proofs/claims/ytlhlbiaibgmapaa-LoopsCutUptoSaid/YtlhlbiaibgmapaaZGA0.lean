/-
  Slices of slices of integers of the call's own, that grow row by row.
-/
import Derived.Test.YtlhlbiaibgmapaaZIA
import Derived.Test.YtlhlbiaibgmapaaZV15
set_option linter.unusedSimpArgs false
set_option linter.unusedVariables false
namespace Go.Proofs.Ytlhlbiaibgmapaa
open Go.W Go.RowKit
/-- a block of slices, each a row of its own -/
def RowsO (base : Nat) (w : World) (q : Nat) (PL : List (List Int)) : Prop :=
  ∃ us : List Value, us.length = PL.length ∧ w.heap[q]? = some (.cells us.toArray 36 (0, 0)) ∧ base ≤ q ∧ (∀ (j : Nat) l u, PL[j]? = some l → us[j]? = some u → IntO base w u l ∧ u.ownBlock ≠ some q) ∧
    ∀ (i j : Nat) u v b, i ≠ j → us[i]? = some u → us[j]? = some v → u.ownBlock = some b → v.ownBlock ≠ some b
theorem RowsO.heap {base : Nat} {w w' : World} {q : Nat} {PL : List (List Int)} (h : RowsO base w q PL) (hE : ∀ b, base ≤ b → b < w.heap.size → w'.heap[b]? = w.heap[b]?) : RowsO base w' q PL := by
  obtain ⟨us, h1, h2, h3, h4, h5⟩ := h
  refine ⟨us, h1, (hE q h3 (get_lt h2)).trans h2, h3, fun j l u hl hu => ⟨own_at (h4 j l u hl hu).1 fun b hb => ?_, (h4 j l u hl hu).2⟩, h5⟩
  have := (h4 j l u hl hu).1.lt b hb
  exact hE b this.1 this.2
theorem RowsO.ext {base : Nat} {w w' : World} {q : Nat} {PL : List (List Int)} (h : RowsO base w q PL) (hE : Ext w w') : RowsO base w' q PL := h.heap fun b _ hb => hE.get b hb
theorem RowsO.lt {base : Nat} {w : World} {q : Nat} {PL : List (List Int)} (h : RowsO base w q PL) : q < w.heap.size := by
  obtain ⟨us, h1, h2, _⟩ := h
  exact get_lt h2
theorem RowsO.new {w : World} (n : Nat) : RowsO w.heap.size (w.alloc (.cells (Array.replicate n (.slice none 0 0)) 36)) w.heap.size (List.replicate n []) := by
  refine ⟨List.replicate n (.slice none 0 0), by simp, by rw [alloc_get_new]; simp, Nat.le_refl _, fun j l u hl hu => ?_, fun i j u v b _ hu _ hb => ?_⟩
  · rw [List.getElem?_replicate] at hl hu
    split at hl
    · simp only [Option.some.injEq] at hl
      subst hl
      rename_i hj
      rw [if_pos hj] at hu
      simp only [Option.some.injEq] at hu
      subst hu
      exact ⟨World.ownsRow_nil _ _ _ _, by simp [Value.ownBlock]⟩
    · cases hl
  · rw [List.getElem?_replicate] at hu
    split at hu
    · simp only [Option.some.injEq] at hu
      subst hu
      cases hb
    · cases hu
/-- a row -/
theorem RowsO.at {base : Nat} {w : World} {q : Nat} {PL : List (List Int)} (h : RowsO base w q PL) {j : Nat} (hj : j < PL.length) :
    ∃ us u, w.heap[q]? = some (.cells us 36 (0, 0)) ∧ us.size = PL.length ∧ us[j]? = some u ∧ IntO base w u PL[j] := by
  obtain ⟨us, h1, h2, h3, h4, h5⟩ := h
  exact ⟨us.toArray, us[j]'(by omega), h2, by simpa using h1, by simp, (h4 j PL[j] _ (by simp) (by simp)).1⟩
theorem RowsO.intss {base : Nat} {w : World} {q c : Nat} {PL : List (List Int)} (h : RowsO base w q PL) : IntssAt w (.slice (some ⟨q, 0, none⟩) PL.length c) PL := by
  obtain ⟨us, h1, h2, h3, h4, h5⟩ := h
  refine .inr ⟨q, 0, c, rfl, fun i l hl => ?_⟩
  have hi := (List.getElem?_eq_some_iff.1 hl).1
  refine ⟨us[i]'(by omega), ?_, (h4 i l _ hl (by simp)).1.ints⟩
  rw [cell_mk, h2]
  simp [show i < us.length by omega]
/-- a row's slice has been appended to and stored -/
theorem RowsO.app {base : Nat} {w : World} {q : Nat} {PL : List (List Int)} (h : RowsO base w q PL) {j : Nat} (hj : j < PL.length) {us : Array Value} {u : Value} (hq : w.heap[q]? = some (.cells us 36 (0, 0))) (hu : us[j]? = some u) {x : Int} {v' : Value} {w' : World}
    (ho : IntO base w' v' (PL[j] ++ [x])) (hg : w.grownBy w' u.ownBlock) (hn : ∀ b, v'.ownBlock = some b → u.ownBlock = some b ∨ w.heap.size ≤ b) :
    w'.heap[q]? = some (.cells us 36 (0, 0)) ∧ RowsO base (w'.putb q (.cells (us.setIfInBounds j v') 36 (0, 0))) q (PL.set j (PL[j] ++ [x])) := by
  obtain ⟨us', h1, h2, h3, h4, h5⟩ := h
  rw [h2] at hq
  simp only [Option.some.injEq, Obj.cells.injEq, and_true] at hq
  subst hq
  have hql := get_lt h2
  have hu' : us'[j]? = some u := by simpa using hu
  have hju := h4 j PL[j] u (by simp) hu'
  have hq' : w'.heap[q]? = some (.cells us'.toArray 36 (0, 0)) := by
    rw [hg.block q hql (fun e => hju.2 e.symm)]; exact h2
  have hql' := get_lt hq'
  have hvq : v'.ownBlock ≠ some q := fun e => (hn q e).elim hju.2 (by omega)
  refine ⟨hq', us'.set j v', by simp [h1], ?_, h3, ?_, ?_⟩
  · rw [get_putb _ _ _ _ hql', if_pos rfl]; simp
  · intro i l v hl hv
    rw [List.getElem?_set] at hl hv
    by_cases e : j = i
    · subst e
      rw [if_pos rfl, if_pos (by omega)] at hl hv
      simp only [Option.some.injEq] at hl hv
      subst hl hv
      exact ⟨own_at ho fun b hb => putb_get_ne (by rintro rfl; exact hvq hb) _, hvq⟩
    · rw [if_neg e] at hl hv
      obtain ⟨k1, k2⟩ := h4 i l v hl hv
      refine ⟨own_at k1 fun b hb => ?_, k2⟩
      rw [putb_get_ne (by rintro rfl; exact k2 hb), hg.block b (k1.lt b hb).2 (fun e' => h5 j i u v b e hu' hv e'.symm hb)]
  · intro i k v1 v2 b hik hi hk hb
    rw [List.getElem?_set] at hi hk
    by_cases e : j = i
    · subst e
      rw [if_pos rfl, if_pos (by omega)] at hi
      rw [if_neg hik] at hk
      simp only [Option.some.injEq] at hi
      subst hi
      obtain ⟨l, hl⟩ : ∃ l, PL[k]? = some l := by
        have := (List.getElem?_eq_some_iff.1 hk).1
        exact ⟨PL[k]'(by omega), by simp⟩
      rcases hn b hb with e | e
      · exact h5 j k u v2 b hik hu' hk e
      · intro e'
        have := ((h4 k l v2 hl hk).1.lt b e').2
        omega
    · rw [if_neg e] at hi
      by_cases e2 : j = k
      · subst e2
        rw [if_pos rfl, if_pos (by omega)] at hk
        simp only [Option.some.injEq] at hk
        subst hk
        obtain ⟨l, hl⟩ : ∃ l, PL[i]? = some l := by
          have := (List.getElem?_eq_some_iff.1 hi).1
          exact ⟨PL[i]'(by omega), by simp⟩
        intro e'
        rcases hn b e' with e3 | e3
        · exact h5 i j v1 u b hik hi hu' hb e3
        · have := ((h4 i l v1 hl hi).1.lt b hb).2
          omega
      · rw [if_neg e2] at hk
        exact h5 i k v1 v2 b hik hi hk hb
/-- the blocks of the rows -/
def FpR (w : World) (q b : Nat) : Prop := b = q ∨ ∃ us : Array Value, w.heap[q]? = some (.cells us 36 (0, 0)) ∧ ∃ (j : Nat) (u : Value), us[j]? = some u ∧ u.ownBlock = some b
theorem RowsO.keep {base : Nat} {w w' : World} {q : Nat} {PL : List (List Int)} (h : RowsO base w q PL) (hE : ∀ b, FpR w q b → w'.heap[b]? = w.heap[b]?) : RowsO base w' q PL := by
  obtain ⟨us, h1, h2, h3, h4, h5⟩ := h
  refine ⟨us, h1, (hE q (.inl rfl)).trans h2, h3, fun j l u hl hu => ⟨own_at (h4 j l u hl hu).1 fun b hb => ?_, (h4 j l u hl hu).2⟩, h5⟩
  exact hE b (.inr ⟨us.toArray, h2, j, u, by simpa using hu, hb⟩)
theorem FpR.of {w w' : World} {q b : Nat} (e : w'.heap[q]? = w.heap[q]?) (h : FpR w' q b) : FpR w q b := by
  rcases h with h | ⟨us, h1, h2⟩
  · exact .inl h
  · exact .inr ⟨us, e.symm.trans h1, h2⟩
theorem RowsO.fp_lt {base : Nat} {w : World} {q : Nat} {PL : List (List Int)} (h : RowsO base w q PL) {b : Nat} (hb : FpR w q b) : base ≤ b ∧ b < w.heap.size := by
  obtain ⟨us, h1, h2, h3, h4, h5⟩ := h
  rcases hb with rfl | ⟨us', k1, j, u, k2, k3⟩
  · exact ⟨h3, get_lt h2⟩
  · rw [h2] at k1
    simp only [Option.some.injEq, Obj.cells.injEq, and_true] at k1
    subst k1
    have hj := (Array.getElem?_eq_some_iff.1 k2).1
    simp only [List.size_toArray] at hj
    exact (h4 j (PL[j]'(by omega)) u (by simp) (by simpa using k2)).1.lt b k3
theorem fp_app {w w' : World} {q : Nat} {us : Array Value} {u v' : Value} {j : Nat} (hq : w.heap[q]? = some (.cells us 36 (0, 0))) (hq' : w'.heap[q]? = some (.cells us 36 (0, 0))) (hu : us[j]? = some u) (hn : ∀ b, v'.ownBlock = some b → u.ownBlock = some b ∨ w.heap.size ≤ b) {b : Nat}
    (h : FpR (w'.putb q (.cells (us.setIfInBounds j v') 36 (0, 0))) q b) : FpR w q b ∨ w.heap.size ≤ b := by
  rcases h with h | ⟨us', h1, i, x, h2, h3⟩
  · exact .inl (.inl h)
  · rw [get_putb _ _ _ _ (get_lt hq'), if_pos rfl] at h1
    simp only [Option.some.injEq, Obj.cells.injEq, and_true] at h1
    subst h1
    rw [Array.getElem?_setIfInBounds] at h2
    by_cases e : j = i
    · rw [if_pos e] at h2
      split at h2
      · simp only [Option.some.injEq] at h2
        subst h2
        rcases hn b h3 with h | h
        · exact .inl (.inr ⟨us, hq, j, u, hu, h⟩)
        · exact .inr h
      · cases h2
    · rw [if_neg e] at h2
      exact .inl (.inr ⟨us, hq, i, x, h2, h3⟩)
/-- append(v, x), x anywhere -/
theorem _root_.Go.W.OwnL.appA {α : Type} {R : α → List Value} {P : Program} {w : World} {κ : Value → World → Prop} {base : Nat} {t ty e : TypeId} {size bytes : Nat} {z : Value} (he : elt P t = some e) (hs : szv P e = some size) (hb : byv P e = some bytes) (hz : zrv P e = some z)
    (hzs : z.cells.size = size) (hpos : 0 < size) {v : Value} {L : List α} (hown : OwnL R base e size w v L) (x : α) (hl : (R x).length = size) (h1 : (R x).all one = true) (h63 : L.length + 1 ≤ 100000000) (hby : bytes ≤ 1000) (hbase : base ≤ w.heap.size) {a : Addr} {c : Nat} (ha : ∀ j u, (R x)[j]? = some u → w.cell? (a.add j) = some u)
    (h : ∀ v' w', OwnL R base e size w' v' (L ++ [x]) → (∀ w0, Ext w0 w → w0.heap.size ≤ base → Ext w0 w') → w.grownBy w' v.ownBlock → (∀ b, v'.ownBlock = some b → v.ownBlock = some b ∨ w.heap.size ≤ b) → κ v' w') : RunV P w κ (Builtin.append_ #[t, t] ty #[v, .slice (some a) 1 c]) := by
  refine rV_append he hs hb hz hzs hpos hown (news := R x) (by omega) ha (fun u hu => List.all_eq_true.1 h1 u hu) (by unfold maxLen; omega) ?_ hbase ?_
  · calc (L.length + 1) * bytes ≤ 100000000 * 1000 := Nat.mul_le_mul h63 hby
      _ ≤ 140737488355328 := by omega
  · intro v' w' ho hg hn
    refine h v' w' ?_ (fun w0 hE hb0 => hE.grownO hown hb0 hg) hg fun b hb => ?_
    · have e5 : (L ++ [x]).length = L.length + 1 := by simp
      have e6 : ((L ++ [x]).map R).flatten = (L.map R).flatten ++ R x := by simp
      unfold OwnL
      rw [e5, e6]
      exact ho
    · rcases hn with e | e
      · exact .inl (e ▸ hb)
      · rw [e] at hb
        simp only [Option.some.injEq] at hb
        exact .inr (by omega)
end Go.Proofs.Ytlhlbiaibgmapaa
