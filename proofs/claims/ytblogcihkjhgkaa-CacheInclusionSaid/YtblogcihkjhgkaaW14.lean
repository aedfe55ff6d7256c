/-
  Slices in memory: rows of cells; slices of integers.
-/
import Derived.Test.YtblogcihkjhgkaaW13
set_option linter.unusedSimpArgs false
set_option linter.unusedVariables false
namespace Go.W
theorem rd_obj {w : World} {b o n : Nat} {r : Array Value} (h : rd w ⟨b, o, none⟩ n = some r) : ∃ cs e fz, w.heap[b]? = some (.cells cs e fz) ∧ o + n ≤ cs.size ∧ cs.extract o (o + n) = r := by
  rw [rd_mk] at h
  split at h
  · rename_i cs e fz hb
    split at h
    · rename_i hle; simp only [Option.some.injEq] at h; exact ⟨cs, e, fz, hb, hle, h⟩
    · simp at h
  · simp at h
/-- a slice whose elements take sz cells each -/
def SlAt (w : World) (v : Value) (sz : Nat) (rows : List (List Value)) : Prop :=
  ((∃ a c, v = .slice a 0 c) ∧ rows = []) ∨ ∃ b off cap, v = .slice (some ⟨b, off, none⟩) rows.length cap ∧ ∀ i r, rows[i]? = some r → rd w ⟨b, off + i * sz, none⟩ sz = some r.toArray
theorem SlAt.ext {w w' : World} {v : Value} {sz : Nat} {rows : List (List Value)} (h : SlAt w v sz rows) (hE : Ext w w') : SlAt w' v sz rows := by
  rcases h with h | ⟨b, off, cap, h1, h2⟩
  · exact .inl h
  · exact .inr ⟨b, off, cap, h1, fun i r hr => rd_ext hE (h2 i r hr)⟩
theorem SlAt.form {w : World} {v : Value} {sz : Nat} {rows : List (List Value)} (h : SlAt w v sz rows) : ∃ a c, v = .slice a rows.length c := by
  rcases h with ⟨⟨a, c, h⟩, h'⟩ | ⟨b, off, cap, h1, h2⟩
  · exact ⟨a, c, by rw [h, h']; rfl⟩
  · exact ⟨_, _, h1⟩
/-- an element -/
theorem SlAt.get {w : World} {sz : Nat} {rows : List (List Value)} {a : Option Addr} {n c : Nat} (h : SlAt w (.slice a n c) sz rows) {i : Nat} {r : List Value} (hr : rows[i]? = some r) :
    ∃ b off cs e fz, a = some ⟨b, off, none⟩ ∧ n = rows.length ∧ w.heap[b]? = some (.cells cs e fz) ∧ off + i * sz + sz ≤ cs.size ∧ cs.extract (off + i * sz) (off + i * sz + sz) = r.toArray := by
  rcases h with ⟨h, h'⟩ | ⟨b, off, cap, h1, h2⟩
  · subst h'; simp at hr
  · simp only [Value.slice.injEq] at h1
    obtain ⟨rfl, rfl, rfl⟩ := h1
    obtain ⟨cs, e, fz, h3, h4, h5⟩ := rd_obj (h2 i r hr)
    exact ⟨b, off, cs, e, fz, rfl, rfl, h3, h4, h5⟩
theorem flatten_get (sz : Nat) : ∀ (rows : List (List Value)), (∀ r ∈ rows, r.length = sz) → ∀ (i : Nat) (r : List Value), rows[i]? = some r → (rows.flatten.drop (i * sz)).take sz = r := by
  intro rows
  induction rows with
  | nil => intro _ i r h; simp at h
  | cons x rows ih =>
    intro hl i r hr
    have hx := hl x (by simp)
    cases i with
    | zero =>
      simp only [List.getElem?_cons_zero, Option.some.injEq] at hr
      subst hr
      simp only [Nat.zero_mul, List.drop_zero, List.flatten_cons]
      rw [← hx, List.take_left]
    | succ i =>
      simp only [List.getElem?_cons_succ] at hr
      have := ih (fun r hr => hl r (by simp [hr])) i r hr
      rw [List.flatten_cons, Nat.succ_mul, Nat.add_comm, ← List.drop_drop, ← hx, List.drop_left, hx]
      exact this
theorem flatten_length (sz : Nat) : ∀ (rows : List (List Value)), (∀ r ∈ rows, r.length = sz) → rows.flatten.length = rows.length * sz := by
  intro rows
  induction rows with
  | nil => intro _; simp
  | cons x rows ih =>
    intro hl
    rw [List.flatten_cons, List.length_append, ih (fun r hr => hl r (by simp [hr])), hl x (by simp), List.length_cons, Nat.succ_mul, Nat.add_comm]
theorem SlAt.of_own {w : World} {base : Nat} {e : TypeId} {sz : Nat} {v : Value} {rows : List (List Value)} (hrows : ∀ r ∈ rows, r.length = sz) (h : w.ownsRow base e sz v rows.length rows.flatten) : SlAt w v sz rows := by
  rcases h.2 with ⟨rfl, hn⟩ | ⟨g, cap, cur, rfl, hb, hg, hnc, hcm, hcs, htake⟩
  · exact .inl ⟨⟨_, _, rfl⟩, List.eq_nil_of_length_eq_zero hn⟩
  · refine .inr ⟨g, 0, cap, rfl, fun i r hr => ?_⟩
    have hi : i < rows.length := (List.getElem?_eq_some_iff.1 hr).1
    have hle : (i + 1) * sz ≤ rows.length * sz := Nat.mul_le_mul_right _ hi
    rw [Nat.succ_mul] at hle
    have hle2 : rows.length * sz ≤ cap * sz := Nat.mul_le_mul_right _ hnc
    rw [rd_mk, hg, Nat.zero_add]
    simp only []
    rw [if_pos (by omega)]
    congr 1
    apply Array.ext'
    simp only [Array.toList_extract, List.extract_eq_take_drop]
    rw [← flatten_get sz rows hrows i r hr, ← htake, List.drop_take, List.take_take]
    congr 1
    omega
def Apart (b : Nat) (v : Value) (rows : List (List Value)) : Prop := rows = [] ∨ some b ≠ v.ownBlock
theorem SlAt.putb {w : World} {v : Value} {sz : Nat} {rows : List (List Value)} (h : SlAt w v sz rows) {b : Nat} (hb : Apart b v rows) (o : Obj) : SlAt (w.putb b o) v sz rows := by
  rcases h with h | ⟨b', off, cap, h1, h2⟩
  · exact .inl h
  · refine .inr ⟨b', off, cap, h1, fun i r hr => ?_⟩
    rcases hb with rfl | hb
    · simp at hr
    · subst h1
      have hne : b' ≠ b := by rintro rfl; exact hb rfl
      have := h2 i r hr
      rw [rd_mk] at this ⊢
      rw [putb_get_ne hne]
      exact this
theorem SlAt.apart {w : World} {v : Value} {sz : Nat} {rows : List (List Value)} (h : SlAt w v sz rows) {b : Nat} (hb : w.heap.size ≤ b) : Apart b v rows := by
  cases rows with
  | nil => exact .inl rfl
  | cons r rows =>
    obtain ⟨a, c, rfl⟩ := h.form
    obtain ⟨b', off, cs, e, fz, rfl, _, h2, _⟩ := h.get (i := 0) (r := r) (by simp)
    refine .inr ?_
    have := get_lt h2
    intro e
    simp only [Value.ownBlock, Option.some.injEq] at e
    omega
theorem own_apart {w : World} {base : Nat} {e : TypeId} {sz : Nat} {v : Value} {n : Nat} {xs : List Value} (h : w.ownsRow base e sz v n xs) {b : Nat} (hb : b < base) (rows : List (List Value)) : Apart b v rows := by
  refine .inr fun e => ?_
  have := (h.lt _ e.symm).1
  omega
theorem own_lit {w : World} {base : Nat} {e : TypeId} (sz : Nat) {v : Value} {n : Nat} {rows : List (List Value)} (hn : rows.length = n) {xs : List Value} (h : w.ownsRow base e sz v n xs) (hx : xs = rows.flatten) : w.ownsRow base e sz v rows.length rows.flatten := by
  subst hn hx; exact h
theorem own_form {w : World} {base : Nat} {e : TypeId} {sz : Nat} {v : Value} {n : Nat} {xs : List Value} (h : w.ownsRow base e sz v n xs) : ∃ a c, v = .slice a n c := by
  rcases h.2 with ⟨rfl, rfl⟩ | ⟨g, cap, cur, rfl, _⟩
  · exact ⟨_, _, rfl⟩
  · exact ⟨_, _, rfl⟩
/-- a block of another type is not the row's -/
theorem own_blk {w : World} {base : Nat} {e : TypeId} {sz : Nat} {v : Value} {n : Nat} {xs : List Value} (ho : w.ownsRow base e sz v n xs) {b : Nat} {o : Obj} (hb : w.heap[b]? = some o) (ht : ∀ cs, o ≠ .cells cs e (0, 0)) : some b ≠ v.ownBlock := by
  rcases ho.2 with ⟨rfl, _⟩ | ⟨g, cap, cur, rfl, _, hg, _⟩
  · simp [Value.ownBlock]
  · simp only [Value.ownBlock, ne_eq, Option.some.injEq]
    rintro rfl
    rw [hb] at hg
    simp only [Option.some.injEq] at hg
    exact ht cur hg
theorem own_putb {w : World} {base : Nat} {e : TypeId} {sz : Nat} {v : Value} {n : Nat} {xs : List Value} (ho : w.ownsRow base e sz v n xs) {b : Nat} (hb : some b ≠ v.ownBlock) (o : Obj) : (w.putb b o).ownsRow base e sz v n xs := by
  refine ⟨ho.1, ?_⟩
  rcases ho.2 with h | ⟨g, cap, cur, rfl, h1, hg, h2⟩
  · exact .inl h
  · refine .inr ⟨g, cap, cur, rfl, h1, ?_, h2⟩
    rw [putb_get_ne (by simpa [Value.ownBlock, eq_comm] using hb)]
    exact hg
theorem own_ext {w w' : World} {base : Nat} {e : TypeId} {sz : Nat} {v : Value} {n : Nat} {xs : List Value} (ho : w.ownsRow base e sz v n xs) (hE : Ext w w') : w'.ownsRow base e sz v n xs := by
  refine ⟨ho.1, ?_⟩
  rcases ho.2 with h | ⟨g, cap, cur, rfl, h1, hg, h2⟩
  · exact .inl h
  · exact .inr ⟨g, cap, cur, rfl, h1, hE.obj hg, h2⟩
theorem own_lt {w : World} {base : Nat} {e : TypeId} {sz : Nat} {v : Value} {n : Nat} {xs : List Value} (ho : w.ownsRow base e sz v n xs) {b : Nat} (hb : w.heap.size ≤ b) : some b ≠ v.ownBlock := by
  intro e; have := (ho.lt _ e.symm).2; omega
theorem grown_get {w w' : World} {row : Option Nat} (hg : w.grownBy w' row) {b : Nat} {o : Obj} (hb : w.heap[b]? = some o) (hne : some b ≠ row) : w'.heap[b]? = some o := (hg.block b (get_lt hb) hne).trans hb
/-- a slice of integers -/
def IntsAt (w : World) (v : Value) (l : List Int) : Prop :=
  ((∃ a c, v = .slice a 0 c) ∧ l = []) ∨ ∃ b off cap, v = .slice (some ⟨b, off, none⟩) l.length cap ∧ ∀ i x, l[i]? = some x → w.cell? ⟨b, off + i, none⟩ = some (.int .i64 x)
theorem IntsAt.ext {w w' : World} {v : Value} {l : List Int} (h : IntsAt w v l) (hE : Ext w w') : IntsAt w' v l := by
  rcases h with h | ⟨b, off, cap, h1, h2⟩
  · exact .inl h
  · exact .inr ⟨b, off, cap, h1, fun i r hr => hE.cell (h2 i r hr)⟩
theorem IntsAt.form {w : World} {v : Value} {l : List Int} (h : IntsAt w v l) : ∃ a c, v = .slice a l.length c := by
  rcases h with ⟨⟨a, c, h⟩, h'⟩ | ⟨b, off, cap, h1, h2⟩
  · exact ⟨a, c, by rw [h, h']; rfl⟩
  · exact ⟨_, _, h1⟩
theorem IntsAt.get {w : World} {l : List Int} {a : Option Addr} {n c : Nat} (h : IntsAt w (.slice a n c) l) {i : Nat} {x : Int} (hx : l[i]? = some x) :
    ∃ b off cs e fz, a = some ⟨b, off, none⟩ ∧ n = l.length ∧ w.heap[b]? = some (.cells cs e fz) ∧ cs[off + i]? = some (.int .i64 x) := by
  rcases h with ⟨h, h'⟩ | ⟨b, off, cap, h1, h2⟩
  · subst h'; simp at hx
  · simp only [Value.slice.injEq] at h1
    obtain ⟨rfl, rfl, rfl⟩ := h1
    obtain ⟨cs, e, fz, h3, h4⟩ := cell_obj (h2 i x hx)
    exact ⟨b, off, cs, e, fz, rfl, rfl, h3, h4⟩
/-- a slice of slices of integers -/
def IntssAt (w : World) (v : Value) (ll : List (List Int)) : Prop :=
  ((∃ a c, v = .slice a 0 c) ∧ ll = []) ∨ ∃ b off cap, v = .slice (some ⟨b, off, none⟩) ll.length cap ∧ ∀ i l, ll[i]? = some l → ∃ u, w.cell? ⟨b, off + i, none⟩ = some u ∧ IntsAt w u l
theorem IntssAt.ext {w w' : World} {v : Value} {ll : List (List Int)} (h : IntssAt w v ll) (hE : Ext w w') : IntssAt w' v ll := by
  rcases h with h | ⟨b, off, cap, h1, h2⟩
  · exact .inl h
  · exact .inr ⟨b, off, cap, h1, fun i r hr => let ⟨u, hu, hi⟩ := h2 i r hr; ⟨u, hE.cell hu, hi.ext hE⟩⟩
theorem IntssAt.form {w : World} {v : Value} {ll : List (List Int)} (h : IntssAt w v ll) : ∃ a c, v = .slice a ll.length c := by
  rcases h with ⟨⟨a, c, h⟩, h'⟩ | ⟨b, off, cap, h1, h2⟩
  · exact ⟨a, c, by rw [h, h']; rfl⟩
  · exact ⟨_, _, h1⟩
theorem IntssAt.get {w : World} {ll : List (List Int)} {a : Option Addr} {n c : Nat} (h : IntssAt w (.slice a n c) ll) {i : Nat} {l : List Int} (hx : ll[i]? = some l) :
    ∃ b off cs e fz u, a = some ⟨b, off, none⟩ ∧ n = ll.length ∧ w.heap[b]? = some (.cells cs e fz) ∧ cs[off + i]? = some u ∧ IntsAt w u l := by
  rcases h with ⟨h, h'⟩ | ⟨b, off, cap, h1, h2⟩
  · subst h'; simp at hx
  · simp only [Value.slice.injEq] at h1
    obtain ⟨rfl, rfl, rfl⟩ := h1
    obtain ⟨u, hu, hi⟩ := h2 i l hx
    obtain ⟨cs, e, fz, h3, h4⟩ := cell_obj hu
    exact ⟨b, off, cs, e, fz, u, rfl, rfl, h3, h4, hi⟩
end Go.W
