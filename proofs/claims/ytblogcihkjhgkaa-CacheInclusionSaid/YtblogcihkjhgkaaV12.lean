/-
  Slices of the call's own that grow by one element at a time.
-/
import Derived.Test.YtblogcihkjhgkaaV11
set_option linter.unusedSimpArgs false
set_option linter.unusedVariables false
namespace Go.W
open Go.RowKit
theorem YG_c {P : Program} {next : Fr → World → Prop} (J : Fr → World → Prop) {l : List VO} {ok : OK} {f : Fr} {w : World} {i : VI} {v : Value} {want : Bool} (h : YG P l J ok f w i v want) (hJ : ∀ f w, J f w → next f w) : YG P l next ok f w i v want :=
  G_mono (vi_mono (Y_mono hJ l)) (sk_mono (Y_mono hJ l)) h
theorem DW_c {P : Program} {next : Fr → World → Prop} (J : Fr → World → Prop) {d : List DI} {l : List VO} {f : Fr} {w : World} (h : DW P d (Y P l J) f w) (hJ : ∀ f w, J f w → next f w) : DW P d (Y P l next) f w := DW_mono (fun ok f w => Y_mono hJ l ok f w) h
theorem grown_trans {a b c : World} {row : Option Nat} (h : a.grownBy b row) (k : b.grownBy c row) : a.grownBy c row :=
  ⟨k.os.trans h.os, k.tape.trans h.tape, k.output.trans h.output, Nat.le_trans h.size k.size, fun i hi hne => (k.block i (Nat.lt_of_lt_of_le hi h.size) hne).trans (h.block i hi hne)⟩
/-- append(v, x), x in a new row of one element -/
theorem rV_app1 {P : Program} {w : World} {κ : Value → World → Prop} {base : Nat} {t ty e : TypeId} {size bytes : Nat} {z : Value} (he : elt P t = some e) (hs : szv P e = some size) (hb : byv P e = some bytes) (hz : zrv P e = some z)
    (hzs : z.cells.size = size) (hpos : 0 < size) {v : Value} {n : Nat} {xs : List Value} (hown : w.ownsRow base e size v n xs) {row : List Value} (hl : row.length = size) (h1 : row.all one = true) (h63 : n + 1 ≤ maxLen) (hbytes : (n + 1) * bytes ≤ 140737488355328) (hbase : base ≤ w.heap.size)
    (h : ∀ v' w', w'.ownsRow base e size v' (n + 1) (xs ++ row) → w.grownBy w' v.ownBlock → κ v' w') : RunV P (w.alloc (.cells row.toArray e (0, 0))) κ (Builtin.append_ #[t, t] ty #[v, .slice (some ⟨w.heap.size, 0, none⟩) 1 1]) := by
  refine rV_append he hs hb hz hzs hpos (hown.alloc (.cells row.toArray e (0, 0))) (news := row) (by omega) ?_ (fun u hu => List.all_eq_true.1 h1 u hu) h63 hbytes (by rw [alloc_size]; omega) ?_
  · intro j u hu
    rw [add_mk, cell_mk, alloc_get_new]
    simpa using hu
  · intro v' w' ho hg _
    exact h v' w' ho (grown_trans (World.grownBy_alloc w _ _) hg)
theorem Ext.grownO {w0 w w' : World} {base : Nat} {e : TypeId} {size : Nat} {v : Value} {n : Nat} {xs : List Value} (hE : Ext w0 w) (ho : w.ownsRow base e size v n xs) (hb : w0.heap.size ≤ base) (hg : w.grownBy w' v.ownBlock) : Ext w0 w' :=
  hE.grown hg fun k hk => Nat.le_trans hb (ho.lt k hk).1
/-- a slice of the call's own, its elements rows of cells -/
def OwnL {α : Type} (R : α → List Value) (base : Nat) (e : TypeId) (sz : Nat) (w : World) (v : Value) (L : List α) : Prop := w.ownsRow base e sz v L.length (L.map R).flatten
theorem OwnL.nil {α : Type} (R : α → List Value) (base : Nat) (e : TypeId) (sz : Nat) (w : World) : OwnL R base e sz w (.slice none 0 0) [] := World.ownsRow_nil w base e sz
theorem OwnL.form {α : Type} {R : α → List Value} {base : Nat} {e : TypeId} {sz : Nat} {w : World} {v : Value} {L : List α} (h : OwnL R base e sz w v L) : ∃ a c, v = .slice a L.length c := own_form h
theorem OwnL.alloc {α : Type} {R : α → List Value} {base : Nat} {e : TypeId} {sz : Nat} {w : World} {v : Value} {L : List α} (h : OwnL R base e sz w v L) (o : Obj) : OwnL R base e sz (w.alloc o) v L := World.ownsRow.alloc h o
theorem OwnL.ext {α : Type} {R : α → List Value} {base : Nat} {e : TypeId} {sz : Nat} {w w' : World} {v : Value} {L : List α} (h : OwnL R base e sz w v L) (hE : Ext w w') : OwnL R base e sz w' v L := own_ext h hE
theorem OwnL.sl {α : Type} {R : α → List Value} {base : Nat} {e : TypeId} {sz : Nat} {w : World} {v : Value} {L : List α} (h : OwnL R base e sz w v L) (hR : ∀ x, (R x).length = sz) : SlAt w v sz (L.map R) := by
  refine SlAt.of_own (base := base) (e := e) ?_ (by simpa [OwnL] using h)
  intro r hr
  obtain ⟨x, _, rfl⟩ := List.mem_map.1 hr
  exact hR x
theorem OwnL.app1 {α : Type} {R : α → List Value} {P : Program} {w : World} {κ : Value → World → Prop} {base : Nat} {t ty e : TypeId} {size bytes : Nat} {z : Value} (he : elt P t = some e) (hs : szv P e = some size) (hb : byv P e = some bytes) (hz : zrv P e = some z)
    (hzs : z.cells.size = size) (hpos : 0 < size) {v : Value} {L : List α} (hown : OwnL R base e size w v L) (x : α) (hl : (R x).length = size) (h1 : (R x).all one = true) (h63 : L.length + 1 ≤ 1000000) (hby : bytes ≤ 1000) (hbase : base ≤ w.heap.size)
    (h : ∀ v' w', OwnL R base e size w' v' (L ++ [x]) → (∀ w0, Ext w0 w → w0.heap.size ≤ base → Ext w0 w') → w.grownBy w' v.ownBlock → κ v' w') : RunV P (w.alloc (.cells (R x).toArray e (0, 0))) κ (Builtin.append_ #[t, t] ty #[v, .slice (some ⟨w.heap.size, 0, none⟩) 1 1]) := by
  refine rV_app1 he hs hb hz hzs hpos hown hl h1 (by unfold maxLen; omega) ?_ hbase ?_
  · calc (L.length + 1) * bytes ≤ 1000000 * 1000 := Nat.mul_le_mul h63 hby
      _ ≤ 140737488355328 := by omega
  · intro v' w' ho hg
    refine h v' w' ?_ (fun w0 hE hb0 => hE.grownO hown hb0 hg) hg
    have e5 : (L ++ [x]).length = L.length + 1 := by simp
    have e6 : ((L ++ [x]).map R).flatten = (L.map R).flatten ++ R x := by simp
    unfold OwnL
    rw [e5, e6]
    exact ho
/-- the next entry of a map that is ranged over; the world that follows behind a name -/
theorem rV_nextX {P : Program} {w : World} {κ : Value → World → Prop} {it r c : Nat} {seen : Array Nat} {l : List Ent} {ty : TypeId} (hi : w.heap[it]? = some (.mapIter (some r) c seen c)) (hr : w.heap[r]? = some (.map (mk l) c)) (hlt : ∀ p ∈ l, p.2.2 < c)
    (hdone : (∀ p ∈ l, p.2.2 ∈ seen) → κ (.tuple #[.bool false]) w)
    (hstep : ∀ p ∈ l, p.2.2 ∉ seen → ∀ w2, w2.heap[it]? = some (.mapIter (some r) c (seen.push p.2.2) c) → (∀ b, b ≠ it → w2.heap[b]? = w.heap[b]?) → (∀ w0, Ext w0 w → w0.heap.size ≤ it → Ext w0 w2) → κ (.tuple #[.bool true, .int .i64 p.1, p.2.1]) w2) :
    RunV P w κ (Instr.next (.pointer (some ⟨it, 0, none⟩)) false ty) := by
  refine rV_next hi hr hlt hdone fun p hp hn w1 hw1 => hstep p hp hn _ ?_ ?_ ?_
  · exact putb_get_same (by rcases hw1 with rfl | rfl <;> exact get_lt hi) _
  · intro b hb
    rw [putb_get_ne hb]
    rcases hw1 with rfl | rfl <;> rfl
  · intro w0 hE hb
    refine Ext.putb ?_ hb _
    rcases hw1 with rfl | rfl
    · exact hE
    · exact hE.drew
/-- two maps that hold the same have the same length -/
theorem mlen_eq {l l' : List Ent} {c c' : Nat} (h : MWF l c) (h' : MWF l' c') (hm : ∀ k, mget l k = mget l' k) : l.length = l'.length := by
  have hk : ∀ k, k ∈ l.map (·.1) ↔ k ∈ l'.map (·.1) := by
    intro k
    have e1 : ∀ (q : List Ent), k ∈ q.map (·.1) ↔ mget q k ≠ none := by
      intro q
      rw [ne_eq, mget_none]
      simp only [List.mem_map, ne_eq, Classical.not_forall, Classical.not_not, exists_prop]
    rw [e1, e1, hm]
  have hp : (l.map (·.1)).Perm (l'.map (·.1)) := (List.perm_ext_iff_of_nodup h.keys h'.keys).2 hk
  simpa using hp.length_eq
/-! ### maps, nil or not -/
def MapL (w : World) (x : Value) (l : List Ent) (c : Nat) : Prop := (x = .map none ∧ l = [] ∧ c = 0) ∨ ∃ r, x = .map (some r) ∧ w.heap[r]? = some (.map (mk l) c) ∧ MWF l c
theorem MapL.wf {w : World} {x : Value} {l : List Ent} {c : Nat} (h : MapL w x l c) : MWF l c := by
  rcases h with ⟨_, rfl, rfl⟩ | ⟨r, _, _, h⟩
  · exact MWF_nil
  · exact h
theorem MapL.ext {w w' : World} {x : Value} {l : List Ent} {c : Nat} (h : MapL w x l c) (hE : Ext w w') : MapL w' x l c := by
  rcases h with h | ⟨r, h1, h2, h3⟩
  · exact .inl h
  · exact .inr ⟨r, h1, hE.obj h2, h3⟩
/-- the map's own block is as it was -/
theorem MapL.heap {w w' : World} {x : Value} {l : List Ent} {c : Nat} (h : MapL w x l c) (hb : ∀ r, x = .map (some r) → w'.heap[r]? = w.heap[r]?) : MapL w' x l c := by
  rcases h with h | ⟨r, h1, h2, h3⟩
  · exact .inl h
  · exact .inr ⟨r, h1, (hb r h1).trans h2, h3⟩
theorem MapL.lt {w : World} {l : List Ent} {c r : Nat} (h : MapL w (.map (some r)) l c) : r < w.heap.size := by
  rcases h with ⟨h, _⟩ | ⟨r', h1, h2, _⟩
  · cases h
  · cases h1; exact get_lt h2
/-- an iterator -/
def ItAt (w : World) (it : Nat) (x : Value) (c : Nat) (seen : Array Nat) : Prop := ∃ r, x = .map r ∧ w.heap[it]? = some (.mapIter r c seen c)
section
variable {P : Program} {w : World} {κ : Value → World → Prop} {it c : Nat} {seen : Array Nat} {l : List Ent} {ty : TypeId} {x : Value}
theorem rV_rangeM {t : TypeId} (ht : isMapT P t = true) (h : MapL w x l c) (hk : ∀ w', w'.heap.size = w.heap.size + 1 → ItAt w' w.heap.size x c #[] → (∀ b, b ≠ w.heap.size → w'.heap[b]? = w.heap[b]?) → (∀ w0, Ext w0 w → Ext w0 w') → κ (.pointer (some ⟨w.heap.size, 0, none⟩)) w') :
    RunV P w κ (Instr.range t x) := by
  rcases h with ⟨rfl, rfl, rfl⟩ | ⟨r, rfl, hr, _⟩
  · exact rV_range_nil ht (hk _ (by simp) ⟨_, rfl, alloc_get_new _ _⟩ (fun b hb => by rw [alloc_get_if, if_neg hb]) fun w0 hE => hE.alloc _)
  · exact rV_range ht hr (hk _ (by simp) ⟨_, rfl, alloc_get_new _ _⟩ (fun b hb => by rw [alloc_get_if, if_neg hb]) fun w0 hE => hE.alloc _)
theorem rV_nextM (hi : ItAt w it x c seen) (h : MapL w x l c) (hdone : (∀ p ∈ l, p.2.2 ∈ seen) → κ (.tuple #[.bool false]) w)
    (hstep : ∀ p ∈ l, p.2.2 ∉ seen → ∀ w2, ItAt w2 it x c (seen.push p.2.2) → (∀ b, b ≠ it → w2.heap[b]? = w.heap[b]?) → (∀ w0, Ext w0 w → w0.heap.size ≤ it → Ext w0 w2) → κ (.tuple #[.bool true, .int .i64 p.1, p.2.1]) w2) :
    RunV P w κ (Instr.next (.pointer (some ⟨it, 0, none⟩)) false ty) := by
  obtain ⟨r, rfl, hi⟩ := hi
  rcases h with ⟨h1, rfl, rfl⟩ | ⟨r', h1, hr, hwf⟩
  · cases h1
    exact rV_next_nil hi (hdone (by simp))
  · cases h1
    exact rV_nextX hi hr hwf.lt hdone fun p hp hn w2 q1 q2 q3 => hstep p hp hn w2 ⟨_, rfl, q1⟩ q2 q3
theorem rV_entryM {p : Ent} (hi : ItAt w it x c (seen.push p.2.2)) (h : MapL w x l c) (hp : p ∈ l) (hk : κ (.tuple #[.int .i64 p.1, p.2.1]) w) : RunV P w κ (Instr.entry (.pointer (some ⟨it, 0, none⟩))) := by
  obtain ⟨r, rfl, hi⟩ := hi
  rcases h with ⟨h1, rfl, rfl⟩ | ⟨r', h1, hr, hwf⟩
  · simp at hp
  · cases h1
    exact rV_entry hi hr hwf.borns hp hk
theorem rV_lookupM {t e : TypeId} {z : Value} (ht : mpe P t = some e) (hz : zrv P e = some z) (h : MapL w x l c) {k : Int} {ok : Bool} (hk : κ (if ok then .tuple #[(mget l k).getD z, .bool (mget l k).isSome] else (mget l k).getD z) w) : RunV P w κ (Instr.lookup t x (.int .i64 k) ok) := by
  rcases h with ⟨rfl, rfl, rfl⟩ | ⟨r', rfl, hr, hwf⟩
  · exact rV_lookup_nil ht hz hk
  · exact rV_lookup ht hz hr hk
theorem sLenM {t : TypeId} (ht : isMapT P t = true) (h : MapL w x l c) : sLen P t x w = some (.int .i64 l.length, w) := by
  rcases h with ⟨rfl, rfl, rfl⟩ | ⟨r', rfl, hr, hwf⟩
  · simp [sLen, ht]
  · simp [sLen, hr, ht, mk_size]
end
end Go.W
