/-
  Slices of the call's own that grow by one element at a time.
-/
import Derived.Test.YtndkadphpbnpeaaV11
set_option linter.unusedSimpArgs false
set_option linter.unusedVariables false
namespace Go.W
open Go.RowKit
theorem YG_c {P : Program} {next : Fr → World → Prop} (J : Fr → World → Prop) {l : List VO} {ok : OK} {f : Fr} {w : World} {i : VI} {v : Value} {want : Bool} (h : YG P l J ok f w i v want) (hJ : ∀ f w, J f w → next f w) : YG P l next ok f w i v want :=
  G_mono (vi_mono (Y_mono hJ l)) (sk_mono (Y_mono hJ l)) h
theorem DW_c {P : Program} {next : Fr → World → Prop} (J : Fr → World → Prop) {d : List DI} {l : List VO} {f : Fr} {w : World} (h : DW P d (Y P l J) f w) (hJ : ∀ f w, J f w → next f w) : DW P d (Y P l next) f w := DW_mono (fun ok f w => Y_mono hJ l ok f w) h
theorem grown_trans {a b c : World} {row : Option Nat} (h : a.grownBy b row) (k : b.grownBy c row) : a.grownBy c row :=
  ⟨k.os.trans h.os, k.tape.trans h.tape, k.output.trans h.output, Nat.le_trans h.size k.size, fun i hi hne => (k.block i (Nat.lt_of_lt_of_le hi h.size) hne).trans (h.block i hi hne)⟩
/-- append(v, x), x in a new row of one element -/
theorem rV_app1 {P : Program} {w : World} {κ : Value → World → Prop} {base : Nat} {t ty e : TypeId} {size bytes : Nat} {z : Value} (he : elt P t = some e) (hs : szv P e = some size) (hb : byv P e = some bytes) (hz : zrv P e = some z)
    (hzs : z.cells.size = size) (hpos : 0 < size) {v : Value} {n : Nat} {xs : List Value} (hown : w.ownsRow base e size v n xs) {row : List Value} (hl : row.length = size) (h1 : row.all one = true) (h63 : n + 1 ≤ maxLen) (hbytes : (n + 1) * bytes ≤ 140737488355328) (hbase : base ≤ w.heap.size)
    (h : ∀ v' w', w'.ownsRow base e size v' (n + 1) (xs ++ row) → w.grownBy w' v.ownBlock → κ v' w') : RunV P (w.alloc (.cells row.toArray e (0, 0))) κ (Builtin.append_ #[t, t] ty #[v, .slice (some ⟨w.heap.size, 0, none⟩) 1 1]) := by
  refine rV_append he hs hb hz hzs hpos (hown.alloc (.cells row.toArray e (0, 0))) (news := row) (by omega) ?_ (fun u hu => List.all_eq_true.1 h1 u hu) h63 hbytes (by rw [alloc_size]; omega) ?_
  · intro j u hu
    rw [add_mk, cell_mk, alloc_get_new]
    simpa using hu
  · intro v' w' ho hg _
    exact h v' w' ho (grown_trans (World.grownBy_alloc w _ _) hg)
theorem Ext.grownO {w0 w w' : World} {base : Nat} {e : TypeId} {size : Nat} {v : Value} {n : Nat} {xs : List Value} (hE : Ext w0 w) (ho : w.ownsRow base e size v n xs) (hb : w0.heap.size ≤ base) (hg : w.grownBy w' v.ownBlock) : Ext w0 w' :=
  hE.grown hg fun k hk => Nat.le_trans hb (ho.lt k hk).1
/-- a slice of the call's own, its elements rows of cells -/
def OwnL {α : Type} (R : α → List Value) (base : Nat) (e : TypeId) (sz : Nat) (w : World) (v : Value) (L : List α) : Prop := w.ownsRow base e sz v L.length (L.map R).flatten
theorem OwnL.nil {α : Type} (R : α → List Value) (base : Nat) (e : TypeId) (sz : Nat) (w : World) : OwnL R base e sz w (.slice none 0 0) [] := World.ownsRow_nil w base e sz
theorem OwnL.form {α : Type} {R : α → List Value} {base : Nat} {e : TypeId} {sz : Nat} {w : World} {v : Value} {L : List α} (h : OwnL R base e sz w v L) : ∃ a c, v = .slice a L.length c := own_form h
theorem OwnL.alloc {α : Type} {R : α → List Value} {base : Nat} {e : TypeId} {sz : Nat} {w : World} {v : Value} {L : List α} (h : OwnL R base e sz w v L) (o : Obj) : OwnL R base e sz (w.alloc o) v L := World.ownsRow.alloc h o
theorem OwnL.ext {α : Type} {R : α → List Value} {base : Nat} {e : TypeId} {sz : Nat} {w w' : World} {v : Value} {L : List α} (h : OwnL R base e sz w v L) (hE : Ext w w') : OwnL R base e sz w' v L := own_ext h hE
theorem OwnL.sl {α : Type} {R : α → List Value} {base : Nat} {e : TypeId} {sz : Nat} {w : World} {v : Value} {L : List α} (h : OwnL R base e sz w v L) (hR : ∀ x, (R x).length = sz) : SlAt w v sz (L.map R) := by
  refine SlAt.of_own (base := base) (e := e) ?_ (by simpa [OwnL] using h)
  intro r hr
  obtain ⟨x, _, rfl⟩ := List.mem_map.1 hr
  exact hR x
theorem OwnL.app1 {α : Type} {R : α → List Value} {P : Program} {w : World} {κ : Value → World → Prop} {base : Nat} {t ty e : TypeId} {size bytes : Nat} {z : Value} (he : elt P t = some e) (hs : szv P e = some size) (hb : byv P e = some bytes) (hz : zrv P e = some z)
    (hzs : z.cells.size = size) (hpos : 0 < size) {v : Value} {L : List α} (hown : OwnL R base e size w v L) (x : α) (hl : (R x).length = size) (h1 : (R x).all one = true) (h63 : L.length + 1 ≤ 1000000) (hby : bytes ≤ 1000) (hbase : base ≤ w.heap.size)
    (h : ∀ v' w', OwnL R base e size w' v' (L ++ [x]) → (∀ w0, Ext w0 w → w0.heap.size ≤ base → Ext w0 w') → w.grownBy w' v.ownBlock → κ v' w') : RunV P (w.alloc (.cells (R x).toArray e (0, 0))) κ (Builtin.append_ #[t, t] ty #[v, .slice (some ⟨w.heap.size, 0, none⟩) 1 1]) := by
  refine rV_app1 he hs hb hz hzs hpos hown hl h1 (by unfold maxLen; omega) ?_ hbase ?_
  · calc (L.length + 1) * bytes ≤ 1000000 * 1000 := Nat.mul_le_mul h63 hby
      _ ≤ 140737488355328 := by omega
  · intro v' w' ho hg
    refine h v' w' ?_ (fun w0 hE hb0 => hE.grownO hown hb0 hg) hg
    have e5 : (L ++ [x]).length = L.length + 1 := by simp
    have e6 : ((L ++ [x]).map R).flatten = (L.map R).flatten ++ R x := by simp
    unfold OwnL
    rw [e5, e6]
    exact ho
end Go.W
