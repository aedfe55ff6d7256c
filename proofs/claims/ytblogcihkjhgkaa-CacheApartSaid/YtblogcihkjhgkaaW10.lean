/-
  What lasts: Ext. Operations that are met by a run: XV, XU. Maps with integer keys; owned slices that grow.
-/
import Derived.Test.YtblogcihkjhgkaaW9
import Derived.ProofKit
set_option linter.unusedSimpArgs false
set_option linter.unusedVariables false
namespace Go.W
open Go.RowKit
theorem cell_obj {w : World} {b o : Nat} {v : Value} (h : w.cell? ⟨b, o, none⟩ = some v) : ∃ cs e fz, w.heap[b]? = some (.cells cs e fz) ∧ cs[o]? = some v := by
  rw [cell_mk] at h
  split at h
  · rename_i cs e fz hb; exact ⟨cs, e, fz, hb, h⟩
  · simp at h
/-! ### operations that are met by a run -/
def XV (P : Program) (all rest : List Oper) (K : Fr → World → Prop) (d : Option Nat) (f : Fr) (w : World) (s : Sem Value) : Prop :=
  match s.run P w with
  | .ok v w' => X P all rest K (updO f d v) w'
  | .halt _ _ => False
def XU (P : Program) (all rest : List Oper) (K : Fr → World → Prop) (d : Option Nat) (f : Fr) (w : World) (s : Sem Unit) : Prop :=
  match s.run P w with
  | .ok _ w' => X P all rest K (updO f d undef) w'
  | .halt _ _ => False
section
variable {P : Program} {all rest : List Oper} {K : Fr → World → Prop} {d : Option Nat} {f : Fr} {w : World}
theorem XV_of {s : Sem Value} {v : Value} {w' : World} (hr : s.run P w = .ok v w') (h : X P all rest K (updO f d v) w') : XV P all rest K d f w s := by
  unfold XV; rw [hr]; exact h
theorem XU_of {s : Sem Unit} {w' : World} (hr : s.run P w = .ok () w') (h : X P all rest K (updO f d undef) w') : XU P all rest K d f w s := by
  unfold XU; rw [hr]; exact h
theorem XV_ex {s : Sem Value} {Φ : Value → World → Prop} (hr : ∃ v w', s.run P w = .ok v w' ∧ Φ v w') (h : ∀ v w', Φ v w' → X P all rest K (updO f d v) w') : XV P all rest K d f w s := by
  obtain ⟨v, w', hr, hp⟩ := hr
  exact XV_of hr (h v w' hp)
end
theorem raw_XV {P : Program} {K : Value → World → Prop} {w : World} (s : Sem Value) :
    upon P K ((s >>= fun a => pure (Next.value a)).run P w) = (match s.run P w with | .ok v w' => K v w' | .halt _ _ => False) := by
  rw [run_bind]
  cases s.run P w with
  | ok a w' => rfl
  | halt h w' => cases h <;> rfl
theorem raw_XU {P : Program} {K : Value → World → Prop} {w : World} (s : Sem Unit) :
    upon P K ((s >>= fun _ => pure Next.skip).run P w) = (match s.run P w with | .ok _ w' => K undef w' | .halt _ _ => False) := by
  rw [run_bind]
  cases s.run P w with
  | ok a w' => rfl
  | halt h w' => cases h <;> rfl
section
variable (P : Program) (all rest : List Oper) (K : Fr → World → Prop) (d : Option Nat) (f : Fr) (w : World) (ty : TypeId)
theorem XO_lookup (t : TypeId) (x i : Operand) (ok : Bool) : XO P all rest K d f w (.lookup t x i ok) ty = XV P all rest K d f w (Instr.lookup t (ev f x) (ev f i) ok) := raw_XV _
theorem XO_range (t : TypeId) (x : Operand) : XO P all rest K d f w (.range t x) ty = XV P all rest K d f w (Instr.range t (ev f x)) := raw_XV _
theorem XO_next (x : Operand) (s : Bool) : XO P all rest K d f w (.next x s) ty = XV P all rest K d f w (Instr.next (ev f x) s ty) := raw_XV _
theorem XO_entry (x : Operand) : XO P all rest K d f w (.entry x) ty = XV P all rest K d f w (Instr.entry (ev f x)) := raw_XV _
theorem XO_mapUpdate (t : TypeId) (m k v : Operand) : XO P all rest K d f w (.mapUpdate t m k v) ty = XU P all rest K d f w (Instr.mapUpdate t (ev f m) (ev f k) (ev f v)) := raw_XU _
theorem XO_append (s x : Operand) (ts : Array TypeId) : XO P all rest K d f w (.call ⟨.builtin .append, #[s, x], ts⟩) ty = XV P all rest K d f w (Builtin.append_ ts ty #[ev f s, ev f x]) := by
  refine Eq.trans ?_ (raw_XV (P := P) (K := fun v w' => X P all rest K (updO f d v) w') (w := w) (Builtin.append_ ts ty #[ev f s, ev f x]))
  simp only [XO, opW, callW, raw, execOp, resolve, invoke, builtin, run_bind, Sem.run, pure, List.map_toArray, List.map_cons, List.map_nil]
theorem XO_delete (s x : Operand) (ts : Array TypeId) : XO P all rest K d f w (.call ⟨.builtin .delete, #[s, x], ts⟩) ty = XV P all rest K d f w (Builtin.delete_ ts ty #[ev f s, ev f x]) := by
  refine Eq.trans ?_ (raw_XV (P := P) (K := fun v w' => X P all rest K (updO f d v) w') (w := w) (Builtin.delete_ ts ty #[ev f s, ev f x]))
  simp only [XO, opW, callW, raw, execOp, resolve, invoke, builtin, run_bind, Sem.run, pure, List.map_toArray, List.map_cons, List.map_nil]
theorem XO_copy (s x : Operand) (ts : Array TypeId) : XO P all rest K d f w (.call ⟨.builtin .copy, #[s, x], ts⟩) ty = XV P all rest K d f w (Builtin.copy_ ts ty #[ev f s, ev f x]) := by
  refine Eq.trans ?_ (raw_XV (P := P) (K := fun v w' => X P all rest K (updO f d v) w') (w := w) (Builtin.copy_ ts ty #[ev f s, ev f x]))
  simp only [XO, opW, callW, raw, execOp, resolve, invoke, builtin, run_bind, Sem.run, pure, List.map_toArray, List.map_cons, List.map_nil]
end

/-! ### maps with integer keys -/
abbrev Ent := Int × Value × Nat
def mk (l : List Ent) : Array MapEntry := (l.map fun p => (⟨.int .i64 p.1, p.2.1, p.2.2⟩ : MapEntry)).toArray
def mget (l : List Ent) (k : Int) : Option Value := (l.find? (·.1 == k)).map (·.2.1)
def mdel (l : List Ent) (k : Int) : List Ent := l.filter (·.1 != k)
def mset (l : List Ent) (c : Nat) (k : Int) (v : Value) : List Ent × Nat :=
  if (mget l k).isSome then (l.map fun p => if p.1 = k then (k, v, p.2.2) else p, c) else (l ++ [(k, v, c)], c + 1)
structure MWF (l : List Ent) (c : Nat) : Prop where
  keys : (l.map (·.1)).Nodup
  borns : (l.map (·.2.2)).Nodup
  lt : ∀ p ∈ l, p.2.2 < c
theorem MWF_nil : MWF [] 0 := ⟨by simp, by simp, by simp⟩
theorem mget_nil (k : Int) : mget [] k = none := rfl
theorem mget_cons (p : Ent) (l : List Ent) (k : Int) : mget (p :: l) k = if p.1 = k then some p.2.1 else mget l k := by
  unfold mget
  by_cases h : p.1 = k <;> simp [List.find?_cons, h]
theorem mget_none {l : List Ent} {k : Int} : mget l k = none ↔ ∀ p ∈ l, p.1 ≠ k := by
  induction l with
  | nil => simp [mget_nil]
  | cons p l ih => rw [mget_cons]; by_cases h : p.1 = k <;> simp [h, ih]
theorem mget_mem {l : List Ent} (hk : (l.map (·.1)).Nodup) {p : Ent} (hp : p ∈ l) : mget l p.1 = some p.2.1 := by
  induction l with
  | nil => cases hp
  | cons q l ih =>
    rw [mget_cons]
    simp only [List.map_cons, List.nodup_cons] at hk
    cases hp with
    | head => simp
    | tail _ h =>
      have : q.1 ≠ p.1 := fun e => hk.1 (e ▸ List.mem_map.2 ⟨p, h, rfl⟩)
      rw [if_neg this, ih hk.2 h]
theorem mget_some_mem {l : List Ent} {k : Int} {v : Value} (h : mget l k = some v) : ∃ b, (k, v, b) ∈ l := by
  induction l with
  | nil => simp [mget_nil] at h
  | cons q l ih =>
    rw [mget_cons] at h
    by_cases e : q.1 = k
    · rw [if_pos e] at h
      obtain ⟨a, b, c⟩ := q
      simp only [Option.some.injEq] at h e
      subst e h
      exact ⟨c, by simp⟩
    · rw [if_neg e] at h
      obtain ⟨b, hb⟩ := ih h
      exact ⟨b, by simp [hb]⟩
theorem mget_append (l l' : List Ent) (k : Int) : mget (l ++ l') k = (mget l k).or (mget l' k) := by
  induction l with
  | nil => simp [mget_nil]
  | cons p l ih => rw [List.cons_append, mget_cons, mget_cons, ih]; by_cases h : p.1 = k <;> simp [h]
theorem mget_mdel (l : List Ent) (k k' : Int) : mget (mdel l k) k' = if k' = k then none else mget l k' := by
  induction l with
  | nil => simp [mdel, mget_nil]
  | cons p l ih =>
    unfold mdel at *
    rw [List.filter_cons]
    by_cases h : p.1 = k
    · simp only [h, bne_self_eq_false, Bool.false_eq_true, if_false, ih]
      by_cases e : k' = k
      · simp [e]
      · rw [if_neg e, if_neg e, mget_cons, if_neg (by rw [h]; exact fun x => e x.symm)]
    · simp only [bne_iff_ne, ne_eq, h, not_false_eq_true, if_true, mget_cons, ih]
      by_cases e : k' = k
      · simp [e, h]
      · simp [e]
theorem mget_map_set (l : List Ent) (k : Int) (v : Value) (k' : Int) : mget (l.map fun p => if p.1 = k then (k, v, p.2.2) else p) k' = if k' = k then (mget l k).map (fun _ => v) else mget l k' := by
  induction l with
  | nil => simp [mget_nil]
  | cons p l ih =>
    rw [List.map_cons, mget_cons, ih, mget_cons, mget_cons]
    by_cases h : p.1 = k
    · by_cases e : k' = k
      · simp [h, e]
      · have : ¬ k = k' := fun x => e x.symm
        simp [h, e, this]
    · by_cases e : k' = k
      · subst e; simp [h]
      · simp [h, e]
theorem mget_mset (l : List Ent) (c : Nat) (k : Int) (v : Value) (k' : Int) : mget (mset l c k v).1 k' = if k' = k then some v else mget l k' := by
  unfold mset
  cases h : mget l k with
  | some u =>
    simp only [Option.isSome_some, if_true]
    rw [mget_map_set, h]; rfl
  | none =>
    simp only [Option.isSome_none, Bool.false_eq_true, if_false]
    rw [mget_append, mget_cons, mget_nil]
    by_cases e : k' = k
    · subst e; simp [h]
    · have : ¬ k = k' := fun x => e x.symm
      simp [e, this]
theorem MWF.del {l : List Ent} {c : Nat} (h : MWF l c) (k : Int) : MWF (mdel l k) c := by
  unfold mdel
  exact ⟨h.keys.sublist (List.Sublist.map _ List.filter_sublist), h.borns.sublist (List.Sublist.map _ List.filter_sublist), fun p hp => h.lt p (List.mem_filter.1 hp).1⟩
theorem map_keys_set (l : List Ent) (k : Int) (v : Value) : (l.map fun p => if p.1 = k then (k, v, p.2.2) else p).map (·.1) = l.map (·.1) := by
  rw [List.map_map]; apply List.map_congr_left; intro p hp; simp only [Function.comp]; split <;> simp_all
theorem map_borns_set (l : List Ent) (k : Int) (v : Value) : (l.map fun p => if p.1 = k then (k, v, p.2.2) else p).map (·.2.2) = l.map (·.2.2) := by
  rw [List.map_map]; apply List.map_congr_left; intro p hp; simp only [Function.comp]; split <;> simp_all
theorem MWF.set {l : List Ent} {c : Nat} (h : MWF l c) (k : Int) (v : Value) : MWF (mset l c k v).1 (mset l c k v).2 := by
  unfold mset
  split
  · refine ⟨by rw [map_keys_set]; exact h.keys, by rw [map_borns_set]; exact h.borns, ?_⟩
    intro p hp
    obtain ⟨q, hq, rfl⟩ := List.mem_map.1 hp
    have := h.lt q hq
    split <;> simpa using this
  · rename_i hn
    have hnone : mget l k = none := by cases hm : mget l k <;> simp_all
    refine ⟨?_, ?_, ?_⟩
    · simp only [List.map_append, List.map_cons, List.map_nil]
      rw [List.nodup_append]
      refine ⟨h.keys, by simp, ?_⟩
      intro a ha b hb
      simp only [List.mem_singleton] at hb
      obtain ⟨p, hp, rfl⟩ := List.mem_map.1 ha
      subst hb
      exact mget_none.1 hnone p hp
    · simp only [List.map_append, List.map_cons, List.map_nil]
      rw [List.nodup_append]
      refine ⟨h.borns, by simp, ?_⟩
      intro a ha b hb
      simp only [List.mem_singleton] at hb
      obtain ⟨p, hp, rfl⟩ := List.mem_map.1 ha
      subst hb
      have := h.lt p hp
      omega
    · intro p hp
      simp only [List.mem_append, List.mem_singleton] at hp
      rcases hp with hp | rfl
      · have := h.lt p hp
        simp only []
        omega
      · simp
theorem mk_size (l : List Ent) : (mk l).size = l.length := by simp [mk]
theorem mk_toList (l : List Ent) : (mk l).toList = l.map fun p => (⟨.int .i64 p.1, p.2.1, p.2.2⟩ : MapEntry) := by simp [mk]

/-- the number of the entry of a key -/
theorem findNow_mk (k : Int) : ∀ (l : List Ent) (i : Nat), Instr.findNow (.int .i64) (.int .i64 k) (l.map fun p => (⟨.int .i64 p.1, p.2.1, p.2.2⟩ : MapEntry)) i =
    some ((l.findIdx? (·.1 == k)).bind fun j => (mget l k).map fun v => (i + j, v)) := by
  intro l
  induction l with
  | nil => intro i; simp [Instr.findNow]
  | cons p l ih =>
    intro i
    simp only [List.map_cons, Instr.findNow, Instr.sameNow, if_true, List.findIdx?_cons]
    by_cases h : k = p.1
    · subst h; simp [mget_cons]
    · have h' : ¬ p.1 = k := fun e => h e.symm
      have hb : (k == p.1) = false := by simp [h]
      have hb' : (p.1 == k) = false := by simp [h']
      simp only [hb, hb', ih, mget_cons, h', if_false]
      cases hf : l.findIdx? (·.1 == k) with
      | none => simp
      | some j => simp [Nat.add_assoc, Nat.add_comm 1]
theorem findIdx_none {l : List Ent} {k : Int} (h : mget l k = none) : l.findIdx? (·.1 == k) = none := by
  rw [List.findIdx?_eq_none_iff]
  intro p hp
  simpa using mget_none.1 h p hp
theorem findIdx_some {l : List Ent} {k : Int} {v : Value} (h : mget l k = some v) : ∃ j, l.findIdx? (·.1 == k) = some j := by
  cases hf : l.findIdx? (·.1 == k) with
  | some j => exact ⟨j, rfl⟩
  | none =>
    rw [List.findIdx?_eq_none_iff] at hf
    obtain ⟨b, hb⟩ := mget_some_mem h
    have := hf _ hb
    simp at this
/-- the map type t has integer keys; its elements' type -/
def mpe (P : Program) (t : TypeId) : Option TypeId := match P.underlying t with | some (.map k e) => if kd P k = some .i64 then some e else none | _ => none
theorem mpe_spec {P : Program} {t e : TypeId} (h : mpe P t = some e) : ∃ k, P.underlying t = some (.map k e) ∧ P.underlying k = some (.int .i64) := by
  unfold mpe at h
  split at h
  · rename_i k e' hu
    split at h
    · rename_i hk
      simp only [Option.some.injEq] at h
      subst h
      exact ⟨k, hu, kd_spec hk⟩
    · simp at h
  · simp at h
theorem run_checkKey_int {P : Program} {w : World} {k : TypeId} (hk : P.underlying k = some (.int .i64)) (b : Bool) (n : Int) : (Instr.checkKey b 10000 k (.int .i64 n)).run P w = .ok () w := by
  unfold Instr.checkKey
  simp only [run_bind, run_underlying hk]
  rfl
theorem run_findKey_mk {P : Program} {w : World} {kt : TypeId} (hk : P.underlying kt = some (.int .i64)) (k : Int) (l : List Ent) :
    (Instr.findKey kt (.int .i64 k) (mk l).toList).run P w = .ok ((l.findIdx? (·.1 == k)).bind fun j => (mget l k).map fun v => (j, v)) w := by
  unfold Instr.findKey
  simp only [run_bind, run_underlying hk, mk_toList, findNow_mk, Nat.zero_add]
  rfl
theorem run_lookup {P : Program} {w : World} {t e : TypeId} {z : Value} {r c : Nat} {l : List Ent} (ht : mpe P t = some e) (hz : zrv P e = some z) (hr : w.heap[r]? = some (.map (mk l) c)) (k : Int) (ok : Bool) :
    (Instr.lookup t (.map (some r)) (.int .i64 k) ok).run P w = .ok (if ok then .tuple #[(mget l k).getD z, .bool (mget l k).isSome] else (mget l k).getD z) w := by
  obtain ⟨kt, h1, h2⟩ := mpe_spec ht
  unfold Instr.lookup
  simp only [run_bind, run_underlying h1, run_getObj hr, run_checkKey_int h2, run_findKey_mk h2, Sem.run, pure]
  cases hm : mget l k with
  | none => simp only [findIdx_none hm, Option.bind_none, run_bind, run_zeroValue hz, Sem.run]; cases ok <;> simp
  | some v =>
    obtain ⟨j, hj⟩ := findIdx_some hm
    simp only [hj, Option.bind_some, Option.map_some, Sem.run]; cases ok <;> simp
theorem run_lookup_nil {P : Program} {w : World} {t e : TypeId} {z : Value} (ht : mpe P t = some e) (hz : zrv P e = some z) (k : Int) (ok : Bool) :
    (Instr.lookup t (.map none) (.int .i64 k) ok).run P w = .ok (if ok then .tuple #[z, .bool false] else z) w := by
  obtain ⟨kt, h1, h2⟩ := mpe_spec ht
  unfold Instr.lookup
  simp only [run_bind, run_underlying h1, run_checkKey_int h2, Sem.run, pure]
  have := run_findKey_mk (P := P) (w := w) h2 k []
  simp only [mk, List.map_nil] at this
  simp only [this, List.findIdx?_nil, Option.bind_none, run_bind, run_zeroValue hz, Sem.run]
theorem run_setObj {P : Program} {r : Nat} {w : World} {es : Array MapEntry} {c : Nat} (h : w.heap[r]? = some (.map es c)) (o : Obj) : (Go.setObj r o).run P w = .ok () (w.putb r o) := by
  simp [Go.setObj, Sem.run, h, World.putb]
theorem mk_modify (l : List Ent) (k : Int) (v : Value) (hk : (l.map (·.1)).Nodup) (j : Nat) (hj : l.findIdx? (·.1 == k) = some j) :
    (mk l).modify j (fun e => { e with key := .int .i64 k, val := v }) = mk (l.map fun p => if p.1 = k then (k, v, p.2.2) else p) := by
  apply Array.ext'
  rw [Array.toList_modify, mk_toList, mk_toList, List.map_map]
  obtain ⟨hlt, hjk, hjb⟩ := List.findIdx?_eq_some_iff_getElem.1 hj
  simp only [beq_iff_eq] at hjk
  apply List.ext_getElem
  · simp
  · intro i h1 h2
    simp only [List.length_modify, List.length_map] at h1
    rw [List.getElem_modify]
    simp only [List.getElem_map, Function.comp]
    by_cases e : j = i
    · subst e; simp [hjk]
    · have : ¬ l[i].1 = k := by
        intro he
        have hn := List.pairwise_iff_getElem.1 hk
        rcases Nat.lt_or_gt_of_ne e with hlt' | hgt
        · exact hn j i (by simpa using hlt) (by simpa using h1) hlt' (by simp [hjk, he])
        · exact hn i j (by simpa using h1) (by simpa using hlt) hgt (by simp [hjk, he])
      simp [e, this]
theorem run_mapUpdate {P : Program} {w : World} {t e : TypeId} {r c : Nat} {l : List Ent} (ht : mpe P t = some e) (hr : w.heap[r]? = some (.map (mk l) c)) (hk : (l.map (·.1)).Nodup) (k : Int) (v : Value) :
    (Instr.mapUpdate t (.map (some r)) (.int .i64 k) v).run P w = .ok () (w.putb r (.map (mk (mset l c k v).1) (mset l c k v).2)) := by
  obtain ⟨kt, h1, h2⟩ := mpe_spec ht
  unfold Instr.mapUpdate
  simp only [run_bind, run_underlying h1, run_getObj hr, run_checkKey_int h2, run_findKey_mk h2]
  unfold mset
  cases hm : mget l k with
  | none =>
    simp only [findIdx_none hm, Option.bind_none, run_setObj hr, Option.isSome_none, Bool.false_eq_true, if_false]
    congr 3
    apply Array.ext'
    rw [Array.toList_push, mk_toList, mk_toList]
    simp
  | some u =>
    obtain ⟨j, hj⟩ := findIdx_some hm
    obtain ⟨hlt, hjk, _⟩ := List.findIdx?_eq_some_iff_getElem.1 hj
    simp only [beq_iff_eq] at hjk
    have hkey : ((((mk l)[j]?).map (·.key)).getD (.int .i64 k)) = .int .i64 k := by
      have : (mk l)[j]? = some ⟨.int .i64 l[j].1, l[j].2.1, l[j].2.2⟩ := by simp [mk, hlt]
      rw [this]; simp [hjk]
    simp only [hj, Option.bind_some, Option.map_some, run_bind, hkey, Option.isSome_some, if_true]
    have hks : (Instr.keyThatStays (.int .i64 k) (.int .i64 k)).run P w = .ok (.int .i64 k) w := by
      unfold Instr.keyThatStays
      simp [Instr.sameBits, Sem.run, pure]
    simp only [hks, run_setObj hr]
    congr 3
    exact mk_modify l k v hk j hj
theorem eraseIdx_map' {α β : Type} (g : α → β) : ∀ (l : List α) (j : Nat), (l.map g).eraseIdx j = (l.eraseIdx j).map g
  | [], j => by simp
  | x :: l, 0 => by simp
  | x :: l, j + 1 => by simp [eraseIdx_map' g l j]
theorem mk_erase (l : List Ent) (k : Int) (hk : (l.map (·.1)).Nodup) (j : Nat) (hj : l.findIdx? (·.1 == k) = some j) : (mk l).eraseIdxIfInBounds j = mk (mdel l k) := by
  obtain ⟨hlt, hjk, hjb⟩ := List.findIdx?_eq_some_iff_getElem.1 hj
  simp only [beq_iff_eq] at hjk
  have e1 : l.eraseIdx j = mdel l k := by
    unfold mdel
    clear hj hjb
    induction l generalizing j with
    | nil => simp at hlt
    | cons p l ih =>
      simp only [List.map_cons, List.nodup_cons] at hk
      cases j with
      | zero =>
        simp only [List.getElem_cons_zero] at hjk
        simp only [List.eraseIdx_cons_zero, List.filter_cons, hjk, bne_self_eq_false, Bool.false_eq_true, if_false]
        symm
        rw [List.filter_eq_self]
        intro q hq
        simp only [bne_iff_ne, ne_eq]
        intro e
        exact hk.1 (by rw [hjk, ← e]; exact List.mem_map.2 ⟨q, hq, rfl⟩)
      | succ j =>
        simp only [List.getElem_cons_succ, List.length_cons] at hjk hlt
        have hne : p.1 ≠ k := by
          intro e
          exact hk.1 (by rw [e, ← hjk]; exact List.mem_map.2 ⟨_, List.getElem_mem _, rfl⟩)
        simp only [List.eraseIdx_cons_succ, List.filter_cons, bne_iff_ne, ne_eq, hne, not_false_eq_true, if_true]
        rw [ih hk.2 j (by omega) hjk]
  apply Array.ext'
  have hsz : j < (mk l).size := by rw [mk_size]; exact hlt
  rw [Array.eraseIdxIfInBounds, dif_pos hsz, Array.toList_eraseIdx, mk_toList, mk_toList, ← e1, eraseIdx_map']
theorem run_delete {P : Program} {w : World} {t kt0 e ty : TypeId} {r c : Nat} {l : List Ent} (ht : mpe P t = some e) (hr : w.heap[r]? = some (.map (mk l) c)) (hk : (l.map (·.1)).Nodup) (k : Int) :
    (Builtin.delete_ #[t, kt0] ty #[.map (some r), .int .i64 k]).run P w = .ok (.tuple #[]) (w.putb r (.map (mk (mdel l k)) c)) := by
  obtain ⟨kt, h1, h2⟩ := mpe_spec ht
  unfold Builtin.delete_
  simp only [List.getElem?_toArray, List.getElem?_cons_zero, List.getElem?_cons_succ, run_bind, run_underlying h1, run_getObj hr, run_checkKey_int h2, run_findKey_mk h2]
  cases hm : mget l k with
  | none =>
    have e1 : mdel l k = l := by
      unfold mdel
      rw [List.filter_eq_self]
      intro p hp
      simpa using mget_none.1 hm p hp
    simp only [findIdx_none hm, Option.bind_none, run_bind, run_setObj hr, e1]
    rfl
  | some u =>
    obtain ⟨j, hj⟩ := findIdx_some hm
    simp only [hj, Option.bind_some, Option.map_some, run_bind, run_setObj hr, mk_erase l k hk j hj]
    rfl
end Go.W
