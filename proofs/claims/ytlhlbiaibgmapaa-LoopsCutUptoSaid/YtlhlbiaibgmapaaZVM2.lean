/-
  Maps whose keys are pairs of integers ([2]int): printed by mkVM2.py out of the texts for integer keys.
-/
import Derived.Test.YtlhlbiaibgmapaaZU
import Derived.WideKeyRuns
set_option linter.unusedSimpArgs false
set_option linter.unusedVariables false
set_option linter.defProp false
namespace Go.W.P2
open Go.RowKit Go.W
abbrev ky (p : Int × Int) : Value := .agg #[.int .i64 p.1, .int .i64 p.2]
abbrev Ent := (Int × Int) × Value × Nat
def mk (l : List Ent) : Array MapEntry := (l.map fun p => (⟨ky p.1, p.2.1, p.2.2⟩ : MapEntry)).toArray
def mget (l : List Ent) (k : Int × Int) : Option Value := (l.find? (·.1 == k)).map (·.2.1)
def mdel (l : List Ent) (k : Int × Int) : List Ent := l.filter (·.1 != k)
def mset (l : List Ent) (c : Nat) (k : Int × Int) (v : Value) : List Ent × Nat :=
  if (mget l k).isSome then (l.map fun p => if p.1 = k then (k, v, p.2.2) else p, c) else (l ++ [(k, v, c)], c + 1)
structure MWF (l : List Ent) (c : Nat) : Prop where
  keys : (l.map (·.1)).Nodup
  borns : (l.map (·.2.2)).Nodup
  lt : ∀ p ∈ l, p.2.2 < c
theorem MWF_nil : MWF [] 0 := ⟨by simp, by simp, by simp⟩
theorem mget_nil (k : Int × Int) : mget [] k = none := rfl
theorem mget_cons (p : Ent) (l : List Ent) (k : Int × Int) : mget (p :: l) k = if p.1 = k then some p.2.1 else mget l k := by
  unfold mget
  by_cases h : p.1 = k <;> simp [List.find?_cons, h]
theorem mget_none {l : List Ent} {k : Int × Int} : mget l k = none ↔ ∀ p ∈ l, p.1 ≠ k := by
  induction l with
  | nil => simp [mget_nil]
  | cons p l ih => rw [mget_cons]; by_cases h : p.1 = k <;> simp [h, ih]
theorem mget_mem {l : List Ent} (hk : (l.map (·.1)).Nodup) {p : Ent} (hp : p ∈ l) : mget l p.1 = some p.2.1 := by
  induction l with
  | nil => cases hp
  | cons q l ih =>
    rw [mget_cons]
    simp only [List.map_cons, List.nodup_cons] at hk
    cases hp with
    | head => simp
    | tail _ h =>
      have : q.1 ≠ p.1 := fun e => hk.1 (e ▸ List.mem_map.2 ⟨p, h, rfl⟩)
      rw [if_neg this, ih hk.2 h]
theorem mget_some_mem {l : List Ent} {k : Int × Int} {v : Value} (h : mget l k = some v) : ∃ b, (k, v, b) ∈ l := by
  induction l with
  | nil => simp [mget_nil] at h
  | cons q l ih =>
    rw [mget_cons] at h
    by_cases e : q.1 = k
    · rw [if_pos e] at h
      obtain ⟨a, b, c⟩ := q
      simp only [Option.some.injEq] at h e
      subst e h
      exact ⟨c, by simp⟩
    · rw [if_neg e] at h
      obtain ⟨b, hb⟩ := ih h
      exact ⟨b, by simp [hb]⟩
theorem mget_append (l l' : List Ent) (k : Int × Int) : mget (l ++ l') k = (mget l k).or (mget l' k) := by
  induction l with
  | nil => simp [mget_nil]
  | cons p l ih => rw [List.cons_append, mget_cons, mget_cons, ih]; by_cases h : p.1 = k <;> simp [h]
theorem mget_mdel (l : List Ent) (k k' : Int × Int) : mget (mdel l k) k' = if k' = k then none else mget l k' := by
  induction l with
  | nil => simp [mdel, mget_nil]
  | cons p l ih =>
    unfold mdel at *
    rw [List.filter_cons]
    by_cases h : p.1 = k
    · simp only [h, bne_self_eq_false, Bool.false_eq_true, if_false, ih]
      by_cases e : k' = k
      · simp [e]
      · rw [if_neg e, if_neg e, mget_cons, if_neg (by rw [h]; exact fun x => e x.symm)]
    · simp only [bne_iff_ne, ne_eq, h, not_false_eq_true, if_true, mget_cons, ih]
      by_cases e : k' = k
      · simp [e, h]
      · simp [e]
theorem mget_map_set (l : List Ent) (k : Int × Int) (v : Value) (k' : Int × Int) : mget (l.map fun p => if p.1 = k then (k, v, p.2.2) else p) k' = if k' = k then (mget l k).map (fun _ => v) else mget l k' := by
  induction l with
  | nil => simp [mget_nil]
  | cons p l ih =>
    rw [List.map_cons, mget_cons, ih, mget_cons, mget_cons]
    by_cases h : p.1 = k
    · by_cases e : k' = k
      · simp [h, e]
      · have : ¬ k = k' := fun x => e x.symm
        simp [h, e, this]
    · by_cases e : k' = k
      · subst e; simp [h]
      · simp [h, e]
theorem mget_mset (l : List Ent) (c : Nat) (k : Int × Int) (v : Value) (k' : Int × Int) : mget (mset l c k v).1 k' = if k' = k then some v else mget l k' := by
  unfold mset
  cases h : mget l k with
  | some u =>
    simp only [Option.isSome_some, if_true]
    rw [mget_map_set, h]; rfl
  | none =>
    simp only [Option.isSome_none, Bool.false_eq_true, if_false]
    rw [mget_append, mget_cons, mget_nil]
    by_cases e : k' = k
    · subst e; simp [h]
    · have : ¬ k = k' := fun x => e x.symm
      simp [e, this]
theorem MWF.del {l : List Ent} {c : Nat} (h : MWF l c) (k : Int × Int) : MWF (mdel l k) c := by
  unfold mdel
  exact ⟨h.keys.sublist (List.Sublist.map _ List.filter_sublist), h.borns.sublist (List.Sublist.map _ List.filter_sublist), fun p hp => h.lt p (List.mem_filter.1 hp).1⟩
theorem map_keys_set (l : List Ent) (k : Int × Int) (v : Value) : (l.map fun p => if p.1 = k then (k, v, p.2.2) else p).map (·.1) = l.map (·.1) := by
  rw [List.map_map]; apply List.map_congr_left; intro p hp; simp only [Function.comp]; split <;> simp_all
theorem map_borns_set (l : List Ent) (k : Int × Int) (v : Value) : (l.map fun p => if p.1 = k then (k, v, p.2.2) else p).map (·.2.2) = l.map (·.2.2) := by
  rw [List.map_map]; apply List.map_congr_left; intro p hp; simp only [Function.comp]; split <;> simp_all
theorem MWF.set {l : List Ent} {c : Nat} (h : MWF l c) (k : Int × Int) (v : Value) : MWF (mset l c k v).1 (mset l c k v).2 := by
  unfold mset
  split
  · refine ⟨by rw [map_keys_set]; exact h.keys, by rw [map_borns_set]; exact h.borns, ?_⟩
    intro p hp
    obtain ⟨q, hq, rfl⟩ := List.mem_map.1 hp
    have := h.lt q hq
    split <;> simpa using this
  · rename_i hn
    have hnone : mget l k = none := by cases hm : mget l k <;> simp_all
    refine ⟨?_, ?_, ?_⟩
    · simp only [List.map_append, List.map_cons, List.map_nil]
      rw [List.nodup_append]
      refine ⟨h.keys, by simp, ?_⟩
      intro a ha b hb
      simp only [List.mem_singleton] at hb
      obtain ⟨p, hp, rfl⟩ := List.mem_map.1 ha
      subst hb
      exact mget_none.1 hnone p hp
    · simp only [List.map_append, List.map_cons, List.map_nil]
      rw [List.nodup_append]
      refine ⟨h.borns, by simp, ?_⟩
      intro a ha b hb
      simp only [List.mem_singleton] at hb
      obtain ⟨p, hp, rfl⟩ := List.mem_map.1 ha
      subst hb
      have := h.lt p hp
      omega
    · intro p hp
      simp only [List.mem_append, List.mem_singleton] at hp
      rcases hp with hp | rfl
      · have := h.lt p hp
        simp only []
        omega
      · simp
theorem mk_size (l : List Ent) : (mk l).size = l.length := by simp [mk]
theorem mk_toList (l : List Ent) : (mk l).toList = l.map fun p => (⟨ky p.1, p.2.1, p.2.2⟩ : MapEntry) := by simp [mk]
theorem findIdx_none {l : List Ent} {k : Int × Int} (h : mget l k = none) : l.findIdx? (·.1 == k) = none := by
  rw [List.findIdx?_eq_none_iff]
  intro p hp
  simpa using mget_none.1 h p hp
theorem findIdx_some {l : List Ent} {k : Int × Int} {v : Value} (h : mget l k = some v) : ∃ j, l.findIdx? (·.1 == k) = some j := by
  cases hf : l.findIdx? (·.1 == k) with
  | some j => exact ⟨j, rfl⟩
  | none =>
    rw [List.findIdx?_eq_none_iff] at hf
    obtain ⟨b, hb⟩ := mget_some_mem h
    have := hf _ hb
    simp at this
/-- the map type t has keys of two integers; its elements' type -/
def mpe (P : Program) (t : TypeId) : Option TypeId := match P.underlying t with | some (.map k e) => (match P.underlying k with | some (.array 2 i) => if kd P i = some .i64 ∧ szv P i = some 1 then some e else none | _ => none) | _ => none
def KyT (P : Program) (k : TypeId) : Prop := ∃ i, P.underlying k = some (.array 2 i) ∧ P.underlying i = some (.int .i64) ∧ szv P i = some 1
theorem mpe_spec {P : Program} {t e : TypeId} (h : mpe P t = some e) : ∃ k, P.underlying t = some (.map k e) ∧ KyT P k := by
  unfold mpe at h
  split at h
  · rename_i k e' hu
    split at h
    · rename_i i hi
      split at h
      · rename_i hk
        simp only [Option.some.injEq] at h
        subst h
        exact ⟨k, hu, i, hi, kd_spec hk.1, hk.2⟩
      · simp at h
    · simp at h
  · simp at h
theorem run_part_ky {P : Program} {w : World} {i : TypeId} (hi : P.underlying i = some (.int .i64)) (u v : Value) : (part i #[u, v] 0).run P w = .ok u w ∧ (part i #[u, v] 1).run P w = .ok v w := by
  have hag : agb P i = some false := by simp [agb, hi]
  exact ⟨by simp [part, run_bind, run_isAgg hag, Sem.run, pure], by simp [part, run_bind, run_isAgg hag, Sem.run, pure]⟩
theorem run_checkKey_ky {P : Program} {w : World} {k : TypeId} (hk : KyT P k) (b : Bool) (n : Int × Int) : (Instr.checkKey b 10000 k (ky n)).run P w = .ok () w := by
  obtain ⟨i, h1, h2, h3⟩ := hk
  obtain ⟨inf, hin, hi1⟩ := Option.map_eq_some_iff.1 h3
  have hce : P.cellsOf i = 1 := by simp [Program.cellsOf, hin, hi1]
  have q : ∀ m : Int, (Instr.checkKey b 9999 i (.int .i64 m)).run P w = .ok () w := fun m => by
    unfold Instr.checkKey
    simp only [run_bind, run_underlying h2]
    rfl
  unfold Instr.checkKey
  simp only [ky, run_bind, run_underlying h1]
  simp only [Std.Legacy.Range.forIn_eq_forIn_range', Std.Legacy.Range.size, Nat.sub_zero, Nat.add_one_sub_one, Nat.div_one]
  have hl : List.range' 0 2 = [0, 1] := rfl
  rw [hl]
  simp only [List.forIn_cons, List.forIn_nil, Sem.run_bind, Go.W.run_sizeOf h3, Result.andThen_ok, Nat.mul_one, Nat.zero_mul, Nat.one_mul, (run_part_ky h2 _ _).1, (run_part_ky h2 _ _).2, q, Sem.run_pure]
theorem run_equal_ky {P : Program} {w : World} {k : TypeId} (hk : KyT P k) (x y : Int × Int) : (Op.equal k (ky x) (ky y)).run P w = .ok (decide (x = y)) w := by
  obtain ⟨i, h1, h2, h3⟩ := hk
  obtain ⟨inf, hin, hi1⟩ := Option.map_eq_some_iff.1 h3
  have hce : P.cellsOf i = 1 := by simp [Program.cellsOf, hin, hi1]
  have q : ∀ a c : Int, (Op.equalIn 9999 i (.int .i64 a) (.int .i64 c)).run P w = .ok (a == c) w := fun a c => run_equalIn_int w 9998 i .i64 .i64 a c h2
  unfold Op.equal Op.maxDepth
  simp only [ky]
  rw [run_equalIn_array w 9999 _ _ h1 hin, hce]
  have hl : List.range 2 = [0, 1] := rfl
  rw [hl]
  simp only [Op.eqItems, Sem.run_bind, Nat.mul_one, (run_part_ky h2 _ _).1, (run_part_ky h2 _ _).2, q, Result.andThen_ok]
  obtain ⟨x1, x2⟩ := x
  obtain ⟨y1, y2⟩ := y
  simp only [Prod.mk.injEq]
  by_cases h0 : x1 = y1
  · subst h0
    by_cases h4 : x2 = y2
    · subst h4
      simp [Sem.run_bind, (run_part_ky h2 _ _).1, (run_part_ky h2 _ _).2, q]
    · simp [Sem.run_bind, (run_part_ky h2 _ _).1, (run_part_ky h2 _ _).2, q, h4]
  · simp [h0]
theorem run_findAsking_ky {P : Program} {w : World} {kt : TypeId} (hk : KyT P kt) (k : Int × Int) : ∀ (l : List Ent) (i : Nat), (Instr.findAsking kt (ky k) (l.map fun p => (⟨ky p.1, p.2.1, p.2.2⟩ : MapEntry)) i).run P w =
    .ok ((l.findIdx? (·.1 == k)).bind fun j => (mget l k).map fun v => (i + j, v)) w := by
  intro l
  induction l with
  | nil => intro i; simp [Instr.findAsking]
  | cons p l ih =>
    intro i
    simp only [List.map_cons, Instr.findAsking, Sem.run_bind, run_equal_ky hk, Result.andThen_ok, List.findIdx?_cons]
    by_cases h : k = p.1
    · subst h; simp [mget_cons]
    · have h' : ¬ p.1 = k := fun e => h e.symm
      have hb' : (p.1 == k) = false := by simp [h']
      simp only [decide_eq_false h, Bool.false_eq_true, if_false, hb', ih, mget_cons, h']
      cases hf : l.findIdx? (·.1 == k) with
      | none => simp
      | some j => simp [Nat.add_assoc, Nat.add_comm 1]
theorem run_findKey_mk {P : Program} {w : World} {kt : TypeId} (hk : KyT P kt) (k : Int × Int) (l : List Ent) :
    (Instr.findKey kt (ky k) (mk l).toList).run P w = .ok ((l.findIdx? (·.1 == k)).bind fun j => (mget l k).map fun v => (j, v)) w := by
  obtain ⟨i, h1, h2, h3⟩ := id hk
  rw [run_findKey_eq w (by rw [h1]), mk_toList, run_findAsking_ky hk]
  simp only [Nat.zero_add]
theorem run_lookup {P : Program} {w : World} {t e : TypeId} {z : Value} {r c : Nat} {l : List Ent} (ht : mpe P t = some e) (hz : zrv P e = some z) (hr : w.heap[r]? = some (.map (mk l) c)) (k : Int × Int) (ok : Bool) :
    (Instr.lookup t (.map (some r)) (ky k) ok).run P w = .ok (if ok then .tuple #[(mget l k).getD z, .bool (mget l k).isSome] else (mget l k).getD z) w := by
  obtain ⟨kt, h1, h2⟩ := mpe_spec ht
  unfold Instr.lookup
  simp only [run_bind, run_underlying h1, run_getObj hr, run_checkKey_ky h2, run_findKey_mk h2, Sem.run, pure]
  cases hm : mget l k with
  | none => simp only [findIdx_none hm, Option.bind_none, run_bind, run_zeroValue hz, Sem.run]; cases ok <;> simp
  | some v =>
    obtain ⟨j, hj⟩ := findIdx_some hm
    simp only [hj, Option.bind_some, Option.map_some, Sem.run]; cases ok <;> simp
theorem run_lookup_nil {P : Program} {w : World} {t e : TypeId} {z : Value} (ht : mpe P t = some e) (hz : zrv P e = some z) (k : Int × Int) (ok : Bool) :
    (Instr.lookup t (.map none) (ky k) ok).run P w = .ok (if ok then .tuple #[z, .bool false] else z) w := by
  obtain ⟨kt, h1, h2⟩ := mpe_spec ht
  unfold Instr.lookup
  simp only [run_bind, run_underlying h1, run_checkKey_ky h2, Sem.run, pure]
  have := run_findKey_mk (P := P) (w := w) h2 k []
  simp only [mk, List.map_nil] at this
  simp only [this, List.findIdx?_nil, Option.bind_none, run_bind, run_zeroValue hz, Sem.run]
theorem mk_modify (l : List Ent) (k : Int × Int) (v : Value) (hk : (l.map (·.1)).Nodup) (j : Nat) (hj : l.findIdx? (·.1 == k) = some j) :
    (mk l).modify j (fun e => { e with key := ky k, val := v }) = mk (l.map fun p => if p.1 = k then (k, v, p.2.2) else p) := by
  apply Array.ext'
  rw [Array.toList_modify, mk_toList, mk_toList, List.map_map]
  obtain ⟨hlt, hjk, hjb⟩ := List.findIdx?_eq_some_iff_getElem.1 hj
  simp only [beq_iff_eq] at hjk
  apply List.ext_getElem
  · simp
  · intro i h1 h2
    simp only [List.length_modify, List.length_map] at h1
    rw [List.getElem_modify]
    simp only [List.getElem_map, Function.comp]
    by_cases e : j = i
    · subst e; simp [hjk]
    · have : ¬ l[i].1 = k := by
        intro he
        have hn := List.pairwise_iff_getElem.1 hk
        rcases Nat.lt_or_gt_of_ne e with hlt' | hgt
        · exact hn j i (by simpa using hlt) (by simpa using h1) hlt' (by simp [hjk, he])
        · exact hn i j (by simpa using h1) (by simpa using hlt) hgt (by simp [hjk, he])
      simp [e, this]
theorem run_mapUpdate {P : Program} {w : World} {t e : TypeId} {r c : Nat} {l : List Ent} (ht : mpe P t = some e) (hr : w.heap[r]? = some (.map (mk l) c)) (hk : (l.map (·.1)).Nodup) (k : Int × Int) (v : Value) :
    (Instr.mapUpdate t (.map (some r)) (ky k) v).run P w = .ok () (w.putb r (.map (mk (mset l c k v).1) (mset l c k v).2)) := by
  obtain ⟨kt, h1, h2⟩ := mpe_spec ht
  unfold Instr.mapUpdate
  simp only [run_bind, run_underlying h1, run_getObj hr, run_checkKey_ky h2, run_findKey_mk h2]
  unfold mset
  cases hm : mget l k with
  | none =>
    simp only [findIdx_none hm, Option.bind_none, run_setObj hr, Option.isSome_none, Bool.false_eq_true, if_false]
    congr 3
    apply Array.ext'
    rw [Array.toList_push, mk_toList, mk_toList]
    simp
  | some u =>
    obtain ⟨j, hj⟩ := findIdx_some hm
    obtain ⟨hlt, hjk, _⟩ := List.findIdx?_eq_some_iff_getElem.1 hj
    simp only [beq_iff_eq] at hjk
    have hkey : ((((mk l)[j]?).map (·.key)).getD (ky k)) = ky k := by
      have : (mk l)[j]? = some ⟨ky l[j].1, l[j].2.1, l[j].2.2⟩ := by simp [mk, hlt]
      rw [this]; simp [hjk]
    simp only [hj, Option.bind_some, Option.map_some, run_bind, hkey, Option.isSome_some, if_true]
    have hks : (Instr.keyThatStays (ky k) (ky k)).run P w = .ok (ky k) w := by
      unfold Instr.keyThatStays
      simp [Instr.sameBits, Sem.run, pure]
    simp only [hks, run_setObj hr]
    congr 3
    exact mk_modify l k v hk j hj
theorem mk_erase (l : List Ent) (k : Int × Int) (hk : (l.map (·.1)).Nodup) (j : Nat) (hj : l.findIdx? (·.1 == k) = some j) : (mk l).eraseIdxIfInBounds j = mk (mdel l k) := by
  obtain ⟨hlt, hjk, hjb⟩ := List.findIdx?_eq_some_iff_getElem.1 hj
  simp only [beq_iff_eq] at hjk
  have e1 : l.eraseIdx j = mdel l k := by
    unfold mdel
    clear hj hjb
    induction l generalizing j with
    | nil => simp at hlt
    | cons p l ih =>
      simp only [List.map_cons, List.nodup_cons] at hk
      cases j with
      | zero =>
        simp only [List.getElem_cons_zero] at hjk
        simp only [List.eraseIdx_cons_zero, List.filter_cons, hjk, bne_self_eq_false, Bool.false_eq_true, if_false]
        symm
        rw [List.filter_eq_self]
        intro q hq
        simp only [bne_iff_ne, ne_eq]
        intro e
        exact hk.1 (by rw [hjk, ← e]; exact List.mem_map.2 ⟨q, hq, rfl⟩)
      | succ j =>
        simp only [List.getElem_cons_succ, List.length_cons] at hjk hlt
        have hne : p.1 ≠ k := by
          intro e
          exact hk.1 (by rw [e, ← hjk]; exact List.mem_map.2 ⟨_, List.getElem_mem _, rfl⟩)
        simp only [List.eraseIdx_cons_succ, List.filter_cons, bne_iff_ne, ne_eq, hne, not_false_eq_true, if_true]
        rw [ih hk.2 j (by omega) hjk]
  apply Array.ext'
  have hsz : j < (mk l).size := by rw [mk_size]; exact hlt
  rw [Array.eraseIdxIfInBounds, dif_pos hsz, Array.toList_eraseIdx, mk_toList, mk_toList, ← e1, eraseIdx_map']
theorem run_delete {P : Program} {w : World} {t kt0 e ty : TypeId} {r c : Nat} {l : List Ent} (ht : mpe P t = some e) (hr : w.heap[r]? = some (.map (mk l) c)) (hk : (l.map (·.1)).Nodup) (k : Int × Int) :
    (Builtin.delete_ #[t, kt0] ty #[.map (some r), ky k]).run P w = .ok (.tuple #[]) (w.putb r (.map (mk (mdel l k)) c)) := by
  obtain ⟨kt, h1, h2⟩ := mpe_spec ht
  unfold Builtin.delete_
  simp only [List.getElem?_toArray, List.getElem?_cons_zero, List.getElem?_cons_succ, run_bind, run_underlying h1, run_getObj hr, run_checkKey_ky h2, run_findKey_mk h2]
  cases hm : mget l k with
  | none =>
    have e1 : mdel l k = l := by
      unfold mdel
      rw [List.filter_eq_self]
      intro p hp
      simpa using mget_none.1 hm p hp
    simp only [findIdx_none hm, Option.bind_none, run_bind, run_setObj hr, e1]
    rfl
  | some u =>
    obtain ⟨j, hj⟩ := findIdx_some hm
    simp only [hj, Option.bind_some, Option.map_some, run_bind, run_setObj hr, mk_erase l k hk j hj]
    rfl
theorem run_next {P : Program} {w : World} {it r c : Nat} {seen : Array Nat} {l : List Ent} {ty : TypeId} (hi : w.heap[it]? = some (.mapIter (some r) c seen c)) (hr : w.heap[r]? = some (.map (mk l) c)) (hlt : ∀ p ∈ l, p.2.2 < c) :
    ((∀ p ∈ l, p.2.2 ∈ seen) ∧ (Instr.next (.pointer (some ⟨it, 0, none⟩)) false ty).run P w = .ok (.tuple #[.bool false]) w) ∨
    (∃ p ∈ l, p.2.2 ∉ seen ∧ ∃ w1, (w1 = w ∨ w1 = w.drew) ∧ (Instr.next (.pointer (some ⟨it, 0, none⟩)) false ty).run P w = .ok (.tuple #[.bool true, ky p.1, p.2.1]) (w1.putb it (.mapIter (some r) c (seen.push p.2.2) c))) := by
  let M (p : Ent) : MapEntry := ⟨ky p.1, p.2.1, p.2.2⟩
  have hmk : mk l = (l.map M).toArray := rfl
  -- no entry is new
  have hall : (!(mk l).isEmpty && (mk l).all (fun e => decide (e.born ≥ c))) = false := by
    cases l with
    | nil => simp [mk]
    | cons p l =>
      have : ¬ c ≤ p.2.2 := by have := hlt p (by simp); omega
      simp [mk, this]
  have hcheck : (!seen.isEmpty && !(mk l).isEmpty && (mk l).all (fun e => decide (e.born ≥ c))) = false := by
    rw [Bool.and_assoc, hall, Bool.and_false]
  let left := l.filter fun p => !seen.contains p.2.2
  have hleft : (mk l).filter (fun e => !seen.contains e.born) = (left.map M).toArray := by
    rw [hmk]
    simp only [List.filter_toArray, left]
    rw [List.filter_map]
    rfl
  have hleftlt : ∀ p ∈ left, p.2.2 < c := fun p hp => hlt p (List.mem_filter.1 hp).1
  have hold : ((left.map M).toArray).filter (fun e => decide (e.born < c)) = (left.map M).toArray := by
    simp only [List.filter_toArray]
    congr 1
    rw [List.filter_eq_self]
    intro e he
    obtain ⟨p, hp, rfl⟩ := List.mem_map.1 he
    simpa [M] using hleftlt p hp
  have hnew : ((left.map M).toArray).filter (fun e => decide (e.born ≥ c)) = #[] := by
    simp only [List.filter_toArray]
    congr 1
    rw [List.filter_eq_nil_iff]
    intro e he
    obtain ⟨p, hp, rfl⟩ := List.mem_map.1 he
    have := hleftlt p hp
    simp only [M, ge_iff_le, decide_eq_true_eq]
    omega
  simp only [Instr.next, run_bind, run_getIter hi, run_getObj hr, hcheck, Bool.false_eq_true, if_false, hleft, hold, hnew, Array.append_empty]
  by_cases hnil : left = []
  · refine .inl ⟨?_, ?_⟩
    · intro p hp
      have : p ∉ left := by rw [hnil]; simp
      simp only [left, List.mem_filter, hp, true_and, Bool.not_eq_true', Bool.not_eq_false] at this
      simpa using this
    · simp only [hnil, List.map_nil, List.isEmpty_toArray, List.isEmpty_nil, if_true, List.map_toArray, List.append_toArray, List.append_nil, choose, Sem.run, Question.forced, List.size_toArray, List.length_cons, List.length_nil]
      rfl
  · have hne : (left.map M).toArray.isEmpty = false := by
      cases hl : left with
      | nil => exact (hnil hl).elim
      | cons a b => simp
    simp only [hne, Bool.false_eq_true, if_false, Array.empty_append, List.map_toArray, List.map_map]
    have hlen : 0 < left.length := List.length_pos_iff.2 hnil
    -- the number drawn
    have key : ∀ (n : Nat) (w1 : World), n < left.length → (w1 = w ∨ w1 = w.drew) →
        (match ((left.map (some ∘ M)).toArray[n]? : Option (Option MapEntry)) with
          | some (some e) => (do Go.setObj it (.mapIter (some r) c (seen.push e.born) c); pure (.tuple #[.bool true, e.key, e.val]))
          | some none => pure (.tuple #[.bool false])
          | none => stuck "Next: no such candidate" : Sem Value).run P w1 = .ok (.tuple #[.bool true, ky left[n]!.1, left[n]!.2.1]) (w1.putb it (.mapIter (some r) c (seen.push left[n]!.2.2) c)) := by
      intro n w1 hn hw
      have hi1 : w1.heap[it]? = some (.mapIter (some r) c seen c) := by rcases hw with rfl | rfl <;> exact hi
      have : (left.map (some ∘ M)).toArray[n]? = some (some (M left[n]!)) := by
        simp [hn]
      rw [this]
      simp only [run_bind, run_setIter hi1]
      rfl
    refine .inr ?_
    have hpick : ∀ n, n < left.length → left[n]! ∈ l ∧ left[n]!.2.2 ∉ seen := by
      intro n hn
      have hm : left[n]! ∈ left := by rw [getElem!_pos left n hn]; exact List.getElem_mem hn
      have := List.mem_filter.1 hm
      refine ⟨this.1, ?_⟩
      simpa using this.2
    by_cases h1 : left.length ≤ 1
    · refine ⟨left[0]!, (hpick 0 hlen).1, (hpick 0 hlen).2, w, .inl rfl, ?_⟩
      have hf : (Question.mapNext (left.map (some ∘ M)).toArray.size).forced = true := by simp [Question.forced, h1]
      have hc : (choose (Question.mapNext (left.map (some ∘ M)).toArray.size)).run P w = .ok 0 w := by
        simp only [choose, Sem.run, hf, if_true]
      rw [hc]
      exact key 0 w hlen (.inl rfl)
    · have hf : (Question.mapNext (left.map (some ∘ M)).toArray.size).forced = false := by simp [Question.forced]; omega
      let n := w.tape w.drawn (Question.mapNext (left.map (some ∘ M)).toArray.size) % left.length
      have hn : n < left.length := Nat.mod_lt _ hlen
      refine ⟨left[n]!, (hpick n hn).1, (hpick n hn).2, w.drew, .inr rfl, ?_⟩
      have hc : (choose (Question.mapNext (left.map (some ∘ M)).toArray.size)).run P w = .ok n w.drew := by
        unfold choose Sem.run
        rw [hf]
        simp only [Bool.false_eq_true, if_false, Question.cut, List.size_toArray, List.length_map, Sem.run]
        simp only [n, List.size_toArray, List.length_map]
        rfl
      rw [hc]
      exact key n w.drew hn (.inr rfl)
theorem run_entry {P : Program} {w : World} {it r c s : Nat} {seen : Array Nat} {l : List Ent} {p : Ent} (hi : w.heap[it]? = some (.mapIter (some r) s (seen.push p.2.2) c)) (hr : w.heap[r]? = some (.map (mk l) c))
    (hb : (l.map (·.2.2)).Nodup) (hp : p ∈ l) : (Instr.entry (.pointer (some ⟨it, 0, none⟩))).run P w = .ok (.tuple #[ky p.1, p.2.1]) w := by
  have hfind : (mk l).find? (·.born == p.2.2) = some ⟨ky p.1, p.2.1, p.2.2⟩ := by
    rw [← Array.find?_toList, mk_toList]
    clear hr
    induction l with
    | nil => cases hp
    | cons q l ih =>
      simp only [List.map_cons, List.nodup_cons] at hb
      simp only [List.map_cons, List.find?_cons]
      cases hp with
      | head => simp
      | tail _ h =>
        have : q.2.2 ≠ p.2.2 := fun e => hb.1 (e ▸ List.mem_map.2 ⟨p, h, rfl⟩)
        have hbq : (q.2.2 == p.2.2) = false := by simp [this]
        rw [hbq]
        exact ih hb.2 h
  simp only [Instr.entry, run_bind, run_getIter hi, Array.back?_push, run_getObj hr, bne_self_eq_false, Bool.false_eq_true, if_false, hfind]
  rfl
def todo (l : List Ent) (seen : Array Nat) : List Ent := l.filter fun p => !seen.contains p.2.2
theorem todo_lt {l : List Ent} {seen : Array Nat} {p : Ent} (hp : p ∈ l) (hn : p.2.2 ∉ seen) : (todo l (seen.push p.2.2)).length < (todo l seen).length := by
  unfold todo
  have hsub : (l.filter fun q => !(seen.push p.2.2).contains q.2.2) = ((l.filter fun q => !seen.contains q.2.2).filter fun q => q.2.2 != p.2.2) := by
    rw [List.filter_filter]
    congr 1
    funext q
    simp only [Array.contains_push, Bool.not_or]
    rw [Bool.and_comm]
    rfl
  rw [hsub]
  apply List.length_filter_lt_length_iff_exists.2
  exact ⟨p, List.mem_filter.2 ⟨hp, by simpa using hn⟩, by simp⟩
section
variable {P : Program} {w : World} {κ : Value → World → Prop}
theorem rV_lookup {t e : TypeId} {z : Value} {r c : Nat} {l : List Ent} (ht : mpe P t = some e) (hz : zrv P e = some z) (hr : w.heap[r]? = some (.map (mk l) c)) {k : Int × Int} {ok : Bool}
    (h : κ (if ok then .tuple #[(mget l k).getD z, .bool (mget l k).isSome] else (mget l k).getD z) w) : RunV P w κ (Instr.lookup t (.map (some r)) (ky k) ok) :=
  RunV_same (fun T wa hw hT => run_lookup ht hz (tombW_map (hw ▸ hr)).2 k ok) h
theorem rV_lookup_nil {t e : TypeId} {z : Value} (ht : mpe P t = some e) (hz : zrv P e = some z) {k : Int × Int} {ok : Bool} (h : κ (if ok then .tuple #[z, .bool false] else z) w) : RunV P w κ (Instr.lookup t (.map none) (ky k) ok) :=
  RunV_same (fun T wa hw hT => run_lookup_nil ht hz k ok) h
theorem rV_update {t e : TypeId} {r c : Nat} {l : List Ent} (ht : mpe P t = some e) (hr : w.heap[r]? = some (.map (mk l) c)) (hk : (l.map (·.1)).Nodup) {k : Int × Int} {v : Value} (h : κ undef (w.putb r (.map (mk (mset l c k v).1) (mset l c k v).2))) :
    RunU P w κ (Instr.mapUpdate t (.map (some r)) (ky k) v) := by
  intro T wa hw hT
  subst hw
  obtain ⟨hTr, hr⟩ := tombW_map hr
  rw [run_mapUpdate ht hr hk k v]
  exact ⟨T, Kp.putb hT hTr _, by rw [tombW_putb hTr]; exact h⟩
theorem rV_delete {t kt0 e ty : TypeId} {r c : Nat} {l : List Ent} (ht : mpe P t = some e) (hr : w.heap[r]? = some (.map (mk l) c)) (hk : (l.map (·.1)).Nodup) {k : Int × Int} (h : κ (.tuple #[]) (w.putb r (.map (mk (mdel l k)) c))) :
    RunV P w κ (Builtin.delete_ #[t, kt0] ty #[.map (some r), ky k]) := by
  intro T wa hw hT
  subst hw
  obtain ⟨hTr, hr⟩ := tombW_map hr
  rw [run_delete ht hr hk k]
  exact ⟨T, Kp.putb hT hTr _, by rw [tombW_putb hTr]; exact h⟩
theorem rV_next {it r c : Nat} {seen : Array Nat} {l : List Ent} {ty : TypeId} (hi : w.heap[it]? = some (.mapIter (some r) c seen c)) (hr : w.heap[r]? = some (.map (mk l) c)) (hlt : ∀ p ∈ l, p.2.2 < c)
    (hdone : (∀ p ∈ l, p.2.2 ∈ seen) → κ (.tuple #[.bool false]) w)
    (hstep : ∀ p ∈ l, p.2.2 ∉ seen → ∀ w1, (w1 = w ∨ w1 = w.drew) → κ (.tuple #[.bool true, ky p.1, p.2.1]) (w1.putb it (.mapIter (some r) c (seen.push p.2.2) c))) : RunV P w κ (Instr.next (.pointer (some ⟨it, 0, none⟩)) false ty) := by
  intro T wa hw hT
  subst hw
  obtain ⟨hTr, hr⟩ := tombW_map hr
  obtain ⟨hTi, hi⟩ := tombW_iter hi
  rcases run_next (P := P) (ty := ty) hi hr hlt with ⟨h1, h2⟩ | ⟨p, hp, hn, w1, hw1, h2⟩
  · rw [h2]; exact ⟨T, Kp.refl hT, hdone h1⟩
  · rw [h2]
    rcases hw1 with rfl | rfl
    · exact ⟨T, Kp.putb hT hTi _, by rw [tombW_putb hTi]; exact hstep p hp hn _ (.inl rfl)⟩
    · exact ⟨T, (Kp.drew hT).trans (Kp.putb (w := wa.drew) hT hTi _), by rw [tombW_putb hTi]; exact hstep p hp hn _ (.inr rfl)⟩
theorem rV_entry {it r c s : Nat} {seen : Array Nat} {l : List Ent} {p : Ent} (hi : w.heap[it]? = some (.mapIter (some r) s (seen.push p.2.2) c)) (hr : w.heap[r]? = some (.map (mk l) c)) (hb : (l.map (·.2.2)).Nodup) (hp : p ∈ l) (h : κ (.tuple #[ky p.1, p.2.1]) w) :
    RunV P w κ (Instr.entry (.pointer (some ⟨it, 0, none⟩))) :=
  RunV_same (fun T wa hw hT => run_entry (tombW_iter (hw ▸ hi)).2 (tombW_map (hw ▸ hr)).2 hb hp) h
end
theorem rV_nextX {P : Program} {w : World} {κ : Value → World → Prop} {it r c : Nat} {seen : Array Nat} {l : List Ent} {ty : TypeId} (hi : w.heap[it]? = some (.mapIter (some r) c seen c)) (hr : w.heap[r]? = some (.map (mk l) c)) (hlt : ∀ p ∈ l, p.2.2 < c)
    (hdone : (∀ p ∈ l, p.2.2 ∈ seen) → κ (.tuple #[.bool false]) w)
    (hstep : ∀ p ∈ l, p.2.2 ∉ seen → ∀ w2, w2.heap[it]? = some (.mapIter (some r) c (seen.push p.2.2) c) → (∀ b, b ≠ it → w2.heap[b]? = w.heap[b]?) → (∀ w0, Ext w0 w → w0.heap.size ≤ it → Ext w0 w2) → κ (.tuple #[.bool true, ky p.1, p.2.1]) w2) :
    RunV P w κ (Instr.next (.pointer (some ⟨it, 0, none⟩)) false ty) := by
  refine rV_next hi hr hlt hdone fun p hp hn w1 hw1 => hstep p hp hn _ ?_ ?_ ?_
  · exact putb_get_same (by rcases hw1 with rfl | rfl <;> exact get_lt hi) _
  · intro b hb
    rw [putb_get_ne hb]
    rcases hw1 with rfl | rfl <;> rfl
  · intro w0 hE hb
    refine Ext.putb ?_ hb _
    rcases hw1 with rfl | rfl
    · exact hE
    · exact hE.drew
def MapL (w : World) (x : Value) (l : List Ent) (c : Nat) : Prop := (x = .map none ∧ l = [] ∧ c = 0) ∨ ∃ r, x = .map (some r) ∧ w.heap[r]? = some (.map (mk l) c) ∧ MWF l c
theorem MapL.wf {w : World} {x : Value} {l : List Ent} {c : Nat} (h : MapL w x l c) : MWF l c := by
  rcases h with ⟨_, rfl, rfl⟩ | ⟨r, _, _, h⟩
  · exact MWF_nil
  · exact h
theorem MapL.ext {w w' : World} {x : Value} {l : List Ent} {c : Nat} (h : MapL w x l c) (hE : Ext w w') : MapL w' x l c := by
  rcases h with h | ⟨r, h1, h2, h3⟩
  · exact .inl h
  · exact .inr ⟨r, h1, hE.obj h2, h3⟩
theorem MapL.heap {w w' : World} {x : Value} {l : List Ent} {c : Nat} (h : MapL w x l c) (hb : ∀ r, x = .map (some r) → w'.heap[r]? = w.heap[r]?) : MapL w' x l c := by
  rcases h with h | ⟨r, h1, h2, h3⟩
  · exact .inl h
  · exact .inr ⟨r, h1, (hb r h1).trans h2, h3⟩
theorem MapL.lt {w : World} {l : List Ent} {c r : Nat} (h : MapL w (.map (some r)) l c) : r < w.heap.size := by
  rcases h with ⟨h, _⟩ | ⟨r', h1, h2, _⟩
  · cases h
  · cases h1; exact get_lt h2
section
variable {P : Program} {w : World} {κ : Value → World → Prop} {it c : Nat} {seen : Array Nat} {l : List Ent} {ty : TypeId} {x : Value}
theorem rV_rangeM {t : TypeId} (ht : isMapT P t = true) (h : MapL w x l c) (hk : ∀ w', w'.heap.size = w.heap.size + 1 → ItAt w' w.heap.size x c #[] → (∀ b, b ≠ w.heap.size → w'.heap[b]? = w.heap[b]?) → (∀ w0, Ext w0 w → Ext w0 w') → κ (.pointer (some ⟨w.heap.size, 0, none⟩)) w') :
    RunV P w κ (Instr.range t x) := by
  rcases h with ⟨rfl, rfl, rfl⟩ | ⟨r, rfl, hr, _⟩
  · exact rV_range_nil ht (hk _ (by simp) ⟨_, rfl, alloc_get_new _ _⟩ (fun b hb => by rw [alloc_get_if, if_neg hb]) fun w0 hE => hE.alloc _)
  · exact rV_range ht hr (hk _ (by simp) ⟨_, rfl, alloc_get_new _ _⟩ (fun b hb => by rw [alloc_get_if, if_neg hb]) fun w0 hE => hE.alloc _)
theorem rV_nextM (hi : ItAt w it x c seen) (h : MapL w x l c) (hdone : (∀ p ∈ l, p.2.2 ∈ seen) → κ (.tuple #[.bool false]) w)
    (hstep : ∀ p ∈ l, p.2.2 ∉ seen → ∀ w2, ItAt w2 it x c (seen.push p.2.2) → (∀ b, b ≠ it → w2.heap[b]? = w.heap[b]?) → (∀ w0, Ext w0 w → w0.heap.size ≤ it → Ext w0 w2) → κ (.tuple #[.bool true, ky p.1, p.2.1]) w2) :
    RunV P w κ (Instr.next (.pointer (some ⟨it, 0, none⟩)) false ty) := by
  obtain ⟨r, rfl, hi⟩ := hi
  rcases h with ⟨h1, rfl, rfl⟩ | ⟨r', h1, hr, hwf⟩
  · cases h1
    exact rV_next_nil hi (hdone (by simp))
  · cases h1
    exact rV_nextX hi hr hwf.lt hdone fun p hp hn w2 q1 q2 q3 => hstep p hp hn w2 ⟨_, rfl, q1⟩ q2 q3
theorem rV_entryM {p : Ent} (hi : ItAt w it x c (seen.push p.2.2)) (h : MapL w x l c) (hp : p ∈ l) (hk : κ (.tuple #[ky p.1, p.2.1]) w) : RunV P w κ (Instr.entry (.pointer (some ⟨it, 0, none⟩))) := by
  obtain ⟨r, rfl, hi⟩ := hi
  rcases h with ⟨h1, rfl, rfl⟩ | ⟨r', h1, hr, hwf⟩
  · simp at hp
  · cases h1
    exact rV_entry hi hr hwf.borns hp hk
end
end Go.W.P2
