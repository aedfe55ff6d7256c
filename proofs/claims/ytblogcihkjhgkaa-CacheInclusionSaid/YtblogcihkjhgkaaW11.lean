/-
  Ranging over a map; append to a slice of the call's own.
-/
import Derived.Test.YtblogcihkjhgkaaW10
set_option linter.unusedSimpArgs false
set_option linter.unusedVariables false
set_option linter.defProp false
namespace Go.W
open Go.RowKit
theorem run_range {P : Program} {w : World} {t : TypeId} {r c : Nat} {es : Array MapEntry} (ht : isMapT P t = true) (hr : w.heap[r]? = some (.map es c)) :
    (Instr.range t (.map (some r))).run P w = .ok (.pointer (some ⟨w.heap.size, 0, none⟩)) (w.alloc (.mapIter (some r) c #[] c)) := by
  obtain ⟨k, e, hu⟩ := isMapT_spec ht
  simp [Instr.range, run_bind, run_underlying hu, run_getObj hr, newObj, Sem.run, pure]
theorem run_range_nil {P : Program} {w : World} {t : TypeId} (ht : isMapT P t = true) :
    (Instr.range t (.map none)).run P w = .ok (.pointer (some ⟨w.heap.size, 0, none⟩)) (w.alloc (.mapIter none 0 #[] 0)) := by
  obtain ⟨k, e, hu⟩ := isMapT_spec ht
  simp [Instr.range, run_bind, run_underlying hu, newObj, Sem.run, pure]
theorem run_getIter {P : Program} {w : World} {it : Nat} {m : Option Nat} {s : Nat} {seen : Array Nat} {st : Nat} (h : w.heap[it]? = some (.mapIter m s seen st)) : (Go.getObj it).run P w = .ok (.mapIter m s seen st) w := by
  simp [Go.getObj, Sem.run, h]
theorem run_setIter {P : Program} {w : World} {it : Nat} {m : Option Nat} {s : Nat} {seen : Array Nat} {st : Nat} (h : w.heap[it]? = some (.mapIter m s seen st)) (o : Obj) : (Go.setObj it o).run P w = .ok () (w.putb it o) := by
  simp [Go.setObj, Sem.run, h, World.putb]
theorem run_next_nil {P : Program} {w : World} {it : Nat} {s : Nat} {seen : Array Nat} {st : Nat} {ty : TypeId} (h : w.heap[it]? = some (.mapIter none s seen st)) :
    (Instr.next (.pointer (some ⟨it, 0, none⟩)) false ty).run P w = .ok (.tuple #[.bool false]) w := by
  simp only [Instr.next, run_bind, run_getIter h]
  rfl
theorem run_next {P : Program} {w : World} {it r c : Nat} {seen : Array Nat} {l : List Ent} {ty : TypeId} (hi : w.heap[it]? = some (.mapIter (some r) c seen c)) (hr : w.heap[r]? = some (.map (mk l) c)) (hlt : ∀ p ∈ l, p.2.2 < c) :
    ((∀ p ∈ l, p.2.2 ∈ seen) ∧ (Instr.next (.pointer (some ⟨it, 0, none⟩)) false ty).run P w = .ok (.tuple #[.bool false]) w) ∨
    (∃ p ∈ l, p.2.2 ∉ seen ∧ ∃ w1, (w1 = w ∨ w1 = w.drew) ∧ (Instr.next (.pointer (some ⟨it, 0, none⟩)) false ty).run P w = .ok (.tuple #[.bool true, .int .i64 p.1, p.2.1]) (w1.putb it (.mapIter (some r) c (seen.push p.2.2) c))) := by
  let M (p : Ent) : MapEntry := ⟨.int .i64 p.1, p.2.1, p.2.2⟩
  have hmk : mk l = (l.map M).toArray := rfl
  -- no entry is new
  have hall : (!(mk l).isEmpty && (mk l).all (fun e => decide (e.born ≥ c))) = false := by
    cases l with
    | nil => simp [mk]
    | cons p l =>
      have : ¬ c ≤ p.2.2 := by have := hlt p (by simp); omega
      simp [mk, this]
  have hcheck : (!seen.isEmpty && !(mk l).isEmpty && (mk l).all (fun e => decide (e.born ≥ c))) = false := by
    rw [Bool.and_assoc, hall, Bool.and_false]
  let left := l.filter fun p => !seen.contains p.2.2
  have hleft : (mk l).filter (fun e => !seen.contains e.born) = (left.map M).toArray := by
    rw [hmk]
    simp only [List.filter_toArray, left]
    rw [List.filter_map]
    rfl
  have hleftlt : ∀ p ∈ left, p.2.2 < c := fun p hp => hlt p (List.mem_filter.1 hp).1
  have hold : ((left.map M).toArray).filter (fun e => decide (e.born < c)) = (left.map M).toArray := by
    simp only [List.filter_toArray]
    congr 1
    rw [List.filter_eq_self]
    intro e he
    obtain ⟨p, hp, rfl⟩ := List.mem_map.1 he
    simpa [M] using hleftlt p hp
  have hnew : ((left.map M).toArray).filter (fun e => decide (e.born ≥ c)) = #[] := by
    simp only [List.filter_toArray]
    congr 1
    rw [List.filter_eq_nil_iff]
    intro e he
    obtain ⟨p, hp, rfl⟩ := List.mem_map.1 he
    have := hleftlt p hp
    simp only [M, ge_iff_le, decide_eq_true_eq]
    omega
  simp only [Instr.next, run_bind, run_getIter hi, run_getObj hr, hcheck, Bool.false_eq_true, if_false, hleft, hold, hnew, Array.append_empty]
  by_cases hnil : left = []
  · refine .inl ⟨?_, ?_⟩
    · intro p hp
      have : p ∉ left := by rw [hnil]; simp
      simp only [left, List.mem_filter, hp, true_and, Bool.not_eq_true', Bool.not_eq_false] at this
      simpa using this
    · simp only [hnil, List.map_nil, List.isEmpty_toArray, List.isEmpty_nil, if_true, List.map_toArray, List.append_toArray, List.append_nil, choose, Sem.run, Question.forced, List.size_toArray, List.length_cons, List.length_nil]
      rfl
  · have hne : (left.map M).toArray.isEmpty = false := by
      cases hl : left with
      | nil => exact (hnil hl).elim
      | cons a b => simp
    simp only [hne, Bool.false_eq_true, if_false, Array.empty_append, List.map_toArray, List.map_map]
    have hlen : 0 < left.length := List.length_pos_iff.2 hnil
    -- the number drawn
    have key : ∀ (n : Nat) (w1 : World), n < left.length → (w1 = w ∨ w1 = w.drew) →
        (match ((left.map (some ∘ M)).toArray[n]? : Option (Option MapEntry)) with
          | some (some e) => (do Go.setObj it (.mapIter (some r) c (seen.push e.born) c); pure (.tuple #[.bool true, e.key, e.val]))
          | some none => pure (.tuple #[.bool false])
          | none => stuck "Next: no such candidate" : Sem Value).run P w1 = .ok (.tuple #[.bool true, .int .i64 left[n]!.1, left[n]!.2.1]) (w1.putb it (.mapIter (some r) c (seen.push left[n]!.2.2) c)) := by
      intro n w1 hn hw
      have hi1 : w1.heap[it]? = some (.mapIter (some r) c seen c) := by rcases hw with rfl | rfl <;> exact hi
      have : (left.map (some ∘ M)).toArray[n]? = some (some (M left[n]!)) := by
        simp [hn]
      rw [this]
      simp only [run_bind, run_setIter hi1]
      rfl
    refine .inr ?_
    have hpick : ∀ n, n < left.length → left[n]! ∈ l ∧ left[n]!.2.2 ∉ seen := by
      intro n hn
      have hm : left[n]! ∈ left := by rw [getElem!_pos left n hn]; exact List.getElem_mem hn
      have := List.mem_filter.1 hm
      refine ⟨this.1, ?_⟩
      simpa using this.2
    by_cases h1 : left.length ≤ 1
    · refine ⟨left[0]!, (hpick 0 hlen).1, (hpick 0 hlen).2, w, .inl rfl, ?_⟩
      have hf : (Question.mapNext (left.map (some ∘ M)).toArray.size).forced = true := by simp [Question.forced, h1]
      have hc : (choose (Question.mapNext (left.map (some ∘ M)).toArray.size)).run P w = .ok 0 w := by
        simp only [choose, Sem.run, hf, if_true]
      rw [hc]
      exact key 0 w hlen (.inl rfl)
    · have hf : (Question.mapNext (left.map (some ∘ M)).toArray.size).forced = false := by simp [Question.forced]; omega
      let n := w.tape w.drawn (Question.mapNext (left.map (some ∘ M)).toArray.size) % left.length
      have hn : n < left.length := Nat.mod_lt _ hlen
      refine ⟨left[n]!, (hpick n hn).1, (hpick n hn).2, w.drew, .inr rfl, ?_⟩
      have hc : (choose (Question.mapNext (left.map (some ∘ M)).toArray.size)).run P w = .ok n w.drew := by
        unfold choose Sem.run
        rw [hf]
        simp only [Bool.false_eq_true, if_false, Question.cut, List.size_toArray, List.length_map, Sem.run]
        simp only [n, List.size_toArray, List.length_map]
        rfl
      rw [hc]
      exact key n w.drew hn (.inr rfl)
theorem run_entry {P : Program} {w : World} {it r c s : Nat} {seen : Array Nat} {l : List Ent} {p : Ent} (hi : w.heap[it]? = some (.mapIter (some r) s (seen.push p.2.2) c)) (hr : w.heap[r]? = some (.map (mk l) c))
    (hb : (l.map (·.2.2)).Nodup) (hp : p ∈ l) : (Instr.entry (.pointer (some ⟨it, 0, none⟩))).run P w = .ok (.tuple #[.int .i64 p.1, p.2.1]) w := by
  have hfind : (mk l).find? (·.born == p.2.2) = some ⟨.int .i64 p.1, p.2.1, p.2.2⟩ := by
    rw [← Array.find?_toList, mk_toList]
    clear hr
    induction l with
    | nil => cases hp
    | cons q l ih =>
      simp only [List.map_cons, List.nodup_cons] at hb
      simp only [List.map_cons, List.find?_cons]
      cases hp with
      | head => simp
      | tail _ h =>
        have : q.2.2 ≠ p.2.2 := fun e => hb.1 (e ▸ List.mem_map.2 ⟨p, h, rfl⟩)
        have hbq : (q.2.2 == p.2.2) = false := by simp [this]
        rw [hbq]
        exact ih hb.2 h
  simp only [Instr.entry, run_bind, run_getIter hi, Array.back?_push, run_getObj hr, bne_self_eq_false, Bool.false_eq_true, if_false, hfind]
  rfl
/-- entries still to come -/
def todo (l : List Ent) (seen : Array Nat) : List Ent := l.filter fun p => !seen.contains p.2.2
theorem todo_lt {l : List Ent} {seen : Array Nat} {p : Ent} (hp : p ∈ l) (hn : p.2.2 ∉ seen) : (todo l (seen.push p.2.2)).length < (todo l seen).length := by
  unfold todo
  have hsub : (l.filter fun q => !(seen.push p.2.2).contains q.2.2) = ((l.filter fun q => !seen.contains q.2.2).filter fun q => q.2.2 != p.2.2) := by
    rw [List.filter_filter]
    congr 1
    funext q
    simp only [Array.contains_push, Bool.not_or]
    rw [Bool.and_comm]
    rfl
  rw [hsub]
  apply List.length_filter_lt_length_iff_exists.2
  exact ⟨p, List.mem_filter.2 ⟨hp, by simpa using hn⟩, by simp⟩

/-! ### append -/
theorem Ext.grown {a w w' : World} {row : Option Nat} (h : Ext a w) (hg : w.grownBy w' row) (hr : ∀ k, row = some k → a.heap.size ≤ k) : Ext a w' :=
  Ext.of_below (h.below.grown hg h.size hr)
theorem own_append {P : Program} {w : World} {base : Nat} {t ty e : TypeId} {size bytes : Nat} {z : Value} (he : elt P t = some e) (hs : szv P e = some size) (hb : byv P e = some bytes) (hz : zrv P e = some z)
    (hzs : z.cells.size = size) (hpos : 0 < size) {v : Value} {n : Nat} {xs : List Value} (hown : w.ownsRow base e size v n xs) (a : Addr) (m c : Nat) (news : List Value) (hl : news.length = m * size)
    (hnews : ∀ j u, news[j]? = some u → w.cell? (a.add j) = some u) (h1 : ∀ u ∈ news, one u = true) (h63 : n + m ≤ maxLen) (hbytes : (n + m) * bytes ≤ 140737488355328) (hbase : base ≤ w.heap.size) :
    ∃ v' w', (Builtin.append_ #[t, t] ty #[v, .slice (some a) m c]).run P w = .ok v' w' ∧ w'.ownsRow base e size v' (n + m) (xs ++ news) ∧ w.grownBy w' v.ownBlock := by
  obtain ⟨i, hi, rfl⟩ := Option.map_eq_some_iff.1 hs
  obtain ⟨i', hi', hzi⟩ := Option.bind_eq_some_iff.1 hz
  obtain ⟨i'', hi'', rfl⟩ := Option.map_eq_some_iff.1 hb
  rw [hi] at hi' hi''
  simp only [Option.some.injEq] at hi' hi''
  subst hi' hi''
  obtain ⟨v', w', h1', h2, h3, _⟩ := run_append_own (P := P) w base t ty e i z i.size i.bytes (elt_spec he) hi hzi rfl rfl hzs hpos v n xs hown a m c news hl hnews (fun u hu => by have := h1 u hu; cases u <;> simp_all [one, Value.oneCell']) h63 hbytes hbase
  exact ⟨v', w', h1', h2, h3⟩
theorem own_append_nil {P : Program} {w : World} {base : Nat} {t ty e : TypeId} {size : Nat} (he : elt P t = some e) (hs : szv P e = some size) {v : Value} {n : Nat} {xs : List Value} (hown : w.ownsRow base e size v n xs) :
    (Builtin.append_ #[t, t] ty #[v, .slice none 0 0]).run P w = .ok v w := by
  obtain ⟨i, hi, rfl⟩ := Option.map_eq_some_iff.1 hs
  exact run_append_owned_none (P := P) w base t ty e i i.size (elt_spec he) hi v n xs hown
/-- operations that are met by a run -/
def SX := And.intro @XO_lookup (And.intro @XO_range (And.intro @XO_next (And.intro @XO_entry (And.intro @XO_mapUpdate (And.intro @XO_append (And.intro @XO_delete @XO_copy))))))
end Go.W
