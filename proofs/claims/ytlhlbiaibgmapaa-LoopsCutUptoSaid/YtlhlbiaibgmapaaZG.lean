/-
  From a walk of a law to what its row asks: it returns true, and what was there reads as it did.
-/
import Derived.Test.YtlhlbiaibgmapaaZU
import Derived.ProofKit
import Derived.OpenShut
import Derived.JoinedCond
import Derived.Deep.Slices
set_option linter.unusedSimpArgs false
set_option linter.unusedVariables false
namespace Go.W
open Go.ChangeShapes Go.WideShapes Go.ChangeAt Go.RowKit
theorem below_of {P : Program} {g : Nat} {args : Array Value} {W : World} (hen : enters P g = true) (h : VRet P g args W fun v w' => v = .bool true ∧ Ext W w') :
    Calls P g args W fun e W' => e = .returned (.bool true) ∧ Below W.heap.size W W' := by
  refine (h.ret hen).2.mono ?_
  rintro e W' ⟨v, rfl, T', h1, h2, h3, rfl, hE⟩
  refine ⟨rfl, hE.os, hE.tape, hE.output, h3, fun b hb => ?_⟩
  have := hE.get b hb
  rwa [tombW_see (h1 b hb)] at this
section
variable {H : Type} {enc : TypeId × Value → H} {P : Program}
theorem trodAll_stays (hl : laidOutB P = true) {W W' : World} (hb : Below W.heap.size W W') {sp : Nat → Bool} : ∀ {ts : List TypeId} {vs : List Value} {ds : List (DataW H)} {p : List MemPlace}, (ts.all fun t => P.readableRec t && decide (t < P.types.size)) = true →
    DataW.TrodAll enc P W 0 (fun _ => true) true ts vs ds p → (∀ x ∈ p, x.block < W.heap.size) → (∀ x ∈ p, sp x.block = true) → DataW.TrodAll enc P W' 0 sp true ts vs ds p
  | [], [], [], p, _, h, _, _ => h
  | t :: ts, v :: vs, d :: ds, p, hr, h, h1, h2 => by
    obtain ⟨p1, q1, ht, hts, rfl⟩ := h
    simp only [List.all_cons, Bool.and_eq_true, decide_eq_true_eq] at hr
    refine ⟨p1, q1, WideElems.Trod_stays hl hr.1.1 hr.1.2 ht (fun x hx => hb.same (h1 x (by simp [hx]))) (fun x hx => h2 x (by simp [hx])), trodAll_stays hl hb (by simpa using hr.2) hts (fun x hx => h1 x (by simp [hx])) (fun x hx => h2 x (by simp [hx])), rfl⟩
/-- what the row asks -/
theorem post_law {f : Func} {s : ChangeSpec} {W W' : World} {args : Array Value} {ds gs : List (DataW H)} {before : List MemPlace} {tb : TypeId} (hl : laidOutB P = true) (hread : (f.params.toList.all fun t => P.readableRec t && decide (t < P.types.size)) = true)
    (hvars : s.vars = []) (hres : f.resultTypes = #[tb]) (htb : P.underlying tb = some .bool) (hfn : s.fn H (ds ++ gs) = { results := [.lit (.bool true)], args := ds })
    (hW : DataW.Whole enc P f.params.toList s.vars false W args.toList ds gs before) (hb : Below W.heap.size W W') : s.post enc P f false true false false W args (.bool true) W' := by
  have hW' := hW
  obtain ⟨p, q, hA, hV, rfl, hfz, hnd⟩ := hW
  rw [hvars] at hV
  obtain ⟨rfl, rfl⟩ := trodVars_none hV
  simp only [List.append_nil] at hW' hfz
  have hlt : ∀ x ∈ p, x.block < W.heap.size := fun x hx => hW'.lt x hx
  refine ⟨ds, [], p, [], p, [], hW', ?_, ?_, ?_, hb.frame _, fun h => by cases h⟩
  · rw [hfn, hres]
    exact trodAll_cons_mk (shut_bool htb true) trodAll_mk0
  · rw [hfn]
    exact trodAll_stays hl hb hread hA hlt (fun x hx => by simpa using hlt x hx)
  · rw [hfn, hvars]
    rfl
/-! ### openings -/
theorem cells?_rd {w : World} {a : Addr} {n : Nat} (hn : 0 < n) {cs : List Value} (h : w.cells? 0 a n = some cs) : a.spot = none ∧ rd w a n = some cs.toArray := by
  obtain ⟨_, hlen, hc⟩ := World.cells?_some h
  have h0 := hc 0 hn
  obtain ⟨b, off, sp⟩ := a
  have hs : sp = none := by
    have h1 : w.cell? ⟨b, off, sp⟩ = cs[0]? := by simpa [Addr.add] using h0
    rw [List.getElem?_eq_getElem (by omega)] at h1
    unfold World.cell? at h1
    split at h1
    · split at h1
      · simp at h1
      · rename_i hsp; simpa using hsp
    · simp at h1
  subst hs
  refine ⟨rfl, ?_⟩
  have hcell : ∀ i, i < n → w.cell? ⟨b, off + i, none⟩ = cs[i]? := fun i hi => by rw [← hc i hi, add_mk]
  have h1 := hcell 0 hn
  rw [List.getElem?_eq_getElem (by omega)] at h1
  obtain ⟨arr, e, fz, hb, _⟩ := cell_obj h1
  have hlast := hcell (n - 1) (by omega)
  rw [List.getElem?_eq_getElem (by omega), cell_mk, hb] at hlast
  have hle := (Array.getElem?_eq_some_iff.1 hlast).1
  rw [rd_mk, hb]
  simp only []
  rw [if_pos (by omega)]
  congr 1
  apply Array.ext'
  apply List.ext_getElem?
  intro i
  simp only [Array.toList_extract, List.extract_eq_take_drop]
  by_cases hi : i < n
  · have := hcell i hi
    rw [cell_mk, hb] at this
    rw [List.getElem?_take, if_pos (by omega), List.getElem?_drop, ← this]
    simp
  · rw [List.getElem?_eq_none (by simp; omega), List.getElem?_eq_none (by omega)]
/-- a slice of elements of sz cells -/
theorem open_cells {W : World} {t e : TypeId} {sz fuel : Nat} {cs : List Value} {x : DataW H × List MemPlace} (ht : P.underlying t = some (.slice e)) (hc : P.cellsOf e = sz) (hsz : 0 < sz)
    (hf : DataW.trod enc P W 0 (fun _ => true) true fuel t cs = some x) :
    ∃ (v : Value) (rows : List (List Value)), cs = [v] ∧ SlAt W v sz rows ∧ rows.length ≤ maxLen ∧ ∀ r ∈ rows, ∃ n x, DataW.trod enc P W 0 (fun _ => true) true n e r = some x := by
  rcases Deep.open_slice ht hf with ⟨rfl, _⟩ | ⟨a, len, cap, m, n, D, Pl, rfl, _, hl, hm, hmm, _, hx⟩
  · exact ⟨_, [], rfl, .inl ⟨⟨_, _, rfl⟩, rfl⟩, by simp, by simp⟩
  · simp only [if_true] at hmm
    subst hmm
    rw [hc] at hx
    obtain ⟨R, hR⟩ := Deep.choose_lt (α := List Value) (p := fun i cs' => W.cells? 0 (a.add (i * sz)) sz = some cs' ∧ DataW.trod enc P W 0 (fun _ => true) true n e cs' = some (D i, Pl i)) hx
    cases len with
    | zero => exact ⟨_, [], rfl, .inl ⟨⟨_, _, rfl⟩, rfl⟩, by simp, by simp⟩
    | succ len =>
      have h0 := cells?_rd hsz (hR 0 (by omega)).1
      have ha : a = ⟨a.block, a.off, none⟩ := by
        obtain ⟨b, off, sp⟩ := a
        have := h0.1
        simp [Addr.add] at this
        simp [this]
      refine ⟨_, (List.range (len + 1)).map R, rfl, .inr ⟨a.block, a.off, m, ?_, fun i r hr => ?_⟩, ?_, fun r hr => ?_⟩
      · rw [← ha]; simp
      · have hi : i < len + 1 := by have := (List.getElem?_eq_some_iff.1 hr).1; simpa using this
        simp only [List.getElem?_map, List.getElem?_range hi, Option.map_some, Option.some.injEq] at hr
        subst hr
        have h2 := (cells?_rd hsz (hR i (by omega)).1).2
        rw [ha, add_mk] at h2
        exact h2
      · simp; omega
      · obtain ⟨i, hi, rfl⟩ := List.mem_map.1 hr
        have := List.mem_range.1 hi
        exact ⟨n, _, (hR i (by omega)).2⟩
theorem open_rows {W : World} {t e : TypeId} {sz : Nat} {v : Value} {d : DataW H} {p : List MemPlace} {r : Reach} {b0 : Nat} (ht : P.underlying t = some (.slice e)) (hc : P.cellsOf e = sz) (hsz : 0 < sz) (hv : Value.okWide P W r b0 t v)
    (h : DataW.Trod enc P W 0 (fun _ => true) true t v d p) :
    ∃ rows : List (List Value), SlAt W v sz rows ∧ rows.length ≤ maxLen ∧ ∀ r ∈ rows, ∃ n x, DataW.trod enc P W 0 (fun _ => true) true n e r = some x := by
  obtain ⟨a0, len, cap, rfl⟩ := okWide_slice ht hv
  obtain ⟨fuel, hf⟩ := h
  obtain ⟨v, rows, h1, h2⟩ := open_cells ht hc hsz hf
  simp only [Value.cells, List.cons.injEq, and_true] at h1
  subst h1
  exact ⟨rows, h2⟩
/-- rows that are all of one form -/
theorem rows_map {α : Type} (R : α → List Value) {q : α → Prop} : ∀ (rows : List (List Value)), (∀ r ∈ rows, ∃ a, r = R a ∧ q a) → ∃ L : List α, rows = L.map R ∧ ∀ a ∈ L, q a
  | [], _ => ⟨[], rfl, by simp⟩
  | r :: rows, h => by
    obtain ⟨a, rfl, ha⟩ := h r (by simp)
    obtain ⟨L, rfl, hL⟩ := rows_map R rows fun r hr => h r (by simp [hr])
    exact ⟨a :: L, rfl, by intro b hb; cases hb with | head => exact ha | tail _ hb => exact hL b hb⟩
theorem ints_of_rows {W : World} {v : Value} {l : List Int} (h : SlAt W v 1 (l.map fun n => [.int .i64 n])) : IntsAt W v l := by
  rcases h with ⟨h, h'⟩ | ⟨b, off, cap, h1, h2⟩
  · exact .inl ⟨h, by simpa using h'⟩
  · refine .inr ⟨b, off, cap, by simpa using h1, fun i x hx => ?_⟩
    have := h2 i [.int .i64 x] (by simp [hx])
    rw [Nat.mul_one] at this
    obtain ⟨cs, e, fz, h3, h4, h5⟩ := rd_obj this
    rw [cell_mk, h3]
    have h6 := congrArg (fun a : Array Value => a[0]?) h5
    simp only [Array.getElem?_extract] at h6
    rw [if_pos (by omega)] at h6
    simpa using h6
def i64ok (n : Int) : Prop := -9223372036854775808 ≤ n ∧ n ≤ 9223372036854775807
theorem open_int_cells {W : World} {t e : TypeId} {fuel : Nat} {cs : List Value} {x : DataW H × List MemPlace} (ht : P.underlying t = some (.slice e)) (he : P.underlying e = some (.int .i64)) (hc : P.cellsOf e = 1)
    (hf : DataW.trod enc P W 0 (fun _ => true) true fuel t cs = some x) : ∃ v l, cs = [v] ∧ IntsAt W v l ∧ l.length ≤ maxLen ∧ ∀ n ∈ l, i64ok n := by
  obtain ⟨v, rows, h1, h2, h3, h4⟩ := open_cells ht hc (by omega) hf
  obtain ⟨L, rfl, hL⟩ := rows_map (fun n : Int => [Value.int .i64 n]) (q := i64ok) rows fun r hr => by
    obtain ⟨n, x, hx⟩ := h4 r hr
    obtain ⟨z, h5, _, hw⟩ := DataW.trod_int he hx
    exact ⟨z, h5, bounds_i64 hw⟩
  exact ⟨v, L, h1, ints_of_rows h2, by simpa using h3, hL⟩
theorem open_intss {W : World} {t e q : TypeId} {v : Value} {d : DataW H} {p : List MemPlace} {r : Reach} {b0 : Nat} (ht : P.underlying t = some (.slice e)) (he : P.underlying e = some (.slice q)) (hq : P.underlying q = some (.int .i64)) (hce : P.cellsOf e = 1) (hcq : P.cellsOf q = 1)
    (hv : Value.okWide P W r b0 t v) (h : DataW.Trod enc P W 0 (fun _ => true) true t v d p) : ∃ ll : List (List Int), IntssAt W v ll ∧ ll.length ≤ maxLen ∧ ∀ l ∈ ll, l.length ≤ maxLen ∧ ∀ n ∈ l, i64ok n := by
  obtain ⟨rows, h2, h3, h4⟩ := open_rows ht hce (by omega) hv h
  have h5 : ∀ r ∈ rows, ∃ y : Value × List Int, r = [y.1] ∧ (IntsAt W y.1 y.2 ∧ y.2.length ≤ maxLen ∧ ∀ n ∈ y.2, i64ok n) := by
    intro r hr
    obtain ⟨n, x, hx⟩ := h4 r hr
    obtain ⟨v, l, rfl, h6, h7, h8⟩ := open_int_cells he hq hcq hx
    exact ⟨(v, l), rfl, h6, h7, h8⟩
  obtain ⟨L, rfl, hL⟩ := rows_map (fun y : Value × List Int => [y.1]) (q := fun y => IntsAt W y.1 y.2 ∧ y.2.length ≤ maxLen ∧ ∀ n ∈ y.2, i64ok n) rows h5
  refine ⟨L.map (·.2), ?_, by simpa using h3, fun l hl => ?_⟩
  · rcases h2 with ⟨h, h'⟩ | ⟨b, off, cap, h1, h2⟩
    · exact .inl ⟨h, by simpa using h'⟩
    · refine .inr ⟨b, off, cap, by simpa using h1, fun i l hl => ?_⟩
      simp only [List.getElem?_map] at hl
      obtain ⟨y, hy, rfl⟩ := Option.map_eq_some_iff.1 hl
      have := h2 i [y.1] (by simp [hy])
      rw [Nat.mul_one] at this
      obtain ⟨cs, e, fz, h3, h4, h5⟩ := rd_obj this
      refine ⟨y.1, ?_, (hL y (List.mem_of_getElem? hy)).1⟩
      rw [cell_mk, h3]
      have h6 := congrArg (fun a : Array Value => a[0]?) h5
      simp only [Array.getElem?_extract] at h6
      rw [if_pos (by omega)] at h6
      simpa using h6
  · obtain ⟨y, hy, rfl⟩ := List.mem_map.1 hl
    exact (hL y hy).2
end
end Go.W
set_option linter.unusedSimpArgs false
set_option linter.unusedVariables false
namespace Go.W
open Go.ChangeShapes Go.WideShapes Go.ChangeAt Go.RowKit
section
variable {H : Type} {enc : TypeId × Value → H} {P : Program}
theorem open_ints {W : World} {t e : TypeId} {v : Value} {d : DataW H} {p : List MemPlace} {r : Reach} {b0 : Nat} (ht : P.underlying t = some (.slice e)) (he : P.underlying e = some (.int .i64)) (hc : P.cellsOf e = 1)
    (hv : Value.okWide P W r b0 t v) (h : DataW.Trod enc P W 0 (fun _ => true) true t v d p) : ∃ l : List Int, IntsAt W v l ∧ l.length ≤ maxLen ∧ ∀ n ∈ l, i64ok n := by
  obtain ⟨rows, h2, h3, h4⟩ := open_rows ht hc (by omega) hv h
  obtain ⟨L, rfl, hL⟩ := rows_map (fun n : Int => [Value.int .i64 n]) (q := i64ok) rows fun r hr => by
    obtain ⟨n, x, hx⟩ := h4 r hr
    obtain ⟨z, h5, _, hw⟩ := DataW.trod_int he hx
    exact ⟨z, h5, bounds_i64 hw⟩
  exact ⟨L, ints_of_rows h2, by simpa using h3, hL⟩
/-- a slice of bytes -/
theorem open_u8s {W : World} {t e : TypeId} {v : Value} {d : DataW H} {p : List MemPlace} {r : Reach} {b0 : Nat} (ht : P.underlying t = some (.slice e)) (he : P.underlying e = some (.int .u8)) (hc : P.cellsOf e = 1)
    (hv : Value.okWide P W r b0 t v) (h : DataW.Trod enc P W 0 (fun _ => true) true t v d p) : ∃ l : List Int, SlAt W v 1 (l.map fun n => [.int .u8 n]) ∧ l.length ≤ maxLen ∧ ∀ n ∈ l, 0 ≤ n ∧ n ≤ 255 := by
  obtain ⟨rows, h2, h3, h4⟩ := open_rows ht hc (by omega) hv h
  obtain ⟨L, rfl, hL⟩ := rows_map (fun n : Int => [Value.int .u8 n]) (q := fun n => 0 ≤ n ∧ n ≤ 255) rows fun r hr => by
    obtain ⟨n, x, hx⟩ := h4 r hr
    obtain ⟨z, h5, _, hw⟩ := DataW.trod_int he hx
    exact ⟨z, h5, bounds_u8 hw⟩
  exact ⟨L, h2, by simpa using h3, hL⟩
end
end Go.W
set_option linter.unusedSimpArgs false
set_option linter.unusedVariables false
namespace Go.W
open Go.ChangeShapes Go.WideShapes Go.ChangeAt Go.RowKit
section
variable {H : Type} {enc : TypeId × Value → H} {P : Program}
theorem bounds16 {n : Int} (h : (IntKind.u16).min ≤ n ∧ n ≤ (IntKind.u16).max) : 0 ≤ n ∧ n ≤ 65535 := by
  simpa [IntKind.min, IntKind.max, IntKind.signed, IntKind.bits] using h
theorem open_u16s {W : World} {t e : TypeId} {v : Value} {d : DataW H} {p : List MemPlace} {r : Reach} {b0 : Nat} (ht : P.underlying t = some (.slice e)) (he : P.underlying e = some (.int .u16)) (hc : P.cellsOf e = 1)
    (hv : Value.okWide P W r b0 t v) (h : DataW.Trod enc P W 0 (fun _ => true) true t v d p) : ∃ l : List Int, SlAt W v 1 (l.map fun n => [.int .u16 n]) ∧ l.length ≤ maxLen ∧ ∀ n ∈ l, 0 ≤ n ∧ n ≤ 65535 := by
  obtain ⟨rows, h2, h3, h4⟩ := open_rows ht hc (by omega) hv h
  obtain ⟨L, rfl, hL⟩ := rows_map (fun n : Int => [Value.int .u16 n]) (q := fun n => 0 ≤ n ∧ n ≤ 65535) rows fun r hr => by
    obtain ⟨n, x, hx⟩ := h4 r hr
    obtain ⟨z, h5, _, hw⟩ := DataW.trod_int he hx
    exact ⟨z, h5, bounds_u16 hw⟩
  exact ⟨L, h2, by simpa using h3, hL⟩
/-- a slice is not longer than its room -/
theorem open_cap {W : World} {t e : TypeId} {v : Value} {d : DataW H} {p : List MemPlace} {r : Reach} {b0 : Nat} (ht : P.underlying t = some (.slice e)) (hv : Value.okWide P W r b0 t v) (h : DataW.Trod enc P W 0 (fun _ => true) true t v d p) : ∃ a n c, v = .slice a n c ∧ n ≤ c ∧ (a = none → c = 0) := by
  obtain ⟨a0, len, cap, rfl⟩ := okWide_slice ht hv
  obtain ⟨fuel, hf⟩ := h
  refine ⟨a0, len, cap, rfl, ?_⟩
  rcases Deep.open_slice ht hf with ⟨h1, _⟩ | ⟨a, len', cap', m, n, D, Pl, h1, _, hl, _⟩
  · simp only [Value.cells, List.cons.injEq, Value.slice.injEq, and_true] at h1
    exact ⟨by omega, fun _ => h1.2.2⟩
  · simp only [Value.cells, List.cons.injEq, Value.slice.injEq, and_true] at h1
    exact ⟨by omega, fun e => by rw [e] at h1; cases h1.1⟩
end
end Go.W
