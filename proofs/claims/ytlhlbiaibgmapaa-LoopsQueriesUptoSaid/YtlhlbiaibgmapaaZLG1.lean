/-
  Lists of loops, and graphs with few edges, opened.
-/
import Derived.Test.YtlhlbiaibgmapaaZLG0
import Derived.Test.YtlhlbiaibgmapaaZLA
set_option linter.unusedSimpArgs false
set_option linter.unusedVariables false
namespace Go.Proofs.Ytlhlbiaibgmapaa
open Go.W Go.ChangeShapes Go.WideShapes Go.ChangeAt Go.RowKit
theorem edg_bulk {H : Type} : ∀ (N : List (List Int)) (k : Nat) (Ds : List (DataW H)), N.length ≤ Ds.length → (∀ (i : Nat) l d, N[i]? = some l → Ds[i]? = some d → l.length ≤ Rows.uptoBulk d) → (edg k N).length ≤ Rows.uptoBulkAll Ds
  | [], k, Ds, _, _ => by simp [edg]
  | l :: N, k, [], h, _ => by simp at h
  | l :: N, k, d :: Ds, h, hi => by
    have h1 := hi 0 l d rfl rfl
    have h2 := edg_bulk N (k + 1) Ds (by simpa using h) fun i l' d' h3 h4 => hi (i + 1) l' d' (by simpa using h3) (by simpa using h4)
    rw [edg, List.length_append, List.length_map]
    simp only [Rows.uptoBulkAll]
    omega
section
variable {H : Type} {enc : TypeId × Value → H} {W : World} {v : Value} {d : DataW H} {p : List MemPlace} {r : Reach} {b0 : Nat}
set_option maxRecDepth 100000 in
theorem blks_bulk {fuel : Nat} {x : DataW H × List MemPlace} {B : List Blk} (hB : BlksAt W v B) (hf : DataW.trod enc Try.prog W 0 (fun _ => true) true fuel 22 [v] = some x) : (edg 0 (nx B)).length ≤ Rows.uptoBulk x.1 := by
  have ec : Try.prog.cellsOf 69 = 3 := by kernel_rfl
  have e2 : Try.prog.cellsOf 36 = 1 := by kernel_rfl
  have nil : B.length = 0 → (edg 0 (nx B)).length ≤ Rows.uptoBulk x.1 := fun h => by
    rw [List.length_eq_zero_iff.1 h]
    simp [nx, edg]
  rcases Deep.open_slice Try.underlying22 hf with ⟨h1, _⟩ | ⟨a, len, cap, m, n, D, Pl, h1, _, hl, hm, hmm, hx, hrow⟩
  · simp only [List.cons.injEq, and_true] at h1
    obtain ⟨a, c, e⟩ := hB.form
    rw [h1] at e
    simp only [Value.slice.injEq] at e
    exact nil (by omega)
  · simp only [List.cons.injEq, and_true] at h1
    subst h1
    rw [ec] at hrow
    simp only [if_true] at hmm
    subst hmm
    have hfm := hB.form
    obtain ⟨a', c', e⟩ := hfm
    simp only [Value.slice.injEq] at e
    obtain ⟨_, e, _⟩ := e
    rcases hB with ⟨_, h⟩ | ⟨b, off, cap', h1, h2⟩
    · exact nil (by rw [h]; rfl)
    · have hle := edg_bulk (nx B) 0 ((List.range len).map D) (by unfold nx; simp; omega) fun i l dd h3 h4 => by
        have hi : i < len := by have := (List.getElem?_eq_some_iff.1 h4).1; simpa using this
        rw [List.getElem?_map, List.getElem?_range hi] at h4
        simp only [Option.map_some, Option.some.injEq] at h4
        unfold nx at h3
        rw [List.getElem?_map] at h3
        obtain ⟨blk, h5, rfl⟩ := Option.map_eq_some_iff.1 h3
        obtain ⟨u, h6, h7⟩ := h2 i blk h5
        obtain ⟨cs', h8, h9⟩ := hrow i (by omega)
        have h10 := (cells?_rd (by omega) h8).2
        simp only [Value.slice.injEq, Option.some.injEq] at h1
        obtain ⟨rfl, _⟩ := h1
        rw [add_mk] at h10
        rw [h6] at h10
        obtain ⟨y0, y1, y2, m', e3, hlen, h11, h12, h13⟩ := Deep.trod_struct3 Try.underlying69 h9
        have h14 : cs' = [.int .i64 blk.1, .int .i64 blk.2.1, u] := by
          have h15 := congrArg Array.toList (Option.some.inj h10)
          simpa using h15.symm
        rw [h14] at h13
        simp only [e2, List.drop_zero, List.drop_succ_cons, List.take_succ_cons, List.take_zero] at h13
        obtain ⟨a2, n2, c2, h16, h17⟩ := bulk_cells Try.underlying36 h13
        obtain ⟨a3, c3, h18⟩ := h7.form
        rw [h16] at h18
        simp only [Value.slice.injEq] at h18
        have h19 : D i = .agg [y0.1, y1.1, y2.1] := congrArg Prod.fst e3
        rw [← h4, h19]
        simp only [Rows.uptoBulk, Rows.uptoBulkAll]
        omega
      rw [hx]
      simp only [Rows.uptoBulk]
      omega
set_option maxRecDepth 100000 in
theorem open_graphE (hv : Value.okWide Try.prog W r b0 25 v) (h : DataW.Trod enc Try.prog W 0 (fun _ => true) true 25 v d p) : ∃ B PV, GrAt W v B PV ∧ (edg 0 (nx B)).length ≤ Rows.uptoBulk d ∧ B.length ≤ Rows.uptoBulk d := by
  obtain ⟨v0, v1, y0, y1, n, rfl, rfl, _, h0, h1⟩ := Joins.open_agg2 Try.underlying25 (by kernel_rfl) (show Try.prog.cellsOf 25 = 2 by kernel_rfl) hv h
  obtain ⟨u, B, q0, hB, hl⟩ := open_blks_cells h0
  obtain ⟨u', PV, q1, hP, _⟩ := open_intss_cells Try.underlying23 Try.underlying36 Try.underlying3 (by kernel_rfl) (by kernel_rfl) h1
  simp only [List.cons.injEq, and_true] at q0 q1
  subst q0 q1
  have hbk := blks_bulk hB h0
  obtain ⟨a, m, c, e, hm⟩ := bulk_cells Try.underlying22 h0
  obtain ⟨a', c', e'⟩ := hB.form
  rw [e'] at e
  simp only [Value.slice.injEq] at e
  refine ⟨B, PV, ⟨_, _, rfl, hB, hP⟩, ?_, ?_⟩ <;> simp only [Rows.uptoBulk, Rows.uptoBulkAll] <;> omega
abbrev lRow (y : (Int × Value × Value × Int) × List Int × List Int) : List Value := [.int .i64 y.1.1, y.1.2.1, y.1.2.2.1, .int .i64 y.1.2.2.2]
set_option maxRecDepth 100000 in
theorem open_loopsU (hv : Value.okWide Try.prog W r b0 27 v) (h : DataW.Trod enc Try.prog W 0 (fun _ => true) true 27 v d p) : ∃ L, LpsAt W v L ∧ L.length ≤ maxLen := by
  have ec : Try.prog.cellsOf 38 = 4 := by kernel_rfl
  have e1 : Try.prog.cellsOf 3 = 1 := by kernel_rfl
  have e2 : Try.prog.cellsOf 36 = 1 := by kernel_rfl
  obtain ⟨rows, h2, h3, h4⟩ := open_rows Try.underlying27 ec (by omega) hv h
  obtain ⟨L, rfl, hL⟩ := rows_map lRow (q := fun y => IntsAt W y.1.2.1 y.2.1 ∧ IntsAt W y.1.2.2.1 y.2.2) rows fun r hr => by
    obtain ⟨n, x, hx⟩ := h4 r hr
    obtain ⟨y0, y1, y2, y3, m, _, hlen, h0, h1, h2, h3⟩ := Joins.trod_struct4 Try.underlying38 hx
    rw [ec] at hlen
    obtain ⟨c0, c1, c2, c3, rfl⟩ : ∃ c0 c1 c2 c3, r = [c0, c1, c2, c3] := by
      match r, hlen with
      | [c0, c1, c2, c3], _ => exact ⟨c0, c1, c2, c3, rfl⟩
    simp only [e1, e2, List.drop_zero, List.drop_succ_cons, List.take_succ_cons, List.take_zero] at h0 h1 h2 h3
    obtain ⟨a, q0, _, w0⟩ := DataW.trod_int Try.underlying3 h0
    obtain ⟨u, l, q1, k1, _, _⟩ := open_int_cells Try.underlying36 Try.underlying3 e1 h1
    obtain ⟨u', l', q2, k2, _, _⟩ := open_int_cells Try.underlying36 Try.underlying3 e1 h2
    obtain ⟨b, q3, _, w3⟩ := DataW.trod_int Try.underlying3 h3
    simp only [List.cons.injEq, and_true] at q0 q1 q2 q3
    subst q0 q1 q2 q3
    exact ⟨((a, _, _, b), l, l'), rfl, k1, k2⟩
  refine ⟨L.map fun y => (y.1.1, y.2.1, y.2.2, y.1.2.2.2), ?_, by simpa using h3⟩
  rcases h2 with ⟨h, h'⟩ | ⟨b, off, cap, h1, h2⟩
  · exact .inl ⟨h, by simpa using h'⟩
  · refine .inr ⟨b, off, cap, by simpa using h1, fun i l hl => ?_⟩
    simp only [List.getElem?_map] at hl
    obtain ⟨y, hy, rfl⟩ := Option.map_eq_some_iff.1 hl
    have := h2 i (lRow y) (by simp [hy])
    exact ⟨y.1.2.1, y.1.2.2.1, this, hL y (List.mem_of_getElem? hy)⟩
end
end Go.Proofs.Ytlhlbiaibgmapaa
