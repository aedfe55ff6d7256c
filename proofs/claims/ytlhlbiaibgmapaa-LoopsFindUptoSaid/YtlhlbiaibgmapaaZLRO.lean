/-
  Rows of the reference's loops: printed by mkLR.py out of LB4 and LB5.
-/
import Derived.Test.YtlhlbiaibgmapaaZLB
set_option linter.unusedSimpArgs false
set_option linter.unusedVariables false
namespace Go.Proofs.Ytlhlbiaibgmapaa
open Go.W Go.RowKit
/-- loops in a row of one's own: the cells, and the lists behind them -/
def LrO (base : Nat) (w : World) (v : Value) (L : List Lp) : Prop :=
  ∃ us : List (Int × Value × Value × Int), OwnL lpR base 39 4 w v us ∧ us.length = L.length ∧ ∀ (j : Nat) (u : Int × Value × Value × Int) (x : Lp), us[j]? = some u → L[j]? = some x → u.1 = x.1 ∧ u.2.2.2 = x.2.2.2 ∧ IntO 0 w u.2.1 x.2.1 ∧ IntO 0 w u.2.2.1 x.2.2.1
theorem LrO.nil (base : Nat) (w : World) : LrO base w (.slice none 0 0) [] := ⟨[], OwnL.nil _ _ _ _ _, rfl, by simp⟩
theorem LrO.form {base : Nat} {w : World} {v : Value} {L : List Lp} (h : LrO base w v L) : ∃ a c, v = .slice a L.length c := by
  obtain ⟨us, h1, h2, _⟩ := h
  obtain ⟨a, c, e⟩ := h1.form
  exact ⟨a, c, by rw [e, h2]⟩
theorem LrO.ext {base : Nat} {w w' : World} {v : Value} {L : List Lp} (h : LrO base w v L) (hE : Ext w w') : LrO base w' v L := by
  obtain ⟨us, h1, h2, h3⟩ := h
  refine ⟨us, h1.ext hE, h2, fun j u x hu hx => ?_⟩
  obtain ⟨k1, k2, k3, k4⟩ := h3 j u x hu hx
  exact ⟨k1, k2, own_ext k3 hE, own_ext k4 hE⟩
/-- a list of integers does not lie in a row of loops -/
theorem intsr_ne {b : Nat} {w : World} {v : Value} {L : List Int} (h : IntO b w v L) {g : Nat} {cs : Array Value} (hg : w.heap[g]? = some (.cells cs 39 (0, 0))) : v.ownBlock ≠ some g := fun e => by
  obtain ⟨cs', hc⟩ := own_cells h e
  rw [hg] at hc
  simp only [Option.some.injEq, Obj.cells.injEq] at hc
  exact absurd hc.2.1 (by decide)
theorem ownlr_block {base : Nat} {w : World} {v : Value} {us : List (Int × Value × Value × Int)} (h : OwnL lpR base 39 4 w v us) {g : Nat} (hg : v.ownBlock = some g) : ∃ cs, w.heap[g]? = some (.cells cs 39 (0, 0)) := by
  obtain ⟨h1, h2⟩ := h
  rcases h2 with ⟨rfl, _⟩ | ⟨q, cap, cur, rfl, q1, q2, _⟩
  · cases hg
  · simp only [Value.ownBlock, Option.some.injEq] at hg
    subst hg
    exact ⟨_, q2⟩
/-- a list of integers stays while a row of loops grows -/
theorem intsr_grown {b base : Nat} {w w' : World} {v v0 : Value} {L : List Int} {us : List (Int × Value × Value × Int)} (h : IntO b w v L) (ho : OwnL lpR base 39 4 w v0 us) (hg : w.grownBy w' v0.ownBlock) : IntO b w' v L :=
  own_at h fun x hx => hg.block x (h.lt x hx).2 fun e => by
    obtain ⟨cs, hc⟩ := ownlr_block ho e.symm
    exact intsr_ne h hc hx
theorem LrO.at {base : Nat} {w : World} {v : Value} {L : List Lp} (h : LrO base w v L) : LpsAt w v L := by
  obtain ⟨us, ho, hl, h⟩ := h
  have hs := ho.sl (fun _ => rfl)
  rcases hs with ⟨⟨a, c, h1⟩, h2⟩ | ⟨b, off, cap, h1, h2⟩
  · left
    refine ⟨⟨a, c, h1⟩, ?_⟩
    have : us = [] := by simpa using h2
    rw [this] at hl
    exact List.length_eq_zero_iff.1 hl.symm
  · refine .inr ⟨b, off, cap, by rw [h1, List.length_map, hl], fun i x hx => ?_⟩
    have hil := (List.getElem?_eq_some_iff.1 hx).1
    have hu : us[i]? = some (us[i]'(by omega)) := by simp
    have h3 := h2 i (lpR (us[i]'(by omega))) (by rw [List.getElem?_map, hu]; rfl)
    obtain ⟨k1, k2, k3, k4⟩ := h i _ x hu hx
    refine ⟨(us[i]'(by omega)).2.1, (us[i]'(by omega)).2.2.1, ?_, (IntO.ints k3), (IntO.ints k4)⟩
    rw [h3]
    simp [lpR, k1, k2]
set_option maxRecDepth 10000 in
theorem LrO.app {w : World} {κ : Value → World → Prop} {base : Nat} {v : Value} {L : List Lp} (hown : LrO base w v L) (hn : L.length + 1 ≤ 100000000) (hb : base ≤ w.heap.size) (x : Lp) {u u' : Value} (hu1 : IntO 0 w u x.2.1) (hu1' : IntO 0 w u' x.2.2.1)
    (h : ∀ v' w', LrO base w' v' (L ++ [x]) → (∀ w0, Ext w0 w → w0.heap.size ≤ base → Ext w0 w') → κ v' w') :
    RunV Try.prog (w.alloc (.cells #[.int .i64 x.1, u, u', .int .i64 x.2.2.2] 39 (0, 0))) κ (Builtin.append_ #[34, 34] 34 #[v, .slice (some ⟨w.heap.size, 0, none⟩) 1 1]) := by
  obtain ⟨us, ho, hl, h3⟩ := hown
  obtain ⟨ua, uc, hu⟩ := own_form hu1
  obtain ⟨ua', uc', hu'⟩ := own_form hu1'
  have hone : (lpR (x.1, u, u', x.2.2.2)).all Go.W.one = true := by subst hu hu'; rfl
  refine OwnL.appA (R := lpR) T.el34 T.sz39 T.by39 T.zr39 rfl (by omega) (ho.alloc (.cells #[.int .i64 x.1, u, u', .int .i64 x.2.2.2] 39 (0, 0))) (x.1, u, u', x.2.2.2) rfl hone (by omega) (by omega) (by rw [alloc_size]; omega) ?_ ?_
  · intro j y hy
    rw [add_mk, cell_mk, alloc_get_new]
    simpa using hy
  · intro v' w' ho' hx hg hnew
    have hG := grown_trans (World.grownBy_alloc w _ _) hg
    refine h v' w' ⟨_, ho', by simp [hl], fun j y z hy hz => ?_⟩ fun w0 hE h0 => hx w0 (hE.alloc _) h0
    by_cases hj : j < us.length
    · rw [List.getElem?_append_left hj] at hy
      rw [List.getElem?_append_left (by omega)] at hz
      obtain ⟨k1, k2, k3, k4⟩ := h3 j y z hy hz
      exact ⟨k1, k2, intsr_grown k3 ho hG, intsr_grown k4 ho hG⟩
    · rw [List.getElem?_append_right (by omega)] at hy
      rw [List.getElem?_append_right (by omega), ← hl] at hz
      have hj0 : j - us.length = 0 := by
        have := (List.getElem?_eq_some_iff.1 hy).1
        simp at this
        omega
      rw [hj0] at hy hz
      simp only [List.getElem?_cons_zero, Option.some.injEq] at hy hz
      subst hy hz
      exact ⟨rfl, rfl, intsr_grown hu1 ho hG, intsr_grown hu1' ho hG⟩
/-- the block of a row of loops -/
def LrB (w : World) (g : Nat) (L : List Lp) : Prop :=
  ∃ cs, w.heap[g]? = some (.cells cs 39 (0, 0)) ∧ L.length * 4 ≤ cs.size ∧ ∀ (j : Nat) (x : Lp), L[j]? = some x → ∃ u u', cs[j * 4]? = some (.int .i64 x.1) ∧ cs[j * 4 + 1]? = some u ∧ cs[j * 4 + 2]? = some u' ∧ cs[j * 4 + 3]? = some (.int .i64 x.2.2.2) ∧ IntO 0 w u x.2.1 ∧ IntO 0 w u' x.2.2.1
theorem LrB.ext {w w' : World} {g : Nat} {L : List Lp} (h : LrB w g L) (hE : Ext w w') : LrB w' g L := by
  obtain ⟨cs, h1, h2, h3⟩ := h
  refine ⟨cs, hE.obj h1, h2, fun j x hx => ?_⟩
  obtain ⟨u, u', k1, k2, k3, k4, k5, k6⟩ := h3 j x hx
  exact ⟨u, u', k1, k2, k3, k4, own_ext k5 hE, own_ext k6 hE⟩
theorem LrB.at {w : World} {g c : Nat} {L : List Lp} (h : LrB w g L) : LpsAt w (.slice (some ⟨g, 0, none⟩) L.length c) L := by
  obtain ⟨cs, h1, h2, h3⟩ := h
  refine .inr ⟨g, 0, c, rfl, fun i x hx => ?_⟩
  have hi := (List.getElem?_eq_some_iff.1 hx).1
  obtain ⟨u, u', k1, k2, k3, k4, k5, k6⟩ := h3 i x hx
  refine ⟨u, u', ?_, (IntO.ints k5), (IntO.ints k6)⟩
  rw [Nat.zero_add, rd_blk h1 (by omega)]
  congr 1
  apply Array.ext_getElem?
  intro k
  rw [Array.getElem?_extract]
  by_cases hk : k < 4
  · rw [if_pos (by omega)]
    rcases k with _ | _ | _ | _ | k
    · simpa using k1
    · simpa using k2
    · simpa using k3
    · simpa using k4
    · omega
  · rw [if_neg (by omega)]
    symm
    apply Array.getElem?_eq_none
    simp
    omega
theorem LrB.put {w : World} {g : Nat} {L L' : List Lp} {cs : Array Value} (h : LrB w g L) (hg : w.heap[g]? = some (.cells cs 39 (0, 0))) {j : Nat} {p : Int} (hj : j < L.length) (hl : L'.length = L.length) (hL : ∀ (i : Nat) (x x' : Lp), L[i]? = some x → L'[i]? = some x' → x'.1 = x.1 ∧ x'.2.1 = x.2.1 ∧ x'.2.2.1 = x.2.2.1 ∧ x'.2.2.2 = if i = j then p else x.2.2.2) :
    LrB (w.putb g (.cells (cs.setIfInBounds (j * 4 + 3) (.int .i64 p)) 39 (0, 0))) g L' := by
  obtain ⟨cs0, h1, h2, h3⟩ := h
  rw [hg] at h1
  simp only [Option.some.injEq, Obj.cells.injEq] at h1
  obtain ⟨rfl, _⟩ := h1
  refine ⟨_, by rw [get_putb _ _ _ _ (get_lt hg), if_pos rfl], by simp [hl, h2], fun i x' hx' => ?_⟩
  have hi := (List.getElem?_eq_some_iff.1 hx').1
  have hx : L[i]? = some (L[i]'(by omega)) := by simp
  obtain ⟨e1, e2, e3, e4⟩ := hL i _ x' hx hx'
  obtain ⟨u, u', k1, k2, k3, k4, k5, k6⟩ := h3 i _ hx
  have keep : ∀ {v : Value} {l : List Int}, IntO 0 w v l → IntO 0 (w.putb g (.cells (cs.setIfInBounds (j * 4 + 3) (.int .i64 p)) 39 (0, 0))) v l := fun {v l} ho => own_at ho fun y hy => putb_get_ne (by rintro rfl; exact intsr_ne ho hg hy) _
  refine ⟨u, u', ?_, ?_, ?_, ?_, by rw [e2]; exact keep k5, by rw [e3]; exact keep k6⟩
  · rw [Array.getElem?_setIfInBounds, if_neg (by omega), e1]; exact k1
  · rw [Array.getElem?_setIfInBounds, if_neg (by omega)]; exact k2
  · rw [Array.getElem?_setIfInBounds, if_neg (by omega)]; exact k3
  · rw [Array.getElem?_setIfInBounds, e4]
    by_cases e : i = j
    · subst e
      rw [if_pos rfl, if_pos (by omega), if_pos rfl]
    · rw [if_neg (by omega), if_neg e]; exact k4
theorem LrO.blk {base : Nat} {w : World} {a : Option Addr} {n c : Nat} {L : List Lp} (h : LrO base w (.slice a n c) L) (hL : L ≠ []) : ∃ g, a = some ⟨g, 0, none⟩ ∧ base ≤ g ∧ LrB w g L := by
  obtain ⟨us, ho, hl, h3⟩ := h
  have hs := ho.sl (fun _ => rfl)
  obtain ⟨h1, h2⟩ := ho
  rcases h2 with ⟨_, h2⟩ | ⟨g, cap, cur, e, q1, q2, q3, q4, q5, q6⟩
  · have := List.length_pos_iff.2 hL; omega
  · simp only [Value.slice.injEq] at e
    obtain ⟨rfl, rfl, rfl⟩ := e
    refine ⟨g, rfl, q1, cur, q2, by omega, fun j x hx => ?_⟩
    have hj := (List.getElem?_eq_some_iff.1 hx).1
    have hu : us[j]? = some (us[j]'(by omega)) := by simp
    obtain ⟨k1, k2, k3, k4⟩ := h3 j _ x hu hx
    rcases hs with ⟨_, hs⟩ | ⟨b, off, cap2, hs1, hs2⟩
    · have : us = [] := by simpa using hs
      rw [this] at hl
      have := List.length_pos_iff.2 hL
      simp at hl
      omega
    · simp only [Value.slice.injEq, Option.some.injEq, Addr.mk.injEq, and_true] at hs1
      obtain ⟨⟨rfl, rfl⟩, _⟩ := hs1
      have h4 := hs2 j (lpR (us[j]'(by omega))) (by rw [List.getElem?_map, hu]; rfl)
      obtain ⟨cs, e, fz, h5, h6, h7⟩ := rd_obj h4
      rw [q2] at h5
      simp only [Option.some.injEq, Obj.cells.injEq] at h5
      obtain ⟨rfl, _⟩ := h5
      have key : ∀ k, k < 4 → cur[j * 4 + k]? = ((lpR (us[j]'(by omega))).toArray)[k]? := fun k hk => by
        have h8 := congrArg (fun a : Array Value => a[k]?) h7
        simp only [Array.getElem?_extract, Nat.zero_add] at h8
        rw [if_pos (by omega)] at h8
        exact h8
      refine ⟨_, _, ?_, ?_, ?_, ?_, k3, k4⟩
      · rw [← k1]; simpa using key 0 (by omega)
      · simpa using key 1 (by omega)
      · simpa using key 2 (by omega)
      · rw [← k2]; simpa using key 3 (by omega)
end Go.Proofs.Ytlhlbiaibgmapaa
