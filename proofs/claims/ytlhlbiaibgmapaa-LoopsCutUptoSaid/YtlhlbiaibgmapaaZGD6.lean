/-
  Appending lists of integers, lists of successors.
-/
import Derived.Test.YtlhlbiaibgmapaaZGB7
set_option linter.unusedSimpArgs false
set_option linter.unusedVariables false
namespace Go.Proofs.Ytlhlbiaibgmapaa
open Go.W Go.RowKit
set_option maxRecDepth 10000 in
theorem append_nilc (t ty : TypeId) (v : Value) (c : Nat) : Builtin.append_ #[t, t] ty #[v, .slice none 0 c] = Builtin.append_ #[t, t] ty #[v, .slice none 0 0] := rfl
theorem empty_own (w : World) (e : TypeId) : (w.alloc (.cells #[] e)).ownsRow w.heap.size e 1 (.slice (some ⟨w.heap.size, 0, none⟩) 0 0) 0 [] := World.ownsRow_made w #[] 0 (Nat.le_refl _) (Nat.zero_le _) (by simp)
set_option maxRecDepth 10000 in
theorem app_ints {w : World} {κ : Value → World → Prop} {base : Nat} {v : Value} {L : List Int} (hown : IntO base w v L) {u : Value} {l : List Int} (hu : IntsAt w u l) (hn : L.length + l.length ≤ 100000000) (hb : base ≤ w.heap.size)
    (h : ∀ v' w', IntO base w' v' (L ++ l) → w.grownBy w' v.ownBlock → (∀ b, v'.ownBlock = some b → v.ownBlock = some b ∨ w.heap.size ≤ b) → κ v' w') :
    RunV Try.prog w κ (Builtin.append_ #[36, 36] 36 #[v, u]) := by
  obtain ⟨a, c, rfl⟩ := hu.form
  cases a with
  | none =>
    have hl0 : l = [] := by
      rcases hu with ⟨_, h⟩ | ⟨b, off, cap, h1, _⟩
      · exact h
      · cases h1
    subst hl0
    rw [List.append_nil] at h
    rw [List.length_nil, append_nilc]
    exact rV_append_nil T.el36 T.sz3 hown (h v w hown ⟨rfl, rfl, rfl, Nat.le_refl _, fun _ _ _ => rfl⟩ fun b hb => .inl hb)
  | some a =>
    refine rV_append (ty := 36) T.el36 T.sz3 T.by3 T.zr3 rfl (by omega) hown (news := ivs l) (by simp) ?_ ?_ ?_ ?_ hb ?_
    · intro j x hx
      rcases hu with ⟨_, h⟩ | ⟨b, off, cap, h1, h2⟩
      · subst h; simp at hx
      · simp only [Value.slice.injEq, Option.some.injEq] at h1
        obtain ⟨rfl, _, _⟩ := h1
        rw [add_mk]
        rw [List.getElem?_map] at hx
        obtain ⟨y, hy, rfl⟩ := Option.map_eq_some_iff.1 hx
        exact h2 j y hy
    · intro x hx
      obtain ⟨y, _, rfl⟩ := List.mem_map.1 hx
      rfl
    · unfold maxLen; omega
    · omega
    · intro v' w' ho hg hnew
      refine h v' w' ?_ hg ?_
      · show w'.ownsRow base _ 1 v' (L ++ l).length (ivs (L ++ l))
        have e : ivs (L ++ l) = ivs L ++ ivs l := by simp
        rw [e, List.length_append]
        exact ho
      · intro b hb
        rcases hnew with e | e
        · exact .inl (e ▸ hb)
        · rw [e] at hb
          simp only [Option.some.injEq] at hb
          exact .inr (by omega)
set_option maxRecDepth 10000 in
theorem app_intss {w : World} {κ : Value → World → Prop} {base : Nat} {v : Value} (hown : w.ownsRow base 36 1 v 0 []) {u : Value} {N : List (List Int)} {w0 : World} (hu : IntssAt w0 u N) (hE : Ext w0 w) (h0 : 0 < N.length) (hn : N.length ≤ 100000000) (hb : base ≤ w.heap.size)
    (h : ∀ v' w', (∃ g cap cs, v' = .slice (some ⟨g, 0, none⟩) N.length cap ∧ base ≤ g ∧ w'.heap[g]? = some (.cells cs 36 (0, 0)) ∧ cs.size = cap ∧ N.length ≤ cap ∧ ∀ (i : Nat) (l : List Int), N[i]? = some l → ∃ x, cs[i]? = some x ∧ IntsAt w0 x l) → w.grownBy w' v.ownBlock → κ v' w') :
    RunV Try.prog w κ (Builtin.append_ #[23, 23] 23 #[v, u]) := by
  obtain ⟨a, c, rfl⟩ := hu.form'
  have hget := fun (i : Nat) (hi : i < N.length) => hu.get' hi
  obtain ⟨b, off, cs, e, fz, u0, rfl, hb0, _, _⟩ := hget 0 h0
  have hus : ∀ i, i < N.length → ∃ x, cs[off + i]? = some x ∧ ∀ l, N[i]? = some l → IntsAt w0 x l := fun i hi => by
    obtain ⟨b', off', cs', e', fz', x, e1, hb', hx, hI⟩ := hget i hi
    simp only [Option.some.injEq, Addr.mk.injEq, and_true] at e1
    obtain ⟨rfl, rfl⟩ := e1
    rw [hb0] at hb'
    simp only [Option.some.injEq, Obj.cells.injEq] at hb'
    obtain ⟨rfl, _⟩ := hb'
    refine ⟨x, hx, fun l hl => ?_⟩
    rw [List.getElem?_eq_getElem hi] at hl
    rw [← Option.some.inj hl]
    exact hI
  have hsz : off + N.length ≤ cs.size := by
    obtain ⟨x, hx, _⟩ := hus (N.length - 1) (by omega)
    have := (Array.getElem?_eq_some_iff.1 hx).1
    omega
  refine rV_append (ty := 23) T.el23 T.sz36 T.by36 T.zr36 rfl (by omega) hown (news := (cs.toList.drop off).take N.length) (by simp; omega) ?_ ?_ ?_ ?_ hb ?_
  · intro j x hx
    rw [add_mk, cell_mk, hE.obj hb0]
    rw [List.getElem?_take] at hx
    split at hx
    · rw [List.getElem?_drop] at hx
      simpa using hx
    · cases hx
  · intro x hx
    obtain ⟨j, hj, rfl⟩ := List.mem_iff_getElem.1 hx
    have hjl : j < N.length := by simp at hj; omega
    obtain ⟨y, hy, hI⟩ := hus j hjl
    have : ((cs.toList.drop off).take N.length)[j]? = some y := by
      rw [List.getElem?_take, if_pos hjl, List.getElem?_drop]
      simpa using hy
    rw [List.getElem?_eq_getElem hj] at this
    rw [Option.some.inj this]
    obtain ⟨ya, yc, rfl⟩ := (hI N[j] (by simp)).form
    rfl
  · unfold maxLen; omega
  · omega
  · intro v' w' ho hg _
    refine h v' w' ?_ hg
    rw [Nat.zero_add, List.nil_append] at ho
    obtain ⟨h1, h2⟩ := ho
    rcases h2 with ⟨rfl, hz⟩ | ⟨g, cap, cur, rfl, q1, q2, q3, q4, q5, q6⟩
    · omega
    · refine ⟨g, cap, cur, rfl, q1, q2, by omega, q3, fun i l hl => ?_⟩
      have hi := (List.getElem?_eq_some_iff.1 hl).1
      obtain ⟨y, hy, hI⟩ := hus i hi
      refine ⟨y, ?_, hI l hl⟩
      have : (cur.toList.take (N.length * 1))[i]? = some y := by
        rw [q6, List.getElem?_take, if_pos hi, List.getElem?_drop]
        simpa using hy
      rw [List.getElem?_take_of_lt (by omega)] at this
      simpa using this
/-- one more successor -/
def addE (N : List (List Int)) (a b : Nat) : List (List Int) := N.set a (sc N a ++ [(b : Int)])
theorem addE_len (N : List (List Int)) (a b : Nat) : (addE N a b).length = N.length := by simp [addE]
theorem addE_sc {N : List (List Int)} {a b : Nat} (ha : a < N.length) (x : Nat) : sc (addE N a b) x = if x = a then sc N a ++ [(b : Int)] else sc N x := by
  by_cases e : x = a
  · subst e
    rw [if_pos rfl]
    unfold addE
    show (N.set x _).getD x [] = _
    rw [List.getD_eq_getElem?_getD, List.getElem?_set]
    simp [ha]
  · rw [if_neg e]
    unfold addE
    show (N.set a _).getD x [] = N.getD x []
    rw [List.getD_eq_getElem?_getD, List.getElem?_set, if_neg (fun q => e q.symm), List.getD_eq_getElem?_getD]
theorem addE_ed {N : List (List Int)} {a b : Nat} (ha : a < N.length) (p c : Nat) : ED (addE N a b) p c ↔ ED N p c ∨ (p = a ∧ c = b) := by
  show (c : Int) ∈ sc (addE N a b) p ↔ (c : Int) ∈ sc N p ∨ _
  rw [addE_sc ha]
  by_cases e : p = a
  · subst e
    rw [if_pos rfl, List.mem_append, List.mem_singleton]
    constructor
    · rintro (h | h)
      · exact .inl h
      · exact .inr ⟨rfl, by omega⟩
    · rintro (h | ⟨_, rfl⟩)
      · exact .inl h
      · exact .inr rfl
  · rw [if_neg e]
    constructor
    · exact .inl
    · rintro (h | ⟨h, _⟩)
      · exact h
      · exact (e h).elim
theorem addE_nv {N : List (List Int)} (h : NV N) {a b : Nat} (ha : a < N.length) (hb : b < N.length) (hl : (sc N a).length ≤ 1) (hm : (b : Int) ∉ sc N a) : NV (addE N a b) := by
  have key : ∀ l ∈ addE N a b, l ∈ N ∨ l = sc N a ++ [(b : Int)] := fun l hl' => List.mem_or_eq_of_mem_set hl'
  have hma := NV.mem ha
  refine ⟨fun l hl' m hm' => ?_, by rw [addE_len]; exact h.pos, fun l hl' => ?_, fun l hl' => ?_⟩
  · rw [addE_len]
    rcases key l hl' with h1 | rfl
    · exact h.ok l h1 m hm'
    · rcases List.mem_append.1 hm' with h1 | h1
      · exact h.ok _ hma m h1
      · simp only [List.mem_singleton] at h1
        omega
  · rcases key l hl' with h1 | rfl
    · exact h.two l h1
    · rw [List.length_append, List.length_singleton]; omega
  · rcases key l hl' with h1 | rfl
    · exact h.nd l h1
    · rw [List.nodup_append]
      refine ⟨h.nd _ hma, by simp, fun x hx y hy => ?_⟩
      simp only [List.mem_singleton] at hy
      rintro rfl
      rw [hy] at hx
      exact hm hx
end Go.Proofs.Ytlhlbiaibgmapaa
