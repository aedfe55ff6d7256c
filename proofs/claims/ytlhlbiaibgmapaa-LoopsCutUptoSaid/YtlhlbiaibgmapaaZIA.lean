/-
  Slices of integers of the call's own.
-/
import Derived.Test.YtlhlbiaibgmapaaZF
set_option linter.unusedSimpArgs false
set_option linter.unusedVariables false
namespace Go.Proofs.Ytlhlbiaibgmapaa
open Go.W Go.RowKit
abbrev ivs (l : List Int) : List Value := l.map (Value.int .i64)
abbrev IntO (base : Nat) (w : World) (v : Value) (L : List Int) : Prop := w.ownsRow base 3 1 v L.length (ivs L)
set_option maxRecDepth 10000 in
theorem app_int {w : World} {κ : Value → World → Prop} {base : Nat} {v : Value} {L : List Int} (hown : IntO base w v L) (hn : L.length + 1 ≤ 100000000) (hb : base ≤ w.heap.size) (a : Int)
    (h : ∀ v' w', IntO base w' v' (L ++ [a]) → w.grownBy w' v.ownBlock → (∀ b, v'.ownBlock = some b → v.ownBlock = some b ∨ w.heap.size ≤ b) → κ v' w') :
    RunV Try.prog (w.alloc (.cells #[.int .i64 a] 3 (0, 0))) κ (Builtin.append_ #[36, 36] 36 #[v, .slice (some ⟨w.heap.size, 0, none⟩) 1 1]) := by
  refine rV_append (ty := 36) T.el36 T.sz3 T.by3 T.zr3 rfl (by omega) (hown.alloc (.cells #[.int .i64 a] 3 (0, 0))) (news := [.int .i64 a]) (by simp) ?_ ?_ ?_ ?_ ?_ ?_
  · intro j u hu
    rw [add_mk, cell_mk, alloc_get_new]
    simpa using hu
  · intro u hu
    simp only [List.mem_singleton] at hu
    subst hu; rfl
  · unfold maxLen; omega
  · omega
  · rw [alloc_size]; omega
  · intro v' w' ho hg hnew
    refine h v' w' ?_ (grown_trans (World.grownBy_alloc w _ _) hg) ?_
    · have e : ivs (L ++ [a]) = ivs L ++ [.int .i64 a] := by simp
      show w'.ownsRow base _ 1 v' (L ++ [a]).length (ivs (L ++ [a]))
      rw [e, List.length_append]
      exact ho
    · intro b hb
      rcases hnew with e | e
      · exact .inl (e ▸ hb)
      · rw [e] at hb
        simp only [Option.some.injEq, alloc_size] at hb
        exact .inr (by omega)
/-- what stands in the row's own block alone counts -/
theorem own_at {w w' : World} {base : Nat} {e : TypeId} {sz : Nat} {v : Value} {n : Nat} {xs : List Value} (h : w.ownsRow base e sz v n xs) (hF : ∀ b, v.ownBlock = some b → w'.heap[b]? = w.heap[b]?) : w'.ownsRow base e sz v n xs := by
  obtain ⟨h1, h2⟩ := h
  refine ⟨h1, ?_⟩
  rcases h2 with h2 | ⟨g, cap, cur, rfl, q1, q2, q3⟩
  · exact .inl h2
  · exact .inr ⟨g, cap, cur, rfl, q1, (hF g rfl).trans q2, q3⟩
theorem IntO.ints {base : Nat} {w : World} {v : Value} {L : List Int} (h : IntO base w v L) : IntsAt w v L := by
  obtain ⟨h1, h2⟩ := h
  rcases h2 with ⟨rfl, h0⟩ | ⟨g, cap, cur, rfl, q1, q2, q3, q4, q5, q6⟩
  · exact .inl ⟨⟨_, _, rfl⟩, List.length_eq_zero_iff.1 h0⟩
  · refine .inr ⟨g, 0, cap, rfl, fun i x hx => ?_⟩
    rw [cell_mk, q2]
    have hi := (List.getElem?_eq_some_iff.1 hx).1
    have : (cur.toList.take (L.length * 1))[i]? = some (.int .i64 x) := by rw [q6, List.getElem?_map, hx]; rfl
    rw [List.getElem?_take_of_lt (by omega)] at this
    simpa using this
theorem _root_.Go.W.ItAt.heap {w w' : World} {it c : Nat} {x : Value} {seen : Array Nat} (h : ItAt w it x c seen) (e : w'.heap[it]? = w.heap[it]?) : ItAt w' it x c seen := by
  obtain ⟨r, h1, h2⟩ := h
  exact ⟨r, h1, e.trans h2⟩
theorem _root_.Go.W.ItAt.lt {w : World} {it c : Nat} {x : Value} {seen : Array Nat} (h : ItAt w it x c seen) : it < w.heap.size := by
  obtain ⟨r, h1, h2⟩ := h
  exact get_lt h2
theorem nodup_len {L K : List Int} (h : L.Nodup) (hs : ∀ k ∈ L, k ∈ K) : L.length ≤ K.length := List.Nodup.length_le_of_subset h hs
end Go.Proofs.Ytlhlbiaibgmapaa
