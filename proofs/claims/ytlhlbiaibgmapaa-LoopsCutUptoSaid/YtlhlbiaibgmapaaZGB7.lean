/-
  The laws' Graph.
-/
import Derived.Test.YtlhlbiaibgmapaaZGB5
import Derived.Test.YtlhlbiaibgmapaaZGP6
set_option linter.unusedSimpArgs false
set_option linter.unusedVariables false
namespace Go.Proofs.Ytlhlbiaibgmapaa
open Go.W Go.RowKit
def blk (N : List (List Int)) (i : Nat) : Blk := ((i : Int), (i : Int) + 1, sc N i)
def blks (N : List (List Int)) (k : Nat) : List Blk := (List.range k).map (blk N)
theorem blks_succ (N : List (List Int)) (k : Nat) : blks N (k + 1) = blks N k ++ [blk N k] := by unfold blks; rw [List.range_succ, List.map_append]; rfl
theorem blks_len (N : List (List Int)) (k : Nat) : (blks N k).length = k := by simp [blks]
theorem nx_blks (N : List (List Int)) : nx (blks N N.length) = N := by
  apply List.ext_getElem?
  intro i
  by_cases hi : i < N.length
  · simp [nx, blks, hi, blk, sc]
  · simp [nx, blks, hi]
structure NV (N : List (List Int)) : Prop where
  ok : NOk N
  pos : 0 < N.length
  two : ∀ l ∈ N, l.length ≤ 2
  nd : ∀ l ∈ N, l.Nodup
theorem NV.mem {N : List (List Int)} {i : Nat} (hi : i < N.length) : sc N i ∈ N := by
  unfold sc
  rw [List.getD_eq_getElem?_getD, List.getElem?_eq_getElem hi]
  exact List.getElem_mem hi
theorem VG_nv {B : List Blk} {PV : List (List Int)} (h : VG B PV = true) : NV (nx B) := by
  obtain ⟨h1, h2, h3, h4, _⟩ := VG_spec h
  exact ⟨h2, by unfold nx; rw [List.length_map]; exact h1, h3, h4⟩
theorem VG_blks {N : List (List Int)} (h : NV N) : VG (blks N N.length) (prevOf N) = true := by
  have key : ∀ k, k ≤ N.length → BOkE N.length 0 (blks N k) = some (k : Int) := fun k => by
    induction k with
    | zero => intro _; rfl
    | succ k ih =>
      intro hk
      rw [blks_succ, BOkE_append, ih (by omega)]
      have hm := NV.mem (show k < N.length by omega)
      have hc : (k : Int) ≤ (blk N k).1 ∧ (blk N k).1 < (blk N k).2.1 ∧ (blk N k).2.2.length ≤ 2 ∧ (∀ m ∈ (blk N k).2.2, 0 ≤ m ∧ m < (N.length : Int)) ∧ ((blk N k).2.2.length = 2 → (blk N k).2.2[0]? ≠ (blk N k).2.2[1]?) := by
        refine ⟨Int.le_refl _, by show (k : Int) < (k : Int) + 1; omega, h.two _ hm, fun m hm' => h.ok _ hm m hm', fun h2 => ?_⟩
        have hn := h.nd _ hm
        revert h2
        show (sc N k).length = 2 → (sc N k)[0]? ≠ (sc N k)[1]?
        intro h2
        match hl : sc N k, h2 with
        | [x, y], _ =>
          rw [hl] at hn
          simpa using hn
      rw [Option.bind_some, BOkE, if_pos hc]
      rfl
  have hne : blks N N.length ≠ [] := by
    intro e
    have := congrArg List.length e
    rw [blks_len] at this
    have := h.pos
    rw [List.length_nil] at *
    omega
  simp [VG, hne, prevOf_len, blks_len, key _ (Nat.le_refl _), nx_blks]
abbrev gRow (x : Int × Int × Value) : List Value := [.int .i64 x.1, .int .i64 x.2.1, x.2.2]
theorem blks_of {w : World} {base : Nat} {v : Value} {us : List (Int × Int × Value)} {B : List Blk} (ho : OwnL gRow base 69 3 w v us) (hl : us.length = B.length) (h : ∀ (j : Nat) u b, us[j]? = some u → B[j]? = some b → u.1 = b.1 ∧ u.2.1 = b.2.1 ∧ IntsAt w u.2.2 b.2.2) : BlksAt w v B := by
  have hs := ho.sl (fun _ => rfl)
  rcases hs with ⟨h1, h2⟩ | ⟨b, off, cap, h1, h2⟩
  · left
    refine ⟨h1, ?_⟩
    have : us = [] := by simpa using h2
    rw [this] at hl
    exact List.length_eq_zero_iff.1 hl.symm
  · refine .inr ⟨b, off, cap, by rw [h1, List.length_map, hl], fun i x hx => ?_⟩
    have hil := (List.getElem?_eq_some_iff.1 hx).1
    have hu : us[i]? = some (us[i]'(by omega)) := by simp
    have h3 := h2 i (gRow (us[i]'(by omega))) (by rw [List.getElem?_map, hu]; rfl)
    obtain ⟨k1, k2, k3⟩ := h i _ x hu hx
    refine ⟨(us[i]'(by omega)).2.2, ?_, k3⟩
    rw [h3]
    simp [gRow, k1, k2]
/-- what the operations of the appending region hand back -/
def GrC (bsv : Value) (n ql : Nat) (x i : Nat) (w1 : World) (row : Value) : Nat → Option (Nat × Nat) → Value → Prop
  | 0, o, _ => o = some (3, 1)
  | 1, _, v => v = .slice (some ⟨ql, 0, none⟩) n n
  | 2, _, v => v = .int .i64 x
  | 3, o, _ => o = some (3, 1)
  | 4, _, v => v = .slice (some ⟨ql, 0, none⟩) n n
  | 5, _, v => v = .int .i64 x
  | 6, _, v => v = .pointer (some ⟨ql, x, none⟩)
  | 7, _, v => v = row
  | 8, _, v => v = .int .i64 i
  | 9, _, v => v = .slice (some ⟨w1.heap.size, 0, none⟩) 1 1
  | _, _, _ => True
structure GrI (C : Nat → Option (Nat × Nat) → Value → Prop) (lst : List (Nat × Value)) (i : Nat) (R : Value → World → Prop) (w1 : World) (L : Nat → Bool) (ok : OK) (f : Fr) (w : World) : Prop where
  fr : ∀ p ∈ lst, p.1 < 54 ∧ f p.1 = p.2
  c : ∀ n, n ≤ 9 → L n = true → C n (ok (54 + n)) (f (54 + n))
  d : L 10 = true → L 9 = true ∧ L 7 = true
  w0 : L 9 = false → w = w1
  w9 : L 9 = true → L 10 = false → w = w1.alloc (.cells #[.int .i64 i] 3 (0, 0))
  w10 : L 10 = true → R (f 64) w
theorem GrI.slot {C : Nat → Option (Nat × Nat) → Value → Prop} {lst : List (Nat × Value)} {i : Nat} {R : Value → World → Prop} {w1 : World} {L : Nat → Bool} {ok : OK} {f : Fr} {w : World} (h : GrI C lst i R w1 L ok f w) {k : Nat} (hk : k ≤ 8) {v : Value} (hv : C k (ok (54 + k)) v) : GrI C lst i R w1 (setL L k) ok (upd f (54 + k) v) w := by
  have e9 : setL L k 9 = L 9 := by simp [setL, show ¬ 9 = k by omega]
  have e10 : setL L k 10 = L 10 := by simp [setL, show ¬ 10 = k by omega]
  refine ⟨fun j hj => ⟨(h.fr j hj).1, by rw [upd_apply, if_neg (by have := (h.fr j hj).1; omega)]; exact (h.fr j hj).2⟩, fun n hn hl => ?_, fun h10 => by rw [e10] at h10; exact ⟨by rw [e9]; exact (h.d h10).1, by have := (h.d h10).2; simp [setL, this]⟩, by rw [e9]; exact h.w0, by rw [e9, e10]; exact h.w9, by rw [e10, upd_apply, if_neg (by omega)]; exact h.w10⟩
  by_cases e : n = k
  · subst e
    rw [upd_apply, if_pos rfl]
    exact hv
  · rw [upd_apply, if_neg (by omega)]
    refine h.c n hn ?_
    simpa [setL, e] using hl
theorem GrI.path {C : Nat → Option (Nat × Nat) → Value → Prop} {lst : List (Nat × Value)} {i : Nat} {R : Value → World → Prop} {w1 : World} {L : Nat → Bool} {ok : OK} {f : Fr} {w : World} (h : GrI C lst i R w1 L ok f w) {k : Nat} (hk : k ≤ 8) {b o : Nat} (hv : C k (some (b, o)) (f (54 + k))) : GrI C lst i R w1 (setL L k) (oset ok (54 + k) b o) f w := by
  have e9 : setL L k 9 = L 9 := by simp [setL, show ¬ 9 = k by omega]
  have e10 : setL L k 10 = L 10 := by simp [setL, show ¬ 10 = k by omega]
  refine ⟨h.fr, fun n hn hl => ?_, fun h10 => by rw [e10] at h10; exact ⟨by rw [e9]; exact (h.d h10).1, by have := (h.d h10).2; simp [setL, this]⟩, by rw [e9]; exact h.w0, by rw [e9, e10]; exact h.w9, by rw [e10]; exact h.w10⟩
  by_cases e : n = k
  · subst e
    rw [oset_app, if_pos rfl]
    exact hv
  · rw [oset_app, if_neg (by omega)]
    refine h.c n hn ?_
    simpa [setL, e] using hl
end Go.Proofs.Ytlhlbiaibgmapaa
