/-
  slices.Sort at []int, over veiled worlds.
-/
import Derived.Test.YtneipineehichaaZSH
import Derived.Test.YtneipineehichaaZF
set_option linter.unusedSimpArgs false
set_option linter.unusedVariables false
namespace Go.Proofs.Ytneipineehichaa
open Go.W Go.RowKit
open Go.Sort (Holds putRow grow putCells mapBlock onCells)
theorem putRow_heap {enc : Int → Value} {w : World} {blk off : Nat} {d : Array Int} {cur : Array Value} {e : TypeId} {fz : Nat × Nat} (h : w.heap[blk]? = some (.cells cur e fz)) (n : Nat) (os : Array Obj) :
    (grow (putRow enc (Go.Sort.ahead w n) blk off d) os).heap[blk]? = some (.cells (putCells enc off d cur) e fz) := by
  have hlt : blk < w.heap.size := get_lt h
  rw [Go.Sort.heap_grow_old _ _ (by rw [Go.Sort.size_putRow]; exact hlt)]
  have h' : (Go.Sort.ahead w n).heap[blk]? = some (.cells cur e fz) := h
  simp only [putRow, mapBlock, Array.getElem?_modify, if_true, h', Option.map_some]
  rfl
theorem putRow_heap_ne {enc : Int → Value} {w : World} {blk off : Nat} {d : Array Int} {b : Nat} (hb : b ≠ blk) (hlt : b < w.heap.size) (n : Nat) (os : Array Obj) :
    (grow (putRow enc (Go.Sort.ahead w n) blk off d) os).heap[b]? = w.heap[b]? := by
  rw [Go.Sort.heap_grow_old _ _ (by rw [Go.Sort.size_putRow]; exact hlt)]
  simp only [putRow, mapBlock, Array.getElem?_modify]
  rw [if_neg (Ne.symm hb)]
  rfl
/-- slices.Sort of a row of the caller's own -/
theorem Sort_spec (base : Nat) (v : Value) (L : List Int) (hl : L.length ≤ 1000000) (w : World) (h : w.ownsRow base 3 1 v L.length (L.map (Value.int .i64))) :
    VRet Try.prog 32 #[v] w fun u w' => w'.ownsRow base 3 1 v L.length ((L.mergeSort fun x y => decide (x ≤ y)).map (Value.int .i64)) ∧ w.grownBy w' v.ownBlock := by
  have hen := T.en32
  refine .inl ⟨hen, fun T wa hw hT => ⟨hen, ?_⟩⟩
  subst hw
  obtain ⟨ho, hTb⟩ := own_tomb h
  have hlt := ho.lt
  obtain ⟨h1, h2⟩ := ho
  rcases h2 with ⟨rfl, hn⟩ | ⟨g, cap, cur, rfl, q1, q2, q3, q4, q5, q6⟩
  · obtain rfl : L = [] := List.length_eq_zero_iff.1 hn
    refine (AnyM.slices_Sort_int_none Try.sortM none 0 wa).mono ?_
    rintro e w' ⟨rfl, rfl⟩
    exact ⟨_, rfl, T, Kp.refl hT, by simpa using h, ⟨rfl, rfl, rfl, Nat.le_refl _, fun _ _ _ => rfl⟩⟩
  · have hgT : T g = false := hTb g rfl
    have hglt := get_lt q2
    rw [Nat.mul_one] at q5 q6
    have hH : Holds (Value.int .i64) wa g 0 L.toArray := by
      intro j hj
      simp only [List.size_toArray] at hj
      rw [Nat.zero_add]
      refine ⟨?_, ?_⟩
      · rw [cell_mk, q2]
        have : (cur.toList.take L.length)[j]? = some (.int .i64 L[j]) := by rw [q6]; simp [hj]
        rw [List.getElem?_take_of_lt hj] at this
        simp only [Array.getElem?_toList] at this
        simp [this, hj]
      · simp only [World.frozen?, q2]; simp
    refine (AnyM.slices_Sort_int Try.sortM g 0 cap L wa hH hglt (by omega)).mono ?_
    rintro e w' ⟨rfl, n, os, rfl⟩
    have hsz : wa.heap.size ≤ (grow (putRow (Value.int .i64) (Go.Sort.ahead wa n) g 0 (L.mergeSort fun x y => decide (x ≤ y)).toArray) os).heap.size := by
      rw [Go.Sort.size_grow, Go.Sort.size_putRow]
      show wa.heap.size ≤ wa.heap.size + _
      omega
    have hgn := putRow_heap (enc := Value.int .i64) (off := 0) (d := (L.mergeSort fun x y => decide (x ≤ y)).toArray) q2 n os
    have hne := fun b hb hlt => putRow_heap_ne (enc := Value.int .i64) (w := wa) (blk := g) (off := 0) (d := (L.mergeSort fun x y => decide (x ≤ y)).toArray) (b := b) hb hlt n os
    have hos : (grow (putRow (Value.int .i64) (Go.Sort.ahead wa n) g 0 (L.mergeSort fun x y => decide (x ≤ y)).toArray) os).os = wa.os := rfl
    have htp : (grow (putRow (Value.int .i64) (Go.Sort.ahead wa n) g 0 (L.mergeSort fun x y => decide (x ≤ y)).toArray) os).tape = wa.tape := rfl
    have hou : (grow (putRow (Value.int .i64) (Go.Sort.ahead wa n) g 0 (L.mergeSort fun x y => decide (x ≤ y)).toArray) os).output = wa.output := rfl
    generalize grow (putRow (Value.int .i64) (Go.Sort.ahead wa n) g 0 (L.mergeSort fun x y => decide (x ≤ y)).toArray) os = wb at *
    have hTB : TB T wb := fun b hb => hT b (Nat.le_trans hsz hb)
    have hK : Kp T wa T wb := ⟨hT, hTB, hsz, fun _ _ => rfl, fun b hb => hne b (by rintro rfl; rw [hgT] at hb; cases hb) (hT.lt hb)⟩
    refine ⟨_, rfl, T, hK, ?_, ?_⟩
    · refine tomb_own ?_ hTb
      refine ⟨by simp, .inr ⟨g, cap, _, rfl, q1, hgn, q3, q4, ?_, ?_⟩⟩
      · rw [Nat.mul_one]; simp [putCells, q5]
      · rw [Nat.mul_one]
        apply List.ext_getElem?
        intro j
        by_cases hj : j < L.length
        · have hjc : j < cur.size := by omega
          rw [List.getElem?_take_of_lt hj, Array.getElem?_toList]
          simp only [putCells, Array.getElem?_mapIdx, Nat.zero_le, Nat.zero_add, true_and, Nat.sub_zero, List.size_toArray, List.length_mergeSort, hj, if_true]
          rw [Array.getElem?_eq_getElem hjc]
          have hjm : j < (L.mergeSort fun x y => decide (x ≤ y)).length := by rw [List.length_mergeSort]; exact hj
          simp [hjm, hj]
        · rw [List.getElem?_eq_none (by simp; omega), List.getElem?_eq_none (by simp; omega)]
    · refine ⟨hos, htp, hou, by rw [tombW_size, tombW_size]; exact hsz, fun b hb hn => ?_⟩
      rw [tombW_size] at hb
      rw [tombW_get, tombW_get, hne b (fun e => hn (by rw [e]; rfl)) hb]
/-- a strictly ascending list is what sorting any arrangement of it gives -/
theorem sort_perm {L K : List Int} (hp : L.Perm K) (hK : K.Pairwise (· < ·)) : (L.mergeSort fun x y => decide (x ≤ y)) = K := by
  have h1 : (L.mergeSort fun x y => decide (x ≤ y)).Pairwise (fun x y => decide (x ≤ y) = true) := List.pairwise_mergeSort (by intro a b c; simp; omega) (by intro a b; simp; omega) L
  refine List.Perm.eq_of_pairwise (le := fun x y => x ≤ y) ?_ (h1.imp (by simp)) (hK.imp (by omega)) ((List.mergeSort_perm L _).trans hp)
  intro a b _ _ h1 h2
  omega
end Go.Proofs.Ytneipineehichaa
