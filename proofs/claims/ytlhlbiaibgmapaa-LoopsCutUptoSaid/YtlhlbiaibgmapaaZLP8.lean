/-
  Walks, plain: edges once; back edges.
-/
import Derived.Test.YtlhlbiaibgmapaaZLP6
set_option linter.unusedSimpArgs false
set_option linter.unusedVariables false
namespace Go.Proofs.Ytlhlbiaibgmapaa
theorem edg_ge : ∀ (N : List (List Int)) (k : Nat) (e : Int × Int), e ∈ edg k N → (k : Int) ≤ e.1
  | [], k, e, h => by simp [edg] at h
  | l :: N, k, e, h => by
    rw [edg, List.mem_append] at h
    rcases h with h | h
    · obtain ⟨n, _, rfl⟩ := List.mem_map.1 h
      exact Int.le_refl _
    · have := edg_ge N (k + 1) e h
      omega
theorem edg_nodup : ∀ (N : List (List Int)) (k : Nat), (∀ l ∈ N, l.Nodup) → (edg k N).Nodup
  | [], k, _ => by simp [edg]
  | l :: N, k, h => by
    rw [edg, List.nodup_append]
    refine ⟨?_, edg_nodup N (k + 1) fun m hm => h m (by simp [hm]), ?_⟩
    · unfold List.Nodup
      rw [List.pairwise_map]
      exact (h l (by simp)).imp fun hne e => hne (by simpa using e)
    · intro x hx y hy e
      subst e
      obtain ⟨n, _, rfl⟩ := List.mem_map.1 hx
      have := edg_ge N (k + 1) _ hy
      simp only [] at this
      omega
theorem cnt_nodup {α : Type} [DecidableEq α] (a : α) : ∀ (L : List α), L.Nodup → (L.filter fun x => decide (x = a)).length = if a ∈ L then 1 else 0
  | [], _ => by simp
  | x :: L, h => by
    obtain ⟨h1, h2⟩ := List.nodup_cons.1 h
    have ih := cnt_nodup a L h2
    by_cases e : x = a
    · subst e
      rw [List.filter_cons_of_pos (by simp), List.length_cons, ih, if_neg h1, if_pos (by simp)]
    · rw [List.filter_cons_of_neg (by simpa using e), ih]
      have : a ∈ x :: L ↔ a ∈ L := by
        rw [List.mem_cons]
        exact ⟨fun h => h.resolve_left fun h => e h.symm, .inr⟩
      by_cases hm : a ∈ L
      · rw [if_pos hm, if_pos (this.2 hm)]
      · rw [if_neg hm, if_neg fun h => hm (this.1 h)]
def cntK (Es : List (Int × Int)) (k : Nat) (e : Int × Int) : Nat := ((Es.take k).filter fun x => decide (x = e)).length
theorem cntK_succ {Es : List (Int × Int)} {k : Nat} (hk : k < Es.length) (e : Int × Int) : cntK Es (k + 1) e = cntK Es k e + if Es[k] = e then 1 else 0 := by
  unfold cntK
  rw [List.take_succ_eq_append_getElem hk, List.filter_append, List.length_append]
  congr 1
  by_cases h : Es[k] = e <;> simp [h]
theorem cntK_le (Es : List (Int × Int)) (k : Nat) (e : Int × Int) : cntK Es k e ≤ k := by
  unfold cntK
  have := List.length_filter_le (fun x => decide (x = e)) (Es.take k)
  rw [List.length_take] at this
  omega
/-- the entry edges that are a given edge to the header -/
theorem ent_cnt {N : List (List Int)} (hnd : ∀ l ∈ N, l.Nodup) (x : Lp) {e : Int × Int} (he : e ∈ edg 0 N) : cntK ((edg 0 N).filter (entB x)) ((edg 0 N).filter (entB x)).length e = if entB x e = true then 1 else 0 := by
  unfold cntK
  rw [List.take_length, cnt_nodup e _ ((edg_nodup N 0 hnd).filter _)]
  by_cases h : entB x e = true
  · rw [if_pos h, if_pos (List.mem_filter.2 ⟨he, h⟩)]
  · rw [if_neg h, if_neg fun hm => h (List.mem_filter.1 hm).2]
theorem back_lat {N : List (List Int)} (hN : NOk N) (h0 : 0 < N.length) (hg : Good N) {b c : Nat} (hb : RE N b) (hE : ED N b c) (hle : PO N c ≤ PO N b) : (b : Int) ∈ lat N c := by
  have hp : b < N.length := RE.lt hN h0 hb
  refine latL_mem.2 ⟨(edg_mem N 0 _).2 ⟨b, hp, by simp, hE⟩, ?_⟩
  unfold isR
  simp only [Int.toNat_natCast, Bool.and_eq_true, decide_eq_true_eq]
  exact ⟨(rch_iff hN h0 _ _).2 ((re_iff hN h0 b).1 hb), hle⟩
end Go.Proofs.Ytlhlbiaibgmapaa
