/-
  May: Lines.
-/
import Derived.Test.YtndkadphpbnpeaaZCM5
import Derived.Test.YtndkadphpbnpeaaZSO
import Derived.Test.YtndkadphpbnpeaaZIA
set_option linter.unusedSimpArgs false
set_option linter.unusedVariables false
namespace Go.Proofs.Ytndkadphpbnpeaa
open Go.W Go.RowKit
/-- the lines of a state, ascending -/
structure KeysOf (m : Int → Option Int) (Ks : List Int) : Prop where
  srt : Ks.Pairwise (· < ·)
  mem : ∀ k, m k ≠ none ↔ k ∈ Ks
  pos : ∀ k ∈ Ks, 0 ≤ k
  len : Ks.length ≤ 500000
theorem KeysOf.nodup {m : Int → Option Int} {Ks : List Int} (h : KeysOf m Ks) : Ks.Nodup := h.srt.imp (by intro a b h; omega)
set_option maxRecDepth 10000 in
theorem mLines_none (s y l : Int) (st : Value) (w : World) (h : MayAt w st s y l none) : VRet Try.prog 27 #[st] w fun v w' => v = .tuple #[.slice none 0 0, .bool false] ∧ Ext w w' := by
  subst h
  refine VRet_start T.mo ok27 rfl fun Ψ hΨ => ?_; simp only [vc27, rs27]
  simp only [VS, VD, SV, SL, T, Nat.reduceEqDiff, Nat.reduceAdd, Nat.reduceSub, Nat.reduceMul, Nat.reduceLeDiff, Nat.reduceLT, reduceIte, stV]
  exact hΨ _ _ ⟨rfl, (Ext.refl w).alloc _⟩
set_option maxRecDepth 10000 in
theorem mLines_spec (s y l : Int) (hv : Geo s y l = true) (m : Int → Option Int) (Ks : List Int) (hK : KeysOf m Ks) (st : Value) (w : World) (h : MayK w st s y l m) :
    VRet Try.prog 27 #[st] w fun v w' => Ext w w' ∧ ∃ u, v = .tuple #[u, .bool true] ∧ IntO w.heap.size w' u Ks := by
  have hp := Geo_spec hv
  obtain ⟨b, off, cap, vs, rfl, hl, hc⟩ := h
  have hlen := hK.len
  refine VRet_start T.mo ok27 rfl fun Ψ hΨ => ?_; simp only [vc27, rs27]
  simp only [VS, VD, SV, SL, T, Nat.reduceEqDiff, Nat.reduceAdd, Nat.reduceSub, Nat.reduceMul, Nat.reduceLeDiff, Nat.reduceLT, reduceIte, stV]
  refine LoopP_intro (α := Nat) (fun i f' w' => f' 11 = .slice (some ⟨b, off, none⟩) s.toNat cap ∧ f' 12 = .int .i64 s.toNat ∧ f' 13 = .int .i64 i ∧ i ≤ s.toNat ∧ Ext w w' ∧
    ∃ out, IntO w.heap.size w' (f' 4) out ∧ out.Nodup ∧ ∀ k, k ∈ out ↔ k ∈ Ks ∧ k % s < i) (fun i => s.toNat - i) 0 ?_ ?_
  · simp only [VS, VD, SV, SL, T, Nat.reduceEqDiff, Nat.reduceAdd, Nat.reduceSub, Nat.reduceMul, Nat.reduceLeDiff, Nat.reduceLT, reduceIte]
    refine ⟨rfl, Nat.zero_le _, (Ext.refl w).alloc _, [], World.ownsRow_nil _ _ _ _, List.nodup_nil, fun k => ?_⟩
    have := Int.emod_nonneg k (show s ≠ 0 by omega)
    simp only [List.not_mem_nil, false_iff]
    rintro ⟨_, h⟩
    simp only [Int.natCast_zero, Int.ofNat_eq_natCast] at h
    omega
  · rintro i f' wo ⟨f11, f12, f13, hi, hEx, out, ho, hnd, hmem⟩
    simp only [VS, VD, SV, SL, T, Nat.reduceEqDiff, Nat.reduceAdd, Nat.reduceSub, Nat.reduceMul, Nat.reduceLeDiff, Nat.reduceLT, reduceIte, f13, f12]
    refine cnd_d (fun hlt => ?_) (fun hlt => ?_)
    · have hi' : i < s.toNat := by omega
      obtain ⟨x, hx⟩ : ∃ x, vs[i]? = some x := ⟨vs[i]'(by omega), by simp⟩
      obtain ⟨hcell, hmap⟩ := hc _ _ hx
      obtain ⟨cs, e, fz, hb, hcs⟩ := cell_obj hcell
      have hb' := hEx.obj hb
      obtain ⟨l0, c0, hML, hmg⟩ := hmap.list
      simp only [VS, VD, SV, SL, T, Nat.reduceEqDiff, Nat.reduceAdd, Nat.reduceSub, Nat.reduceMul, Nat.reduceLeDiff, Nat.reduceLT, reduceIte, f13, f11, hb', Int.toNat_natCast, hcs]
      refine ⟨by omega, ?_⟩
      have hMLo := hML.ext hEx
      refine rV_rangeM T.mp74 hMLo ?_
      intro w1 hs1 hit1 hh1 hE1
      have hExw1 := hE1 w hEx
      have ho1 : IntO w.heap.size w1 (f' 4) out := own_at ho (fun b hb => hh1 b (by have := (ho.lt b hb).2; omega))
      have hne1 : ∀ b, (f' 4).ownBlock = some b → b ≠ wo.heap.size := fun b hb => by have := (ho.lt b hb).2; omega
      have hgeo := hEx.size
      generalize hit : wo.heap.size = it at *
      simp only [VS, VD, SV, SL, T, Nat.reduceEqDiff, Nat.reduceAdd, Nat.reduceSub, Nat.reduceMul, Nat.reduceLeDiff, Nat.reduceLT, reduceIte]
      have key : ∀ k, (∃ p ∈ l0, p.1 = k) ↔ (k ∈ Ks ∧ k % s = i) := by
        intro k
        have h1 : (∃ p ∈ l0, p.1 = k) ↔ mget l0 k ≠ none := by
          rw [ne_eq, mget_none]
          simp only [ne_eq, Classical.not_forall, Classical.not_not, exists_prop]
        rw [h1, hmg, ← hK.mem]
        unfold restr
        by_cases hk : 0 ≤ k ∧ k % s = i
        · rw [if_pos hk]
          cases m k <;> simp [hk.2]
        · rw [if_neg hk]
          simp only [Option.map_none, ne_eq, not_true_eq_false, false_iff]
          rintro ⟨h2, h3⟩
          exact hk ⟨hK.pos k ((hK.mem k).1 h2), h3⟩
      refine LoopP_intro (α := Array Nat) (fun seen g w' => g 11 = .slice (some ⟨b, off, none⟩) s.toNat cap ∧ g 12 = .int .i64 s.toNat ∧ g 13 = .int .i64 i ∧ g 18 = .pointer (some ⟨it, 0, none⟩) ∧ ItAt w' it x c0 seen ∧ Ext w w' ∧
        ∃ out, IntO w.heap.size w' (g 4) out ∧ out.Nodup ∧ (∀ b, (g 4).ownBlock = some b → b ≠ it) ∧ ∀ k, k ∈ out ↔ (k ∈ Ks ∧ k % s < i) ∨ ∃ p ∈ l0, p.1 = k ∧ p.2.2 ∈ seen) (fun seen => (todo l0 seen).length) #[] ?_ ?_
      · simp only [VS, VD, SV, SL, T, Nat.reduceEqDiff, Nat.reduceAdd, Nat.reduceSub, Nat.reduceMul, Nat.reduceLeDiff, Nat.reduceLT, reduceIte, f11, f12, f13]
        exact ⟨hit1, hExw1, out, ho1, hnd, hne1, fun k => by rw [hmem]; simp⟩
      · clear hnd hmem ho ho1 hne1 f11 f12 f13
        rintro seen g w2 ⟨g11, g12, g13, g18, hI, hE2, out, ho, hnd, hne, hmem⟩
        have hML2 := hML.ext hE2
        have hitlt := hI.lt
        simp only [VS, VD, SV, SL, T, Nat.reduceEqDiff, Nat.reduceAdd, Nat.reduceSub, Nat.reduceMul, Nat.reduceLeDiff, Nat.reduceLT, reduceIte, g18]
        refine rV_nextM hI hML2 (fun hall => ?_) (fun p hp hns w3 hI3 hh3 hE3 => ?_)
        · simp only [VS, VD, SV, SL, T, Nat.reduceEqDiff, Nat.reduceAdd, Nat.reduceSub, Nat.reduceMul, Nat.reduceLeDiff, Nat.reduceLT, reduceIte, g13]
          refine ⟨by omega, i + 1, ⟨g11, g12, by simp, by omega, hE2, out, ho, hnd, fun k => ?_⟩, by omega⟩
          rw [hmem]
          have hk2 := Int.emod_nonneg k (show s ≠ 0 by omega)
          constructor
          · rintro (⟨h1, h2⟩ | ⟨p, hp, rfl, _⟩)
            · exact ⟨h1, by omega⟩
            · have := (key p.1).1 ⟨p, hp, rfl⟩
              exact ⟨this.1, by omega⟩
          · rintro ⟨h1, h2⟩
            by_cases h3 : k % s < i
            · exact .inl ⟨h1, h3⟩
            · obtain ⟨p, hp, e⟩ := (key k).2 ⟨h1, by omega⟩
              exact .inr ⟨p, hp, e, hall p hp⟩
        · have hEw3 := hE3 w hE2 (by omega)
          have ho3 : IntO w.heap.size w3 (g 4) out := own_at ho (fun b hb => hh3 b (hne b hb))
          have hpnew : p.1 ∉ out := by
            rw [hmem]
            rintro (⟨_, h2⟩ | ⟨q, hq, e, hs⟩)
            · have := (key p.1).1 ⟨p, hp, rfl⟩
              omega
            · have : q = p := key_inj hML.wf.keys hq hp e
              subst this
              exact hns hs
          simp only [VS, VD, SV, SL, T, Nat.reduceEqDiff, Nat.reduceAdd, Nat.reduceSub, Nat.reduceMul, Nat.reduceLeDiff, Nat.reduceLT, reduceIte, g18]
          refine rV_entryM hI3 (hML.ext hEw3) hp ?_
          simp only [VS, VD, SV, SL, T, Nat.reduceEqDiff, Nat.reduceAdd, Nat.reduceSub, Nat.reduceMul, Nat.reduceLeDiff, Nat.reduceLT, reduceIte]
          refine app_int ho3 (by
            have : out.length ≤ Ks.length := nodup_len hnd (fun k hk => by
              rcases (hmem k).1 hk with h | ⟨q, hq, e, _⟩
              · exact h.1
              · exact ((key k).1 ⟨q, hq, e⟩).1)
            omega) hEw3.size p.1 ?_
          intro v' w4 ho4 hg4 hnew
          simp only [VS, VD, SV, SL, T, Nat.reduceEqDiff, Nat.reduceAdd, Nat.reduceSub, Nat.reduceMul, Nat.reduceLeDiff, Nat.reduceLT, reduceIte]
          have hit4 : w4.heap[it]? = w3.heap[it]? := hg4.block it hI3.lt (fun e => hne it e.symm rfl)
          refine ⟨seen.push p.2.2, ⟨g11, g12, g13, g18, hI3.heap hit4, hEw3.grownO ho3 (Nat.le_refl _) hg4, out ++ [p.1], ho4, ?_, ?_, fun k => ?_⟩, todo_lt hp hns⟩
          · rw [List.nodup_append]
            exact ⟨hnd, by simp, fun a ha b hb => by simp only [List.mem_singleton] at hb; rintro rfl; subst hb; exact hpnew ha⟩
          · intro b hb
            rcases hnew b hb with h | h
            · exact hne b h
            · have := hI3.lt; omega
          · rw [List.mem_append, hmem]
            simp only [List.mem_singleton]
            constructor
            · rintro ((h | ⟨q, hq, e, hs⟩) | rfl)
              · exact .inl h
              · exact .inr ⟨q, hq, e, Array.mem_push.2 (.inl hs)⟩
              · exact .inr ⟨p, hp, rfl, by simp⟩
            · rintro (h | ⟨q, hq, e, hs⟩)
              · exact .inl (.inl h)
              · rcases Array.mem_push.1 hs with hs | hs
                · exact .inl (.inr ⟨q, hq, e, hs⟩)
                · right
                  rw [← e, Go.W.born_inj hML.wf.borns hq hp hs]
    · have hperm : out.Perm Ks := (List.perm_ext_iff_of_nodup hnd hK.nodup).2 fun k => by
        rw [hmem]
        constructor
        · exact fun h => h.1
        · intro h
          have := Int.emod_lt_of_pos k (show 0 < s by omega)
          exact ⟨h, by omega⟩
      simp only [VS, VD, SV, SL, T, Nat.reduceEqDiff, Nat.reduceAdd, Nat.reduceSub, Nat.reduceMul, Nat.reduceLeDiff, Nat.reduceLT, reduceIte]
      refine (Sort_spec _ _ out (by rw [hperm.length_eq]; omega) wo ho).mono ?_
      rintro u w5 ⟨ho5, hg5⟩
      rw [sort_perm hperm hK.srt, hperm.length_eq] at ho5
      simp only [VS, VD, SV, SL, T, Nat.reduceEqDiff, Nat.reduceAdd, Nat.reduceSub, Nat.reduceMul, Nat.reduceLeDiff, Nat.reduceLT, reduceIte]
      exact hΨ _ _ ⟨hEx.grownO ho (Nat.le_refl _) hg5, _, rfl, ho5⟩
end Go.Proofs.Ytndkadphpbnpeaa
