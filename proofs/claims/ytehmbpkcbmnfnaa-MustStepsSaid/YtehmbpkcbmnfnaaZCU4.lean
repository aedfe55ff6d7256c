/-
  Must: Lines, Join.
-/
import Derived.Test.YtehmbpkcbmnfnaaZCU3
import Derived.Test.YtehmbpkcbmnfnaaZSO
import Derived.Test.YtehmbpkcbmnfnaaZIA
set_option linter.unusedSimpArgs false
set_option linter.unusedVariables false
namespace Go.Proofs.Ytehmbpkcbmnfnaa
open Go.W Go.RowKit
/-- the lines of a state, ascending -/
structure KeysOf (m : Bnd) (Ks : List Int) : Prop where
  srt : Ks.Pairwise (· < ·)
  mem : ∀ k, m k ≠ none ↔ k ∈ Ks
  pos : ∀ k ∈ Ks, 0 ≤ k
  len : Ks.length ≤ 500000
theorem KeysOf.nodup {m : Bnd} {Ks : List Int} (h : KeysOf m Ks) : Ks.Nodup := h.srt.imp (by intro a b h; omega)
set_option maxRecDepth 10000 in
theorem Lines_spec (s y l : Int) (hv : Geo s y l = true) (m : Bnd) (Ks : List Int) (hK : KeysOf m Ks) (st : Value) (w : World) (h : MuK w st s y l m) :
    VRet Try.prog 22 #[st] w fun v w' => Ext w w' ∧ IntO w.heap.size w' v Ks := by
  have hp := Geo_spec hv
  obtain ⟨b, off, cap, vs, rfl, hl, hc⟩ := h
  have hlen := hK.len
  refine VRet_start T.mo ok22 rfl fun Ψ hΨ => ?_; simp only [vc22, rs22]
  simp only [VS, VD, SV, SL, T, Nat.reduceEqDiff, Nat.reduceAdd, Nat.reduceSub, Nat.reduceMul, Nat.reduceLeDiff, Nat.reduceLT, reduceIte, muV]
  refine LoopP_intro (α := Nat) (fun i f' w' => f' 8 = .slice (some ⟨b, off, none⟩) s.toNat cap ∧ f' 9 = .int .i64 s.toNat ∧ f' 10 = .int .i64 i ∧ i ≤ s.toNat ∧ Ext w w' ∧
    ∃ out, IntO w.heap.size w' (f' 3) out ∧ out.Nodup ∧ ∀ k, k ∈ out ↔ k ∈ Ks ∧ k % s < i) (fun i => s.toNat - i) 0 ?_ ?_
  · simp only [VS, VD, SV, SL, T, Nat.reduceEqDiff, Nat.reduceAdd, Nat.reduceSub, Nat.reduceMul, Nat.reduceLeDiff, Nat.reduceLT, reduceIte]
    refine ⟨rfl, Nat.zero_le _, (Ext.refl w).alloc _, [], World.ownsRow_nil _ _ _ _, List.nodup_nil, fun k => ?_⟩
    have := Int.emod_nonneg k (show s ≠ 0 by omega)
    simp only [List.not_mem_nil, false_iff]
    rintro ⟨_, h⟩
    simp only [Int.natCast_zero, Int.ofNat_eq_natCast] at h
    omega
  · rintro i f' wo ⟨f8, f9, f10, hi, hEx, out, ho, hnd, hmem⟩
    simp only [VS, VD, SV, SL, T, Nat.reduceEqDiff, Nat.reduceAdd, Nat.reduceSub, Nat.reduceMul, Nat.reduceLeDiff, Nat.reduceLT, reduceIte, f10, f9]
    refine cnd_d (fun hlt => ?_) (fun hlt => ?_)
    · have hi' : i < s.toNat := by omega
      obtain ⟨x, hx⟩ : ∃ x, vs[i]? = some x := ⟨vs[i]'(by omega), by simp⟩
      obtain ⟨hcell, hmap⟩ := hc _ _ hx
      obtain ⟨cs, e, fz, hb, hcs⟩ := cell_obj hcell
      have hb' := hEx.obj hb
      obtain ⟨l0, c0, hML, hmg⟩ := hmap.list
      simp only [VS, VD, SV, SL, T, Nat.reduceEqDiff, Nat.reduceAdd, Nat.reduceSub, Nat.reduceMul, Nat.reduceLeDiff, Nat.reduceLT, reduceIte, f10, f8, hb', Int.toNat_natCast, hcs]
      refine ⟨by omega, ?_⟩
      have hMLo := hML.ext hEx
      refine rV_rangeM T.mp76 hMLo ?_
      intro w1 hs1 hit1 hh1 hE1
      have hExw1 := hE1 w hEx
      have ho1 : IntO w.heap.size w1 (f' 3) out := own_at ho (fun b hb => hh1 b (by have := (ho.lt b hb).2; omega))
      have hne1 : ∀ b, (f' 3).ownBlock = some b → b ≠ wo.heap.size := fun b hb => by have := (ho.lt b hb).2; omega
      have hgeo := hEx.size
      generalize hit : wo.heap.size = it at *
      simp only [VS, VD, SV, SL, T, Nat.reduceEqDiff, Nat.reduceAdd, Nat.reduceSub, Nat.reduceMul, Nat.reduceLeDiff, Nat.reduceLT, reduceIte]
      have key : ∀ k, (∃ p ∈ l0, p.1 = k) ↔ (k ∈ Ks ∧ k % s = i) := by
        intro k
        have h1 : (∃ p ∈ l0, p.1 = k) ↔ mget l0 k ≠ none := by
          rw [ne_eq, mget_none]
          simp only [ne_eq, Classical.not_forall, Classical.not_not, exists_prop]
        rw [h1, hmg, ← hK.mem]
        unfold restr
        by_cases hk : 0 ≤ k ∧ k % s = i
        · rw [if_pos hk]
          cases m k <;> simp [hk.2]
        · rw [if_neg hk]
          simp only [Option.map_none, ne_eq, not_true_eq_false, false_iff]
          rintro ⟨h2, h3⟩
          exact hk ⟨hK.pos k ((hK.mem k).1 h2), h3⟩
      refine LoopP_intro (α := Array Nat) (fun seen g w' => g 8 = .slice (some ⟨b, off, none⟩) s.toNat cap ∧ g 9 = .int .i64 s.toNat ∧ g 10 = .int .i64 i ∧ g 15 = .pointer (some ⟨it, 0, none⟩) ∧ ItAt w' it x c0 seen ∧ Ext w w' ∧
        ∃ out, IntO w.heap.size w' (g 3) out ∧ out.Nodup ∧ (∀ b, (g 3).ownBlock = some b → b ≠ it) ∧ ∀ k, k ∈ out ↔ (k ∈ Ks ∧ k % s < i) ∨ ∃ p ∈ l0, p.1 = k ∧ p.2.2 ∈ seen) (fun seen => (todo l0 seen).length) #[] ?_ ?_
      · simp only [VS, VD, SV, SL, T, Nat.reduceEqDiff, Nat.reduceAdd, Nat.reduceSub, Nat.reduceMul, Nat.reduceLeDiff, Nat.reduceLT, reduceIte, f8, f9, f10]
        exact ⟨hit1, hExw1, out, ho1, hnd, hne1, fun k => by rw [hmem]; simp⟩
      · clear hnd hmem ho ho1 hne1 f8 f9 f10
        rintro seen g w2 ⟨g8, g9, g10, g15, hI, hE2, out, ho, hnd, hne, hmem⟩
        have hML2 := hML.ext hE2
        have hitlt := hI.lt
        simp only [VS, VD, SV, SL, T, Nat.reduceEqDiff, Nat.reduceAdd, Nat.reduceSub, Nat.reduceMul, Nat.reduceLeDiff, Nat.reduceLT, reduceIte, g15]
        refine rV_nextM hI hML2 (fun hall => ?_) (fun p hp hns w3 hI3 hh3 hE3 => ?_)
        · simp only [VS, VD, SV, SL, T, Nat.reduceEqDiff, Nat.reduceAdd, Nat.reduceSub, Nat.reduceMul, Nat.reduceLeDiff, Nat.reduceLT, reduceIte, g10]
          refine ⟨by omega, i + 1, ⟨g8, g9, by simp, by omega, hE2, out, ho, hnd, fun k => ?_⟩, by omega⟩
          rw [hmem]
          have hk2 := Int.emod_nonneg k (show s ≠ 0 by omega)
          constructor
          · rintro (⟨h1, h2⟩ | ⟨p, hp, rfl, _⟩)
            · exact ⟨h1, by omega⟩
            · have := (key p.1).1 ⟨p, hp, rfl⟩
              exact ⟨this.1, by omega⟩
          · rintro ⟨h1, h2⟩
            by_cases h3 : k % s < i
            · exact .inl ⟨h1, h3⟩
            · obtain ⟨p, hp, e⟩ := (key k).2 ⟨h1, by omega⟩
              exact .inr ⟨p, hp, e, hall p hp⟩
        · have hEw3 := hE3 w hE2 (by omega)
          have ho3 : IntO w.heap.size w3 (g 3) out := own_at ho (fun b hb => hh3 b (hne b hb))
          have hpnew : p.1 ∉ out := by
            rw [hmem]
            rintro (⟨_, h2⟩ | ⟨q, hq, e, hs⟩)
            · have := (key p.1).1 ⟨p, hp, rfl⟩
              omega
            · have : q = p := key_inj hML.wf.keys hq hp e
              subst this
              exact hns hs
          simp only [VS, VD, SV, SL, T, Nat.reduceEqDiff, Nat.reduceAdd, Nat.reduceSub, Nat.reduceMul, Nat.reduceLeDiff, Nat.reduceLT, reduceIte, g15]
          refine rV_entryM hI3 (hML.ext hEw3) hp ?_
          simp only [VS, VD, SV, SL, T, Nat.reduceEqDiff, Nat.reduceAdd, Nat.reduceSub, Nat.reduceMul, Nat.reduceLeDiff, Nat.reduceLT, reduceIte]
          refine app_int ho3 (by
            have : out.length ≤ Ks.length := nodup_len hnd (fun k hk => by
              rcases (hmem k).1 hk with h | ⟨q, hq, e, _⟩
              · exact h.1
              · exact ((key k).1 ⟨q, hq, e⟩).1)
            omega) hEw3.size p.1 ?_
          intro v' w4 ho4 hg4 hnew
          simp only [VS, VD, SV, SL, T, Nat.reduceEqDiff, Nat.reduceAdd, Nat.reduceSub, Nat.reduceMul, Nat.reduceLeDiff, Nat.reduceLT, reduceIte]
          have hit4 : w4.heap[it]? = w3.heap[it]? := hg4.block it hI3.lt (fun e => hne it e.symm rfl)
          refine ⟨seen.push p.2.2, ⟨g8, g9, g10, g15, hI3.heap hit4, hEw3.grownO ho3 (Nat.le_refl _) hg4, out ++ [p.1], ho4, ?_, ?_, fun k => ?_⟩, todo_lt hp hns⟩
          · rw [List.nodup_append]
            exact ⟨hnd, by simp, fun a ha b hb => by simp only [List.mem_singleton] at hb; rintro rfl; subst hb; exact hpnew ha⟩
          · intro b hb
            rcases hnew b hb with h | h
            · exact hne b h
            · have := hI3.lt; omega
          · rw [List.mem_append, hmem]
            simp only [List.mem_singleton]
            constructor
            · rintro ((h | ⟨q, hq, e, hs⟩) | rfl)
              · exact .inl h
              · exact .inr ⟨q, hq, e, Array.mem_push.2 (.inl hs)⟩
              · exact .inr ⟨p, hp, rfl, by simp⟩
            · rintro (h | ⟨q, hq, e, hs⟩)
              · exact .inl (.inl h)
              · rcases Array.mem_push.1 hs with hs | hs
                · exact .inl (.inr ⟨q, hq, e, hs⟩)
                · right
                  rw [← e, Go.W.born_inj hML.wf.borns hq hp hs]
    · have hperm : out.Perm Ks := (List.perm_ext_iff_of_nodup hnd hK.nodup).2 fun k => by
        rw [hmem]
        constructor
        · exact fun h => h.1
        · intro h
          have := Int.emod_lt_of_pos k (show 0 < s by omega)
          exact ⟨h, by omega⟩
      simp only [VS, VD, SV, SL, T, Nat.reduceEqDiff, Nat.reduceAdd, Nat.reduceSub, Nat.reduceMul, Nat.reduceLeDiff, Nat.reduceLT, reduceIte]
      refine (Sort_spec _ _ out (by rw [hperm.length_eq]; omega) wo ho).mono ?_
      rintro u w5 ⟨ho5, hg5⟩
      rw [sort_perm hperm hK.srt, hperm.length_eq] at ho5
      simp only [VS, VD, SV, SL, T, Nat.reduceEqDiff, Nat.reduceAdd, Nat.reduceSub, Nat.reduceMul, Nat.reduceLeDiff, Nat.reduceLT, reduceIte]
      exact hΨ _ _ ⟨hEx.grownO ho (Nat.le_refl _) hg5, ho5⟩
set_option maxRecDepth 10000 in
theorem Lines_zero (w : World) : VRet Try.prog 22 #[muZ] w fun v w' => Ext w w' ∧ IntO w.heap.size w' v [] := by
  refine VRet_start T.mo ok22 rfl fun Ψ hΨ => ?_; simp only [vc22, rs22]
  simp only [VS, VD, SV, SL, T, Nat.reduceEqDiff, Nat.reduceAdd, Nat.reduceSub, Nat.reduceMul, Nat.reduceLeDiff, Nat.reduceLT, reduceIte, muV]
  have hE := (Ext.refl w).alloc tomb
  refine LoopP_intro (α := Unit) (fun _ f' w' => f' 3 = .slice none 0 0 ∧ f' 9 = .int .i64 (0 : Nat) ∧ f' 10 = .int .i64 0 ∧ w' = w.alloc tomb) (fun _ => 0) () ?_ ?_
  · simp only [VS, VD, SV, SL, T, Nat.reduceEqDiff, Nat.reduceAdd, Nat.reduceSub, Nat.reduceMul, Nat.reduceLeDiff, Nat.reduceLT, reduceIte]
  · rintro _ f' _ ⟨f3, f9, f10, rfl⟩
    simp only [VS, VD, SV, SL, T, Nat.reduceEqDiff, Nat.reduceAdd, Nat.reduceSub, Nat.reduceMul, Nat.reduceLeDiff, Nat.reduceLT, reduceIte, f9, f10]
    refine cnd_d (fun h => by exfalso; omega) (fun _ => ?_)
    simp only [VS, VD, SV, SL, T, Nat.reduceEqDiff, Nat.reduceAdd, Nat.reduceSub, Nat.reduceMul, Nat.reduceLeDiff, Nat.reduceLT, reduceIte, f3]
    refine (Sort_spec w.heap.size _ [] (by simp) _ (World.ownsRow_nil _ _ _ _)).mono ?_
    rintro u w5 ⟨ho5, hg5⟩
    simp only [VS, VD, SV, SL, T, Nat.reduceEqDiff, Nat.reduceAdd, Nat.reduceSub, Nat.reduceMul, Nat.reduceLeDiff, Nat.reduceLT, reduceIte, f3]
    exact hΨ _ _ ⟨hE.grownO (base := w.heap.size) (World.ownsRow_nil _ w.heap.size 3 1) (Nat.le_refl _) hg5, by simp only [List.mergeSort_nil, List.map_nil] at ho5; exact ho5⟩
theorem restr_join (s : Int) (i : Nat) (m n : Bnd) (k : Int) : restr s i (joinU m n) k = joinU (restr s i m) (restr s i n) k := by
  simp only [restr, joinU]; split <;> rfl
set_option maxRecDepth 10000 in
theorem Join_zero (s y l : Int) (hs : 1 ≤ s) (a : Option Addr) (n c : Nat) (w : World) : VRet Try.prog 29 #[muV s y l (.slice a n c), muZ] w fun v w' => v = muZ ∧ Ext w w' := by
  refine VRet_start T.mo ok29 rfl fun Ψ hΨ => ?_; simp only [vc29, rs29]
  simp only [VS, VD, SV, SL, T, Nat.reduceEqDiff, Nat.reduceAdd, Nat.reduceSub, Nat.reduceMul, Nat.reduceLeDiff, Nat.reduceLT, reduceIte, muV]
  have hs0 : ¬ s = 0 := by omega
  have hE := (((Ext.refl w).alloc tomb).alloc tomb).alloc tomb
  simp only [VS, VD, SV, SL, T, Nat.reduceEqDiff, Nat.reduceAdd, Nat.reduceSub, Nat.reduceMul, Nat.reduceLeDiff, Nat.reduceLT, reduceIte, hs0, decide_false, Bool.false_and, Bool.not_false, decide_true]
  exact hΨ _ _ ⟨rfl, hE⟩
set_option maxHeartbeats 1000000 in
set_option maxRecDepth 10000 in
theorem Join_spec (s y l : Int) (hv : Geo s y l = true) (m n : Bnd) (a b : Value) (w : World) (ha : MuK w a s y l m) (hb : MuK w b s y l n) :
    VRet Try.prog 29 #[a, b] w fun v w' => MuK w' v s y l (joinU m n) ∧ Ext w w' := by
  have hp := Geo_spec hv
  obtain ⟨ba, oa, ca, rfl⟩ := ha.form
  obtain ⟨bb, ob, cb, rfl⟩ := hb.form
  refine VRet_start T.mo ok29 rfl fun Ψ hΨ => ?_; simp only [vc29, rs29]
  simp only [VS, VD, SV, SL, T, Nat.reduceEqDiff, Nat.reduceAdd, Nat.reduceSub, Nat.reduceMul, Nat.reduceLeDiff, Nat.reduceLT, reduceIte, muV]
  have hE := (((Ext.refl w).alloc tomb).alloc tomb).alloc tomb
  generalize ((w.alloc tomb).alloc tomb).alloc tomb = w0 at *
  refine (zero_spec s y l _ _ _ _).mono ?_
  rintro _ w1 ⟨rfl, hE1⟩
  replace hE1 := hE.trans hE1
  rw [decide_eq_false (show ¬ (s.toNat : Int) = 0 by omega)]
  simp only [VS, VD, SV, SL, T, Nat.reduceEqDiff, Nat.reduceAdd, Nat.reduceSub, Nat.reduceMul, Nat.reduceLeDiff, Nat.reduceLT, reduceIte]
  refine (zero_spec s y l _ _ _ _).mono ?_
  rintro _ w2 ⟨rfl, hE2⟩
  replace hE2 := hE1.trans hE2
  rw [decide_eq_false (show ¬ (s.toNat : Int) = 0 by omega)]
  simp only [VS, VD, SV, SL, T, Nat.reduceEqDiff, Nat.reduceAdd, Nat.reduceSub, Nat.reduceMul, Nat.reduceLeDiff, Nat.reduceLT, reduceIte, Int.toNat_natCast]
  refine ⟨by omega, ?_⟩
  have er : (#[Value.map none] : Array Value)[0]! = .map none := rfl
  rw [er]
  generalize hg : w2.heap.size = g at *
  have hgw : w.heap.size ≤ g := by rw [← hg]; exact hE2.size
  refine LoopP_intro (α := Nat) (fun i f' w' => f' 2 = muV s y l (.slice (some ⟨ba, oa, none⟩) s.toNat ca) ∧ f' 3 = muV s y l (.slice (some ⟨bb, ob, none⟩) s.toNat cb) ∧ live (f' 4) = true ∧ f' 5 = .slice (some ⟨g, 0, none⟩) s.toNat s.toNat ∧ f' 31 = .slice (some ⟨ba, oa, none⟩) s.toNat ca ∧ f' 32 = .int .i64 s.toNat ∧ f' 33 = .int .i64 i ∧ i ≤ s.toNat ∧ Ext w w' ∧
    ∃ cs us, w'.heap[g]? = some (.cells cs 76 (0, 0)) ∧ cs.toList.take s.toNat = us ∧ us.length = s.toNat ∧ ∀ j x, j < i → us[j]? = some x → MapAt w' x (restr s j (joinU m n))) (fun i => s.toNat - i) 0 ?_ ?_
  · simp only [VS, VD, SV, SL, T, Nat.reduceEqDiff, Nat.reduceAdd, Nat.reduceSub, Nat.reduceMul, Nat.reduceLeDiff, Nat.reduceLT, reduceIte, muV]
    refine ⟨rfl, Nat.zero_le _, hE2.alloc _, Array.replicate s.toNat (.map none), _, by rw [if_pos hg.symm], rfl, by simp, fun j x hj => by omega⟩
  · rintro i f' wo ⟨f2, f3, f4, f5, f31, f32, f33, hi, hEx, cs, us, hcs, hus, hul, hall⟩
    simp only [VS, VD, SV, SL, T, Nat.reduceEqDiff, Nat.reduceAdd, Nat.reduceSub, Nat.reduceMul, Nat.reduceLeDiff, Nat.reduceLT, reduceIte, f33, f32]
    refine cnd_d (fun hlt => ?_) (fun hlt => ?_)
    · have hi' : i < s.toNat := by omega
      have hcl : s.toNat ≤ cs.size := by have := congrArg List.length hus; simp [hul] at this; omega
      have hgl := get_lt hcs
      obtain ⟨x, csa, ea, fza, hba, hxa, hma⟩ := ha.at hi'
      obtain ⟨z, csb, eb, fzb, hbb, hzb, hmb⟩ := hb.at hi'
      obtain ⟨l0, c0, hML, hmg⟩ := hma.list
      have hba' := hEx.obj hba
      have hgne : ¬ g = wo.heap.size := by omega
      simp only [VS, VD, SV, SL, T, Nat.reduceEqDiff, Nat.reduceAdd, Nat.reduceSub, Nat.reduceMul, Nat.reduceLeDiff, Nat.reduceLT, reduceIte, f33, f31, hba', Int.toNat_natCast, hxa, f5, hcs, hgne]
      refine ⟨by omega, by omega, by omega, ?_⟩
      generalize hr : wo.heap.size = r at *
      have hrw : w.heap.size ≤ r := by rw [← hr]; exact hEx.size
      have hE1' : Ext w ((wo.alloc (.map #[] 0)).putb g (.cells (cs.setIfInBounds i (.map (some r))) 76 (0, 0))) := (hEx.alloc _).putb hgw _
      have hg1 : ((wo.alloc (.map #[] 0)).putb g (.cells (cs.setIfInBounds i (.map (some r))) 76 (0, 0))).heap[g]? = some (.cells (cs.setIfInBounds i (.map (some r))) 76 (0, 0)) := putb_get_same (by rw [alloc_size]; omega) _
      have hr1 : ((wo.alloc (.map #[] 0)).putb g (.cells (cs.setIfInBounds i (.map (some r))) 76 (0, 0))).heap[r]? = some (.map (mk []) 0) := by rw [putb_get_ne (by omega), ← hr]; exact alloc_get_new _ _
      have hlow1 : ∀ b, b < r → b ≠ g → ((wo.alloc (.map #[] 0)).putb g (.cells (cs.setIfInBounds i (.map (some r))) 76 (0, 0))).heap[b]? = wo.heap[b]? := fun b hb hne => by rw [putb_get_ne hne, alloc_get_lt (by omega)]
      have hsz1 : ((wo.alloc (.map #[] 0)).putb g (.cells (cs.setIfInBounds i (.map (some r))) 76 (0, 0))).heap.size = r + 1 := by rw [putb_size, alloc_size, hr]
      generalize ((wo.alloc (.map #[] 0)).putb g (.cells (cs.setIfInBounds i (.map (some r))) 76 (0, 0))) = w3 at *
      refine rV_rangeM T.mp76 (hML.ext hE1') ?_
      intro w4 hs4 hit4 hh4 hE4
      rw [hsz1] at hit4 hh4
      rw [hsz1]
      simp only [VS, VD, SV, SL, T, Nat.reduceEqDiff, Nat.reduceAdd, Nat.reduceSub, Nat.reduceMul, Nat.reduceLeDiff, Nat.reduceLT, reduceIte]
      refine LoopP_intro (α := Array Nat) (fun seen q w' => q 2 = muV s y l (.slice (some ⟨ba, oa, none⟩) s.toNat ca) ∧ q 3 = muV s y l (.slice (some ⟨bb, ob, none⟩) s.toNat cb) ∧ live (q 4) = true ∧ q 5 = .slice (some ⟨g, 0, none⟩) s.toNat s.toNat ∧ q 6 = .int .i64 i ∧ q 31 = .slice (some ⟨ba, oa, none⟩) s.toNat ca ∧ q 32 = .int .i64 s.toNat ∧ q 33 = .int .i64 i ∧ q 43 = .pointer (some ⟨r + 1, 0, none⟩) ∧ ItAt w' (r + 1) x c0 seen ∧ Ext w w' ∧ (∀ b, b < r → w'.heap[b]? = w3.heap[b]?) ∧
        ∃ ld cd, w'.heap[r]? = some (.map (mk ld) cd) ∧ MWF ld cd ∧ ∀ k, mget ld k = if ∃ p ∈ l0, p.1 = k ∧ p.2.2 ∈ seen then (joinU (restr s i m) (restr s i n) k).map (.int .i64 ·) else none) (fun seen => (todo l0 seen).length) #[] ?_ ?_
      · simp only [VS, VD, SV, SL, T, Nat.reduceEqDiff, Nat.reduceAdd, Nat.reduceSub, Nat.reduceMul, Nat.reduceLeDiff, Nat.reduceLT, reduceIte, f2, f3, f4, f5, f31, f32, f33, muV]
        exact ⟨hit4, hE4 w hE1', fun b hb => hh4 b (by omega), [], 0, (hh4 r (by omega)).trans hr1, MWF_nil, fun k => by simp [mget_nil]⟩
      · clear f2 f3 f4 f5 f31 f32 f33
        rintro seen q w5 ⟨g2, g3, g4, g5, g6, g31, g32, g33, g43, hI, hE5, hlow, ld, cd, hd, hwd, hgd⟩
        have hML5 := hML.ext hE5
        have hg5 : w5.heap[g]? = some (.cells (cs.setIfInBounds i (.map (some r))) 76 (0, 0)) := (hlow g (by omega)).trans hg1
        simp only [VS, VD, SV, SL, T, Nat.reduceEqDiff, Nat.reduceAdd, Nat.reduceSub, Nat.reduceMul, Nat.reduceLeDiff, Nat.reduceLT, reduceIte, g43]
        refine rV_nextM hI hML5 (fun hallp => ?_) (fun p hp hns w6 hI6 hh6 hE6 => ?_)
        · simp only [VS, VD, SV, SL, T, Nat.reduceEqDiff, Nat.reduceAdd, Nat.reduceSub, Nat.reduceMul, Nat.reduceLeDiff, Nat.reduceLT, reduceIte, g33]
          refine ⟨by omega, i + 1, ⟨g2, g3, g4, g5, g31, g32, by simp, by omega, hE5, cs.setIfInBounds i (.map (some r)), us.set i (.map (some r)), hg5, by rw [← hus]; simp only [Array.toList_setIfInBounds, List.take_set], by simp [hul], fun j x' hj hx' => ?_⟩, by omega⟩
          by_cases hji : i = j
          · subst hji
            rw [List.getElem?_set_self (by omega)] at hx'
            simp only [Option.some.injEq] at hx'
            subst hx'
            refine .inr ⟨r, ld, cd, rfl, hd, hwd, fun k => ?_⟩
            rw [hgd, restr_join]
            by_cases hex : ∃ p ∈ l0, p.1 = k ∧ p.2.2 ∈ seen
            · rw [if_pos hex]
            · rw [if_neg hex]
              have : restr s i m k = none := by
                cases hq : restr s i m k with
                | none => rfl
                | some v =>
                  have := hmg k
                  rw [hq] at this
                  obtain ⟨bq, hbq⟩ := mget_some_mem this
                  exact (hex ⟨_, hbq, rfl, hallp _ hbq⟩).elim
              simp [joinU, this]
          · rw [List.getElem?_set_ne hji] at hx'
            have h0 := hall j x' (by omega) hx'
            rcases h0 with h0 | ⟨r', l', c', rfl, h2', h3', h4'⟩
            · exact .inl h0
            · have hlt' := get_lt h2'
              rw [hr] at hlt'
              have hne' : r' ≠ g := by rintro rfl; rw [hcs] at h2'; cases h2'
              exact .inr ⟨r', l', c', rfl, by rw [hlow r' hlt', hlow1 r' hlt' hne']; exact h2', h3', h4'⟩
        · have hEw6 := hE6 w hE5 (by omega)
          have hd6 : w6.heap[r]? = some (.map (mk ld) cd) := (hh6 r (by omega)).trans hd
          have hg6 := (hh6 g (by omega)).trans hg5
          have hbb6 := hEw6.obj hbb
          have hlow6 : ∀ b, b < r → w6.heap[b]? = w3.heap[b]? := fun b hb => (hh6 b (by omega)).trans (hlow b hb)
          obtain ⟨va, hva, hma1⟩ : ∃ va, p.2.1 = .int .i64 va ∧ restr s i m p.1 = some va := by
            have h3 := mget_mem hML.wf.keys hp
            rw [hmg] at h3
            obtain ⟨vb, q1, q2⟩ := Option.map_eq_some_iff.1 h3
            exact ⟨vb, q2.symm, q1⟩
          have hexp : ¬ ∃ q ∈ l0, q.1 = p.1 ∧ q.2.2 ∈ seen := by
            rintro ⟨q, hq, e, hs⟩
            rw [Go.W.key_inj hML.wf.keys hq hp e] at hs
            exact hns hs
          have hgp := hgd p.1
          rw [if_neg hexp] at hgp
          have hiff : ∀ k, k ≠ p.1 → ((∃ q ∈ l0, q.1 = k ∧ q.2.2 ∈ seen.push p.2.2) ↔ (∃ q ∈ l0, q.1 = k ∧ q.2.2 ∈ seen)) := by
            intro k hk
            constructor
            · rintro ⟨q, hq, rfl, hs⟩
              rcases Array.mem_push.1 hs with hs | hs
              · exact ⟨q, hq, rfl, hs⟩
              · exact (hk (by rw [Go.W.born_inj hML.wf.borns hq hp hs])).elim
            · rintro ⟨q, hq, rfl, hs⟩
              exact ⟨q, hq, rfl, Array.mem_push.2 (.inl hs)⟩
          have hself : ∃ q ∈ l0, q.1 = p.1 ∧ q.2.2 ∈ seen.push p.2.2 := ⟨p, hp, rfl, by simp⟩
          have hm := todo_lt hp hns
          simp only [VS, VD, SV, SL, T, Nat.reduceEqDiff, Nat.reduceAdd, Nat.reduceSub, Nat.reduceMul, Nat.reduceLeDiff, Nat.reduceLT, reduceIte, g43]
          refine rV_entryM hI6 (hML.ext hEw6) hp ?_
          simp only [VS, VD, SV, SL, T, Nat.reduceEqDiff, Nat.reduceAdd, Nat.reduceSub, Nat.reduceMul, Nat.reduceLeDiff, Nat.reduceLT, reduceIte, hva, g3, g6, muV, hbb6, hzb, Int.toNat_natCast]
          refine ⟨by omega, ?_⟩
          refine (hmb.ext hEw6).look p.1 ?_
          simp only [VS, VD, SV, SL, T, Nat.reduceEqDiff, Nat.reduceAdd, Nat.reduceSub, Nat.reduceMul, Nat.reduceLeDiff, Nat.reduceLT, reduceIte]
          cases hnb : restr s i n p.1 with
          | none =>
            simp only [VS, VD, SV, SL, T, Nat.reduceEqDiff, Nat.reduceAdd, Nat.reduceSub, Nat.reduceMul, Nat.reduceLeDiff, Nat.reduceLT, reduceIte, Option.isSome_none]
            refine ⟨seen.push p.2.2, ⟨g2, g3, g4, g5, g6, g31, g32, g33, g43, hI6, hEw6, hlow6, ld, cd, hd6, hwd, fun k => ?_⟩, hm⟩
            by_cases hk : k = p.1
            · subst hk
              rw [if_pos hself, hgp]
              simp [joinU, hnb]
            · rw [hgd]; simp only [hiff k hk]
          | some vb =>
            have hcsi : (cs.setIfInBounds i (.map (some r)))[i]? = some (.map (some r)) := by rw [Array.getElem?_setIfInBounds, if_pos rfl, if_pos (by omega)]
            simp only [VS, VD, SV, SL, T, Nat.reduceEqDiff, Nat.reduceAdd, Nat.reduceSub, Nat.reduceMul, Nat.reduceLeDiff, Nat.reduceLT, reduceIte, Option.isSome_some, Option.getD_some, g5, g6, hg6, Int.toNat_natCast, hcsi]
            refine ⟨by omega, rV_update (l := ld) (c := cd) T.me76 hd6 hwd.keys ?_⟩
            simp only [VS, VD, SV, SL, T, Nat.reduceEqDiff, Nat.reduceAdd, Nat.reduceSub, Nat.reduceMul, Nat.reduceLeDiff, Nat.reduceLT, reduceIte]
            refine ⟨seen.push p.2.2, ⟨g2, g3, g4, g5, g6, g31, g32, g33, g43, hI6.heap (by rw [putb_get_ne (by omega)]), hEw6.putb hrw _, fun b hb => by rw [if_neg (by omega)]; exact hlow6 b hb, _, _, by rw [if_pos (get_lt hd6)], hwd.set _ _, fun k => ?_⟩, hm⟩
            rw [mget_mset]
            by_cases hk : k = p.1
            · subst hk
              rw [if_pos rfl, if_pos hself]
              simp [joinU, hnb, hma1]
            · rw [if_neg hk, hgd]; simp only [hiff k hk]
    · simp only [VS, VD, SV, SL, T, Nat.reduceEqDiff, Nat.reduceAdd, Nat.reduceSub, Nat.reduceMul, Nat.reduceLeDiff, Nat.reduceLT, reduceIte, f2, f4, f5, muV]
      refine hΨ _ _ ⟨⟨g, 0, s.toNat, us, rfl, hul, fun j x hx => ?_⟩, hEx⟩
      have hj : j < s.toNat := by have := (List.getElem?_eq_some_iff.1 hx).1; omega
      refine ⟨?_, hall j x (by omega) hx⟩
      rw [cell_mk, hcs, Nat.zero_add]
      rw [← hus, List.getElem?_take_of_lt hj] at hx
      simpa using hx
end Go.Proofs.Ytehmbpkcbmnfnaa
