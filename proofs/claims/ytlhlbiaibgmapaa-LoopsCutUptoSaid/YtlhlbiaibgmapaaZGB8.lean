/-
  The laws' Graph: the walk.
-/
import Derived.Test.YtlhlbiaibgmapaaZGB7
import Derived.Test.YtlhlbiaibgmapaaZGA6
set_option linter.unusedSimpArgs false
set_option linter.unusedVariables false
namespace Go.Proofs.Ytlhlbiaibgmapaa
open Go.W Go.RowKit
/-- the memory of Graph -/
structure Gm (w0 : World) (N : List (List Int)) (us : List (Int × Int × Value)) (PL : List (List Int)) (bsv : Value) (w : World) : Prop where
  ext : Ext w0 w
  b : OwnL gRow w0.heap.size 69 3 w bsv us
  r : RowsO w0.heap.size w w0.heap.size PL
  dj : ∀ b, bsv.ownBlock = some b → ¬ FpR w w0.heap.size b
  at_ : ∀ (j : Nat) u, us[j]? = some u → u.1 = j ∧ u.2.1 = (j : Int) + 1 ∧ IntsAt w0 u.2.2 (sc N j)
theorem Gm.ext' {w0 : World} {N : List (List Int)} {us : List (Int × Int × Value)} {PL : List (List Int)} {bsv : Value} {w w' : World} (h : Gm w0 N us PL bsv w) (hE : Ext w w') : Gm w0 N us PL bsv w' :=
  ⟨h.ext.trans hE, h.b.ext hE, h.r.ext hE, fun b hb hf => h.dj b hb (hf.of (hE.get _ h.r.lt)), h.at_⟩
set_option maxRecDepth 10000 in
theorem Graph_spec {N : List (List Int)} (hN : NOk N) (hN2 : ∀ l ∈ N, l.length ≤ 2) (hn : N.length ≤ 2000000) (nv : Value) (w : World) (h : IntssAt w nv N) : VRet Try.prog 24 #[nv] w fun v w' => Ext w w' ∧ GrAt w' v (blks N N.length) (prevOf N) := by
  obtain ⟨na, nc, rfl⟩ := h.form'
  have z1 : #[Value.slice none 0 0][0]! = Value.slice none 0 0 := rfl
  refine VRet_start T.mo ok24 rfl fun Ψ hΨ => ?_; simp only [vc24, rs24]
  simp only [VS, VD, SV, SL, T, Nat.reduceEqDiff, Nat.reduceAdd, Nat.reduceSub, Nat.reduceMul, Nat.reduceLeDiff, Nat.reduceLT, reduceIte]
  have hEt := (Ext.refl w).alloc tomb
  have hNt := h.ext hEt
  have hws : w.heap.size + 1 = (w.alloc tomb).heap.size := (alloc_size _ _).symm
  generalize w.alloc tomb = wt at *
  simp only [VS, VD, SV, SL, T, Nat.reduceEqDiff, Nat.reduceAdd, Nat.reduceSub, Nat.reduceMul, Nat.reduceLeDiff, Nat.reduceLT, reduceIte, z1, Int.toNat_natCast]
  refine ⟨by omega, ?_⟩
  have hRo := RowsO.new (w := wt) N.length
  have hGm : Gm wt N [] (prevs (List.replicate N.length []) 0 (N.take 0)) (.slice none 0 0) ((wt.alloc (.cells (Array.replicate N.length (.slice none 0 0)) 36)).alloc tomb) :=
    ⟨((Ext.refl wt).alloc _).alloc _, OwnL.nil _ _ _ _ _, hRo.ext ((Ext.refl _).alloc _), fun b hb => by simp [Value.ownBlock] at hb, fun j u hu => by simp at hu⟩
  generalize (wt.alloc (.cells (Array.replicate N.length (.slice none 0 0)) 36)).alloc tomb = w1 at *
  refine LoopP_intro (α := Nat) (fun i g w' => g 0 = .slice na N.length nc ∧ (∃ bsv us, g 3 = .agg #[bsv, .slice (some ⟨wt.heap.size, 0, none⟩) N.length N.length] ∧ us.length = i ∧ Gm wt N us (prevs (List.replicate N.length []) 0 (N.take i)) bsv w') ∧ (∃ a, g 2 = .agg a) ∧ g 4 = .int .i64 i ∧ i ≤ N.length) (fun i => N.length - i) 0 ?_ ?_
  · simp only [VS, VD, SV, SL, T, Nat.reduceEqDiff, Nat.reduceAdd, Nat.reduceSub, Nat.reduceMul, Nat.reduceLeDiff, Nat.reduceLT, reduceIte]
    exact ⟨⟨_, [], by rw [hws], rfl, hGm⟩, ⟨_, rfl⟩, rfl, Nat.zero_le _⟩
  · rintro i g w' ⟨g0, ⟨bsv, us, g3, hul, hG⟩, ⟨a2, g2⟩, g4, hi⟩
    simp only [VS, VD, SV, SL, T, Nat.reduceEqDiff, Nat.reduceAdd, Nat.reduceSub, Nat.reduceMul, Nat.reduceLeDiff, Nat.reduceLT, reduceIte, g0, g4]
    by_cases hlt : (i : Int) < N.length
    · rw [decide_eq_true hlt]
      have hi' : i < N.length := by omega
      obtain ⟨nb, no, ncs, ne, nfz, u, rfl, hnb, hncu, hu0⟩ := hNt.get' hi'
      have hsc : N[i] = sc N i := by unfold sc; rw [List.getD_eq_getElem?_getD, List.getElem?_eq_getElem hi']; rfl
      rw [hsc] at hu0
      have hscl : (sc N i).length ≤ 2 := by rw [← hsc]; exact hN2 _ (List.getElem_mem hi')
      have hone : Go.W.one u = true := by obtain ⟨ua, uc, rfl⟩ := hu0.form; rfl
      obtain ⟨ua, uc, rfl⟩ := hu0.form
      obtain ⟨ba, bc, rfl⟩ := hG.b.form
      have hnb' := hG.ext.obj hnb
      simp only [VS, VD, SV, SL, T, Nat.reduceEqDiff, Nat.reduceAdd, Nat.reduceSub, Nat.reduceMul, Nat.reduceLeDiff, Nat.reduceLT, reduceIte]
      refine DW_c (fun g' w2 => g' 0 = g 0 ∧ g' 2 = g 2 ∧ g' 4 = g 4 ∧ ∃ bsv' us', g' 3 = .agg #[bsv', .slice (some ⟨wt.heap.size, 0, none⟩) N.length N.length] ∧ us'.length = i + 1 ∧ Gm wt N us' (prevs (List.replicate N.length []) 0 (N.take i)) bsv' w2) ?_ ?_
      · refine DW_intro (fun n _ v w => n = 10 → ∃ q, v = .slice (some ⟨q, 0, none⟩) 1 1 ∧ w.heap[q]? = some (.cells #[.int .i64 i, .int .i64 ((i : Int) + 1), .slice ua (sc N i).length uc] 69 (0, 0))) ?_
        simp only [VS, VD, SV, SL, T, Nat.reduceEqDiff, Nat.reduceAdd, Nat.reduceSub, Nat.reduceMul, Nat.reduceLeDiff, Nat.reduceLT, reduceIte, g0, g3, g4, hnb', hncu, Int.toNat_natCast]
        refine ⟨by omega, by omega, ?_⟩
        refine rY_ph rfl rfl (fun v w5 w6 k hE hn => ?_) (fun w5 hE5 _ => ?_) (fun v _ => ?_)
        · obtain ⟨q, k1, k2⟩ := k hn
          exact ⟨q, k1, hE.obj k2⟩
        · simp only [VS, VD, SV, SL, T, Nat.reduceEqDiff, Nat.reduceAdd, Nat.reduceSub, Nat.reduceMul, Nat.reduceLeDiff, Nat.reduceLT, reduceIte]
          exact ⟨(Ext.refl w5).alloc _, fun _ => ⟨_, rfl, by rw [if_pos rfl]⟩⟩
        · simp only [VS, VD, SV, SL, T, Nat.reduceEqDiff, Nat.reduceAdd, Nat.reduceSub, Nat.reduceMul, Nat.reduceLeDiff, Nat.reduceLT, reduceIte]
          intro w5 hE5 hF
          obtain ⟨q, rfl, hq⟩ := FA_head hF trivial
          have hG5 := hG.ext' hE5
          simp only [VS, VD, SV, SL, T, Nat.reduceEqDiff, Nat.reduceAdd, Nat.reduceSub, Nat.reduceMul, Nat.reduceLeDiff, Nat.reduceLT, reduceIte]
          refine OwnL.appA (R := gRow) (ty := 22) T.el22 T.sz69 T.by69 T.zr69 rfl (by omega) hG5.b ((i : Int), (i : Int) + 1, .slice ua (sc N i).length uc) rfl rfl (by omega) (by omega) hG5.ext.size ?_ ?_
          · intro j u hu
            rw [add_mk, cell_mk, hq]
            simpa using hu
          · intro v' w6 ho6 hx6 hg6 hn6
            obtain ⟨va, vc, rfl⟩ := ho6.form
            simp only [VS, VD, SV, SL, T, Nat.reduceEqDiff, Nat.reduceAdd, Nat.reduceSub, Nat.reduceMul, Nat.reduceLeDiff, Nat.reduceLT, reduceIte, g0, g3, g4, spl_cons, spl_nil]
            refine ⟨_, _, by simp [spl_cons, spl_nil], by simp [hul], hx6 _ hG5.ext (Nat.le_refl _), ho6, hG5.r.keep fun b hb => hg6.block b (hG5.r.fp_lt hb).2 fun e => hG5.dj b e.symm hb, fun b hb hf => ?_, fun j u' hj => ?_⟩
            · have hql := hG5.r.lt
              have hf5 : FpR w5 wt.heap.size b := hf.of (hg6.block _ hql fun e => hG5.dj _ e.symm (.inl rfl))
              rcases hn6 b hb with h6 | h6
              · exact hG5.dj b h6 hf5
              · have := (hG5.r.fp_lt hf5).2
                omega
            · rw [List.getElem?_append] at hj
              split at hj
              · exact hG5.at_ j u' hj
              · have hji : j = i := by
                  have := (List.getElem?_eq_some_iff.1 hj).1
                  simp at this
                  omega
                subst hji
                rw [hul] at hj
                simp at hj
                subst hj
                exact ⟨rfl, rfl, hu0⟩
      · rintro g' w2 ⟨k0, k2, k4, bsv', us', k3, hul', hG2⟩
        clear hG g3 hul us
        rw [g0] at k0
        rw [g2] at k2
        rw [g4] at k4
        clear g0 g2 g4 g
        simp only [VS, VD, SV, SL, T, Nat.reduceEqDiff, Nat.reduceAdd, Nat.reduceSub, Nat.reduceMul, Nat.reduceLeDiff, Nat.reduceLT, reduceIte]
        have hPs : prevs (List.replicate N.length []) 0 (N.take (i + 1)) = addP (prevs (List.replicate N.length []) 0 (N.take i)) (i : Int) (sc N i) := by
          rw [List.take_succ_eq_append_getElem hi', prevs_snoc, hsc]
          congr 1
          rw [List.length_take]
          omega
        have hPl : (prevs (List.replicate N.length []) 0 (N.take i)).length = N.length := by rw [prevs_len]; simp
        have hPr : rowsLe (prevs (List.replicate N.length []) 0 (N.take i)) (2 * i) := by
          have := prevs_le (N.take i) (List.replicate N.length []) 0 0 (fun l hl => by rw [(List.mem_replicate.1 hl).2]; simp) (fun l hl => hN2 l (List.mem_of_mem_take hl))
          rw [List.length_take] at this
          intro l hl
          have := this l hl
          omega
        generalize prevs (List.replicate N.length []) 0 (N.take i) = PL at *
        refine LoopP_intro (α := Nat) (fun k g w' => g 0 = .slice (some ⟨nb, no, none⟩) N.length nc ∧ g 2 = .agg a2 ∧ g 3 = .agg #[bsv', .slice (some ⟨wt.heap.size, 0, none⟩) N.length N.length] ∧ g 4 = .int .i64 i ∧ g 5 = .int .i64 k ∧ k ≤ (sc N i).length ∧ Gm wt N us' (addP PL i ((sc N i).take k)) bsv' w') (fun k => (sc N i).length - k) 0 ?_ ?_
        · simp only [VS, VD, SV, SL, T, Nat.reduceEqDiff, Nat.reduceAdd, Nat.reduceSub, Nat.reduceMul, Nat.reduceLeDiff, Nat.reduceLT, reduceIte, k0, k2, k3, k4]
          exact ⟨rfl, Nat.zero_le _, hG2⟩
        · clear k0 k2 k3 k4 hG2 g' w2
          rintro k g w' ⟨g0, g2, g3, g4, g5, hk, hG⟩
          have hnb' := hG.ext.obj hnb
          simp only [VS, VD, SV, SL, T, Nat.reduceEqDiff, Nat.reduceAdd, Nat.reduceSub, Nat.reduceMul, Nat.reduceLeDiff, Nat.reduceLT, reduceIte, g0, g4, g5, hnb', hncu, Int.toNat_natCast]
          refine ⟨by omega, ?_⟩
          by_cases hkl : (k : Int) < (sc N i).length
          · rw [decide_eq_true hkl]
            have hk' : k < (sc N i).length := by omega
            obtain ⟨ub, uo, ucs, ue, ufz, rfl, _, hub, hucv⟩ := (hu0.ext hG.ext).get (i := k) (x := (sc N i)[k]) (by simp)
            have htk : (sc N i).take (k + 1) = (sc N i).take k ++ [(sc N i)[k]] := List.take_succ_eq_append_getElem hk'
            obtain ⟨hx0, hx1⟩ := hN.sc (List.getElem_mem hk')
            generalize (sc N i)[k] = x at *
            obtain ⟨m, rfl⟩ := Int.eq_ofNat_of_zero_le hx0
            simp only [Int.toNat_natCast] at hx1
            have d1 : decide (0 ≤ (m : Int)) = true := decide_eq_true (by omega)
            have d2 : decide ((m : Int) < N.length) = true := decide_eq_true (by omega)
            simp only [VS, VD, SV, SL, T, Nat.reduceEqDiff, Nat.reduceAdd, Nat.reduceSub, Nat.reduceMul, Nat.reduceLeDiff, Nat.reduceLT, reduceIte, g0, g4, g5, hnb', hncu, hub, hucv, d1, d2, Int.toNat_natCast]
            refine ⟨by omega, by omega, ?_⟩
            have hGd := hG.ext' ((Ext.refl w').drew)
            have hPk := addP_len (i : Int) ((sc N i).take k) PL
            have hml : m < (addP PL i ((sc N i).take k)).length := by omega
            obtain ⟨us, v0, hq0, hus, hv0, hI0⟩ := hGd.r.at hml
            have hrl := addP_le i ((sc N i).take k) PL _ hPr _ (List.getElem_mem hml)
            rw [List.length_take] at hrl
            have hset : addP PL i ((sc N i).take (k + 1)) = (addP PL i ((sc N i).take k)).set m ((addP PL i ((sc N i).take k))[m] ++ [(i : Int)]) := by
              rw [htk, addP_snoc, Int.toNat_natCast, List.getD_eq_getElem?_getD, List.getElem?_eq_getElem hml]
              rfl
            have hql := get_lt hq0
            refine DW_c (fun g' w2 => g' 0 = .slice (some ⟨nb, no, none⟩) N.length nc ∧ g' 2 = .agg a2 ∧ g' 3 = .agg #[bsv', .slice (some ⟨wt.heap.size, 0, none⟩) N.length N.length] ∧ g' 4 = .int .i64 i ∧ g' 5 = .int .i64 k ∧ Gm wt N us' (addP PL i ((sc N i).take (k + 1))) bsv' w2) ?_ ?_
            · refine .inr ⟨fun L ok f w => GrI (GrC bsv' N.length wt.heap.size m i w'.drew v0) [(0, .slice (some ⟨nb, no, none⟩) N.length nc), (2, .agg a2), (3, .agg #[bsv', .slice (some ⟨wt.heap.size, 0, none⟩) N.length N.length]), (4, .int .i64 i), (5, .int .i64 k), (6, .int .i64 m)] i (fun v w2 => IntO wt.heap.size w2 v ((addP PL i ((sc N i).take k))[m] ++ [(i : Int)]) ∧ w'.drew.grownBy w2 v0.ownBlock ∧ ∀ b, v.ownBlock = some b → v0.ownBlock = some b ∨ w'.drew.heap.size ≤ b) w'.drew L ok f w, ?_, ?_, ?_⟩
              · refine ⟨fun p hp => ?_, nofun, nofun, fun _ => rfl, nofun, nofun⟩
                simp only [List.mem_cons, List.not_mem_nil, or_false] at hp
                rcases hp with rfl | rfl | rfl | rfl | rfl | rfl <;> simp [upd_apply, updO, g0, g2, g3, g4, g5]
              · intro d hd L ok f w2 H hLd hdeps
                have f3 : f 3 = .agg #[bsv', .slice (some ⟨wt.heap.size, 0, none⟩) N.length N.length] := (H.fr (3, .agg #[bsv', .slice (some ⟨wt.heap.size, 0, none⟩) N.length N.length]) (by simp)).2
                have f4 : f 4 = .int .i64 i := (H.fr (4, .int .i64 i) (by simp)).2
                have f6 : f 6 = .int .i64 m := (H.fr (6, .int .i64 m) (by simp)).2
                simp only [List.mem_cons, List.not_mem_nil, or_false] at hd
                rcases hd with rfl | rfl | rfl | rfl | rfl | rfl | rfl | rfl | rfl | rfl | rfl
                · simp only [stp, vi]; simp only [VS, VD, SV, SL, T, Nat.reduceEqDiff, Nat.reduceAdd, Nat.reduceSub, Nat.reduceMul, Nat.reduceLeDiff, Nat.reduceLT, reduceIte, f3]; exact H.path (k := 0) (by omega) rfl
                · have x0 : ok 54 = _ := H.c 0 (by omega) (hdeps 0 (by simp))
                  simp only [stp, vi]; simp only [VS, VD, SV, SL, T, Nat.reduceEqDiff, Nat.reduceAdd, Nat.reduceSub, Nat.reduceMul, Nat.reduceLeDiff, Nat.reduceLT, reduceIte, f3, x0]; exact ⟨x0, H.slot (k := 1) (by omega) rfl⟩
                · simp only [stp, vi]; simp only [VS, VD, SV, SL, T, Nat.reduceEqDiff, Nat.reduceAdd, Nat.reduceSub, Nat.reduceMul, Nat.reduceLeDiff, Nat.reduceLT, reduceIte, f6]; exact H.slot (k := 2) (by omega) rfl
                · simp only [stp, vi]; simp only [VS, VD, SV, SL, T, Nat.reduceEqDiff, Nat.reduceAdd, Nat.reduceSub, Nat.reduceMul, Nat.reduceLeDiff, Nat.reduceLT, reduceIte, f3]; exact H.path (k := 3) (by omega) rfl
                · have x0 : ok 57 = _ := H.c 3 (by omega) (hdeps 3 (by simp))
                  simp only [stp, vi]; simp only [VS, VD, SV, SL, T, Nat.reduceEqDiff, Nat.reduceAdd, Nat.reduceSub, Nat.reduceMul, Nat.reduceLeDiff, Nat.reduceLT, reduceIte, f3, x0]; exact ⟨x0, H.slot (k := 4) (by omega) rfl⟩
                · simp only [stp, vi]; simp only [VS, VD, SV, SL, T, Nat.reduceEqDiff, Nat.reduceAdd, Nat.reduceSub, Nat.reduceMul, Nat.reduceLeDiff, Nat.reduceLT, reduceIte, f6]; exact H.slot (k := 5) (by omega) rfl
                · have x4 : f 58 = _ := H.c 4 (by omega) (hdeps 4 (by simp))
                  have x5 : f 59 = _ := H.c 5 (by omega) (hdeps 5 (by simp))
                  simp only [stp, vi]; simp only [VS, VD, SV, SL, T, Nat.reduceEqDiff, Nat.reduceAdd, Nat.reduceSub, Nat.reduceMul, Nat.reduceLeDiff, Nat.reduceLT, reduceIte, x4, x5, Int.toNat_natCast]
                  exact ⟨by omega, H.slot (k := 6) (by omega) rfl⟩
                · have x6 : f 60 = _ := H.c 6 (by omega) (hdeps 6 (by simp))
                  have hq : w2.heap[wt.heap.size]? = some (.cells us 36 (0, 0)) := by
                    cases h9 : L 9 with
                    | false => rw [H.w0 h9]; exact hq0
                    | true =>
                      cases h10 : L 10 with
                      | false => rw [H.w9 h9 h10, alloc_get_lt hql]; exact hq0
                      | true => have := (H.d h10).2; simp only [] at hLd; rw [this] at hLd; cases hLd
                  simp only [stp, vi]; simp only [VS, VD, SV, SL, T, Nat.reduceEqDiff, Nat.reduceAdd, Nat.reduceSub, Nat.reduceMul, Nat.reduceLeDiff, Nat.reduceLT, reduceIte, x6, hq, hv0]
                  exact H.slot (k := 7) (by omega) rfl
                · simp only [stp, vi]; simp only [VS, VD, SV, SL, T, Nat.reduceEqDiff, Nat.reduceAdd, Nat.reduceSub, Nat.reduceMul, Nat.reduceLeDiff, Nat.reduceLT, reduceIte, f4]; exact H.slot (k := 8) (by omega) rfl
                · have x8 : f 62 = _ := H.c 8 (by omega) (hdeps 8 (by simp))
                  simp only [stp, vi]; simp only [VS, VD, SV, SL, T, Nat.reduceEqDiff, Nat.reduceAdd, Nat.reduceSub, Nat.reduceMul, Nat.reduceLeDiff, Nat.reduceLT, reduceIte, x8]
                  simp only [] at hLd
                  have hw := H.w0 hLd
                  subst hw
                  refine ⟨fun p hp => ⟨(H.fr p hp).1, by rw [upd_apply, if_neg (by have := (H.fr p hp).1; omega)]; exact (H.fr p hp).2⟩, fun n hn hl => ?_, fun h10 => ?_, fun h9 => ?_, fun _ _ => rfl, fun h10 => ?_⟩
                  · by_cases e : n = 9
                    · subst e
                      simp only [GrC, upd_apply, if_pos rfl]
                      rfl
                    · rw [upd_apply, if_neg (by omega)]
                      refine H.c n hn ?_
                      simpa [setL, e] using hl
                  · have h10' : L 10 = true := by simpa [setL] using h10
                    have := (H.d h10').1
                    rw [this] at hLd; cases hLd
                  · simp [setL] at h9
                  · have h10' : L 10 = true := by simpa [setL] using h10
                    have := (H.d h10').1
                    rw [this] at hLd; cases hLd
                · have x7 : f 61 = _ := H.c 7 (by omega) (hdeps 7 (by simp))
                  have x9 : f 63 = _ := H.c 9 (by omega) (hdeps 9 (by simp))
                  simp only [stp, vi]; simp only [VS, VD, SV, SL, T, Nat.reduceEqDiff, Nat.reduceAdd, Nat.reduceSub, Nat.reduceMul, Nat.reduceLeDiff, Nat.reduceLT, reduceIte, x7, x9]
                  simp only [] at hLd
                  have l9 := hdeps 9 (by simp)
                  have l7 := hdeps 7 (by simp)
                  have hw := H.w9 l9 hLd
                  subst hw
                  refine app_int hI0 (by omega) (by have := hGd.r.lt; omega) i ?_
                  intro v' w7 ho7 hg7 hnew
                  simp only [VS, VD, SV, SL, T, Nat.reduceEqDiff, Nat.reduceAdd, Nat.reduceSub, Nat.reduceMul, Nat.reduceLeDiff, Nat.reduceLT, reduceIte]
                  refine ⟨fun p hp => ⟨(H.fr p hp).1, by rw [upd_apply, if_neg (by have := (H.fr p hp).1; omega)]; exact (H.fr p hp).2⟩, fun n hn hl => ?_, fun _ => ?_, fun h9 => ?_, fun _ h10 => ?_, fun _ => ?_⟩
                  · rw [upd_apply, if_neg (by omega)]
                    refine H.c n hn ?_
                    simpa [setL, show ¬ n = 10 by omega] using hl
                  · simp [setL, l9, l7]
                  · simp [setL, l9] at h9
                  · simp [setL] at h10
                  · rw [upd_apply, if_pos rfl]
                    exact ⟨ho7, hg7, hnew⟩
              · intro L ok f w2 hall H
                simp only [List.mem_cons, List.not_mem_nil, or_false, forall_eq_or_imp, forall_eq] at hall
                obtain ⟨l0, l1, l2, l3, l4, l5, l6, l7, l8, l9, l10⟩ := hall
                have x1 : f 55 = _ := H.c 1 (by omega) l1
                have x2 : f 56 = _ := H.c 2 (by omega) l2
                obtain ⟨ho, hg, hnew⟩ := H.w10 l10
                have f0 : f 0 = .slice (some ⟨nb, no, none⟩) N.length nc := (H.fr (0, .slice (some ⟨nb, no, none⟩) N.length nc) (by simp)).2
                have f2 : f 2 = .agg a2 := (H.fr (2, .agg a2) (by simp)).2
                have f3 : f 3 = .agg #[bsv', .slice (some ⟨wt.heap.size, 0, none⟩) N.length N.length] := (H.fr (3, .agg #[bsv', .slice (some ⟨wt.heap.size, 0, none⟩) N.length N.length]) (by simp)).2
                have f4 : f 4 = .int .i64 i := (H.fr (4, .int .i64 i) (by simp)).2
                have f5 : f 5 = .int .i64 k := (H.fr (5, .int .i64 k) (by simp)).2
                generalize hv64 : f 64 = v' at *
                obtain ⟨va, vcp, rfl⟩ := own_form ho
                obtain ⟨hq1, hR1⟩ := hGd.r.app hml hq0 hv0 ho hg hnew
                simp only [VS, VD, SV, SL, T, Nat.reduceEqDiff, Nat.reduceAdd, Nat.reduceSub, Nat.reduceMul, Nat.reduceLeDiff, Nat.reduceLT, reduceIte, x1, x2, hv64, hq1, f0, f2, f3, f4, f5, Int.toNat_natCast]
                refine ⟨by omega, by omega, ?_⟩
                have hfp := fun b hb => fp_app (b := b) hq0 hq1 hv0 hnew hb
                have hEd := hGd.ext.grownO hI0 (Nat.le_refl _) hg
                have hdj : ∀ b, bsv'.ownBlock = some b → b < w'.drew.heap.size ∧ ¬ FpR w'.drew wt.heap.size b := fun b hb => ⟨(hGd.b.lt b hb).2, hGd.dj b hb⟩
                refine ⟨hEd.putb (Nat.le_refl _) _, own_at hGd.b fun b hb => ?_, by rw [hset]; exact hR1, fun b hb hf => ?_, hGd.at_⟩
                · obtain ⟨k1, k2⟩ := hdj b hb
                  rw [putb_get_ne (fun e => k2 (.inl e)), hg.block b k1 fun e => k2 (.inr ⟨us, hq0, m, v0, hv0, e.symm⟩)]
                · obtain ⟨k1, k2⟩ := hdj b hb
                  rcases hfp b hf with h | h
                  · exact k2 h
                  · omega
            · rintro g' w2 ⟨k0, k2, k3, k4, k5, hG2⟩
              simp only [VS, VD, SV, SL, T, Nat.reduceEqDiff, Nat.reduceAdd, Nat.reduceSub, Nat.reduceMul, Nat.reduceLeDiff, Nat.reduceLT, reduceIte, k0, k2, k3, k4, k5]
              exact ⟨by omega, k + 1, ⟨by simp, by omega, hG2⟩, by omega⟩
          · rw [decide_eq_false hkl]
            rw [List.take_of_length_le (by omega)] at hG
            simp only [VS, VD, SV, SL, T, Nat.reduceEqDiff, Nat.reduceAdd, Nat.reduceSub, Nat.reduceMul, Nat.reduceLeDiff, Nat.reduceLT, reduceIte, g0, g2, g4]
            exact ⟨by omega, i + 1, ⟨⟨_, us', g3, hul', by rw [hPs]; exact hG⟩, ⟨_, rfl⟩, by simp, by omega⟩, by omega⟩
    · rw [decide_eq_false hlt]
      obtain rfl : i = N.length := by omega
      rw [List.take_length] at hG
      have hb := blks_of (B := blks N N.length) hG.b (by rw [hul, blks_len]) fun j u b hu hb => by
        unfold blks at hb
        rw [List.getElem?_map] at hb
        have hj := (List.getElem?_eq_some_iff.1 hu).1
        rw [List.getElem?_range (by omega)] at hb
        simp only [Option.map_some, Option.some.injEq] at hb
        subst hb
        obtain ⟨k1, k2, k3⟩ := hG.at_ j u hu
        exact ⟨k1, k2, k3.ext hG.ext⟩
      have hp := hG.r.intss (c := N.length)
      have hPl : (prevs (List.replicate N.length []) 0 N).length = N.length := by rw [prevs_len]; simp
      rw [hPl] at hp
      obtain ⟨ba, bc, rfl⟩ := hG.b.form
      simp only [VS, VD, SV, SL, T, Nat.reduceEqDiff, Nat.reduceAdd, Nat.reduceSub, Nat.reduceMul, Nat.reduceLeDiff, Nat.reduceLT, reduceIte, g3, g2]
      exact hΨ _ _ ⟨hEt.trans hG.ext, _, _, rfl, hb, hp⟩
end Go.Proofs.Ytlhlbiaibgmapaa
