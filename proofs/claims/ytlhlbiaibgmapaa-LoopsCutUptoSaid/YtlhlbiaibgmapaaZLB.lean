/-
  slices.Sorted(maps.Keys(m)) at integer keys, over veiled worlds.
-/
import Derived.Test.YtlhlbiaibgmapaaZLH
import Derived.Test.YtlhlbiaibgmapaaZLA
import Derived.Test.YtlhlbiaibgmapaaZLP3
import Derived.Test.YtlhlbiaibgmapaaZGB4
import Derived.Test.YtlhlbiaibgmapaaZGA8
import Derived.Test.YtlhlbiaibgmapaaZGQ3
set_option linter.unusedSimpArgs false
set_option linter.unusedVariables false
namespace Go.Proofs.Ytlhlbiaibgmapaa
open Go.W Go.RowKit Go.Maps Go.Shelf
abbrev i64r (n : Int) : Prop := -9223372036854775808 ≤ n ∧ n ≤ 9223372036854775807
abbrev sortI (l : List Int) : List Int := l.mergeSort fun x y => decide (x ≤ y)
abbrev rdN (_ : Value) : Option (DataW Unit × List MemPlace) := some (.nil, [])
theorem key_i64 {n : Int} (h : i64r n) : keyOf Try.prog 3 (.int .i64 n) = some (.int .i64 n) := by
  have hw : (Lit.int .i64 n).wf = true := by
    simp only [Lit.wf, IntKind.min, IntKind.max, IntKind.signed, IntKind.bits]
    simp
    omega
  have hu : Try.prog.underlying 3 = some (.int .i64) := Try.underlying3
  simp [keyOf, hu, mapKey, hw]
theorem mk_own {l : List Ent} {c : Nat} (hw : MWF l c) (hlen : l.length ≤ maxLen) (hb : ∀ p ∈ l, i64r p.1) {w : World} {r : Nat} (h : w.heap[r]? = some (.map (mk l) c)) :
    ∃ D : DataW Unit, w.ownsMap Try.prog 3 rdN r l.length D ∧ Maps.size D = l.length ∧ (intKeys D).Perm (l.map (·.1)) := by
  have hrd : ∀ p ∈ l, WideElems.rd Try.prog 3 rdN (⟨.int .i64 p.1, p.2.1, p.2.2⟩ : MapEntry) = some (.int .i64 p.1, .nil) := fun p hp => by
    simp [WideElems.rd, key_i64 (hb p hp)]
  have hrg : (mk l).toList.map (WideElems.rg Try.prog 3 rdN) = l.map fun p => ((Lit.int .i64 p.1, DataW.nil) : Lit × DataW Unit) := by
    simp only [mk, List.map_map]
    apply List.map_congr_left
    intro p hp
    simp [WideElems.rg, hrd p hp]
  have hperm := WideShapes.sorted_perm ((mk l).toList.map (WideElems.rg Try.prog 3 rdN))
  refine ⟨_, ⟨mk l, c, h, ⟨by simpa [mk] using hlen, ⟨?_, ?_, ?_⟩, ?_⟩, by simp [mk], rfl⟩, ?_, ?_⟩
  · intro x hx
    simp only [mk, List.mem_map] at hx
    obtain ⟨p, hp, rfl⟩ := hx
    exact hw.lt p hp
  · have : ((mk l).toList.map (·.born)) = l.map (·.2.2) := by simp [mk, List.map_map, Function.comp_def]
    rw [this]
    exact hw.borns
  · have : ((mk l).toList.map (·.key)) = (l.map (·.1)).map (Value.int .i64) := by simp [mk, List.map_map, Function.comp_def]
    rw [this]
    unfold List.Nodup
    rw [List.pairwise_map]
    exact hw.keys.imp fun hne e => hne (by simpa using e)
  · intro x hx
    simp only [mk, List.mem_map] at hx
    obtain ⟨p, hp, rfl⟩ := hx
    exact ⟨_, hrd p hp⟩
  · rw [Maps.size_eq, hperm.length_eq, hrg, List.length_map]
  · show (List.map (fun p : Lit × DataW Unit => _root_.Go.intOf p.1) _).Perm _
    have h2 := hperm.map (fun p : Lit × DataW Unit => _root_.Go.intOf p.1)
    rw [hrg, List.map_map] at h2
    rw [hrg]
    exact h2
set_option maxRecDepth 10000 in
theorem KeysB_spec (r : Nat) (w : World) : VRet Try.prog 51 #[.map (some r)] w fun v w' => v = .func (.func 58) #[] #[.pointer (some ⟨w.heap.size, 0, none⟩)] ∧ w' = w.alloc (.cells #[.map (some r)] 52) := by
  have hen := T.en51
  refine .inl ⟨hen, fun T wa hw hT => ⟨hen, ?_⟩⟩
  subst hw
  refine ((callsIn_wide (n := 5)).1 (AnyZI.keys_in Try.keysB Fence.wide 5 trivial rfl (some r) wa)).mono ?_
  rintro e w' ⟨rfl, rfl⟩
  exact ⟨_, rfl, T, Kp.alloc hT _, by rw [tombW_size]; rfl, by rw [tombW_alloc hT]; rfl⟩
set_option maxRecDepth 10000 in
theorem KeysL_spec (r : Nat) (w : World) : VRet Try.prog 32 #[.map (some r)] w fun v w' => v = .func (.func 49) #[] #[.pointer (some ⟨w.heap.size, 0, none⟩)] ∧ w' = w.alloc (.cells #[.map (some r)] 62) := by
  have hen := T.en32
  refine .inl ⟨hen, fun T wa hw hT => ⟨hen, ?_⟩⟩
  subst hw
  refine ((callsIn_wide (n := 5)).1 (AnyZI.keys_in Try.keysL Fence.wide 5 trivial rfl (some r) wa)).mono ?_
  rintro e w' ⟨rfl, rfl⟩
  exact ⟨_, rfl, T, Kp.alloc hT _, by rw [tombW_size]; rfl, by rw [tombW_alloc hT]; rfl⟩
theorem sorts (m : Nat) : AnyZI.SortsIn Try.prog Try.sortedK_ren Fence.wide m :=
  ⟨fun blk off cap ss W hH hblk hsz => callsIn_wide.2 (AnyM.slices_Sort_int Try.sortM blk off cap ss W hH hblk hsz),
   fun p cap W => callsIn_wide.2 (AnyM.slices_Sort_int_none Try.sortM p cap W)⟩
theorem sorted_up {T : Nat → Bool} {wa : World} (hT : TB T wa) {l : List Int} {e : Ending} {w' : World} (h : ∃ (v : Value) (ss : List Int), e = .returned v ∧ ss.Perm l ∧ w'.ownsRow wa.heap.size 3 1 v ss.length ((ss.mergeSort (fun x y => decide (x ≤ y))).map encZ) ∧ (v = .slice none 0 0 ↔ ss = []) ∧ Below wa.heap.size wa w') :
    ∃ v, e = .returned v ∧ upV (fun v w' => IntO (tombW T wa).heap.size w' v (sortI l) ∧ Ext (tombW T wa) w') T wa v w' := by
  obtain ⟨v, ss, rfl, hp, ho, _, hb⟩ := h
  have hTB : TB T w' := fun b hb' => hT b (Nat.le_trans hb.size hb')
  refine ⟨v, rfl, T, ⟨hT, hTB, hb.size, fun _ _ => rfl, fun b hb' => hb.block b (hT.lt hb')⟩, ?_, ⟨hb.os, hb.tape, hb.output, by rw [tombW_size, tombW_size]; exact hb.size, fun b hb' => ?_⟩⟩
  · have es : sortI l = ss.mergeSort fun x y => decide (x ≤ y) := (mergeSort_of_perm_i hp).symm
    have el : (sortI l).length = ss.length := by rw [es, List.length_mergeSort]
    rw [tombW_size]
    refine tomb_own (base := wa.heap.size) ?_ fun b hb' => ?_
    · rw [el, es]; exact ho
    · have := (ho.lt b hb').1
      exact hT b this
  · rw [tombW_size] at hb'
    rw [tombW_get, tombW_get, hb.block b hb']
set_option maxHeartbeats 1000000 in
set_option maxRecDepth 10000 in
theorem SortedB_spec (z r : Nat) {l : List Ent} {c : Nat} (hw : MWF l c) (hlen : l.length ≤ 100000000) (hb : ∀ p ∈ l, i64r p.1) (w : World) (hz : w.heap[z]? = some (.cells #[.map (some r)] 52 (0, 0))) (hr : w.heap[r]? = some (.map (mk l) c)) :
    VRet Try.prog 31 #[.func (.func 58) #[] #[.pointer (some ⟨z, 0, none⟩)]] w fun v w' => IntO w.heap.size w' v (sortI (l.map (·.1))) ∧ Ext w w' := by
  have hen := T.en31
  refine .inl ⟨hen, fun T wa hwa hT => ⟨hen, ?_⟩⟩
  subst hwa
  have hz' := (tombW_cells hz).2
  have hr' := (tombW_map hr).2
  have hml : l.length ≤ maxLen := by unfold maxLen; omega
  obtain ⟨D, hD1, hD2, hD3⟩ := mk_own hw hml hb hr'
  have hseq : SeqGives Fence.wide 2 Try.prog 58 #[.pointer (some ⟨z, 0, none⟩)] encZ (fun ss => ss.Perm (intKeys D)) (Maps.size D) wa :=
    AnyZI.keys_gives (ρ := Try.keysB_ren) { Try.keysB with } Fence.wide _ trivial rfl (by omega) z r l.length D wa (get_lt hz') (by rw [cell_mk, hz']; rfl) hD1
  have hmax : Maps.size D ≤ maxLen := by rw [hD2]; exact hml
  have cS := AnyZI.sorted_in Try.sortedK Fence.wide 5 trivial trivial trivial trivial rfl (by omega) (sorts _) (enters_of Try.func48 (by kernel_rfl) rfl) 58 #[.pointer (some ⟨z, 0, none⟩)] trivial (enters_of Try.func58 (by kernel_rfl) rfl) _ _ hmax (by rw [hD2]; omega) wa hseq
  change CallsIn _ _ Try.prog 31 _ _ _ at cS
  refine ((callsIn_wide (n := 5)).1 cS).mono ?_
  rintro e w' ⟨v, ss, he, hS, hrow, hnil, hbl⟩
  exact sorted_up hT ⟨v, ss, he, hS.trans hD3, hrow, hnil, hbl⟩
set_option maxHeartbeats 1000000 in
set_option maxRecDepth 10000 in
theorem SortedL_spec (z r : Nat) {l : List Ent} {c : Nat} (hw : MWF l c) (hlen : l.length ≤ 100000000) (hb : ∀ p ∈ l, i64r p.1) (w : World) (hz : w.heap[z]? = some (.cells #[.map (some r)] 62 (0, 0))) (hr : w.heap[r]? = some (.map (mk l) c)) :
    VRet Try.prog 31 #[.func (.func 49) #[] #[.pointer (some ⟨z, 0, none⟩)]] w fun v w' => IntO w.heap.size w' v (sortI (l.map (·.1))) ∧ Ext w w' := by
  have hen := T.en31
  refine .inl ⟨hen, fun T wa hwa hT => ⟨hen, ?_⟩⟩
  subst hwa
  have hz' := (tombW_cells hz).2
  have hr' := (tombW_map hr).2
  have hml : l.length ≤ maxLen := by unfold maxLen; omega
  obtain ⟨D, hD1, hD2, hD3⟩ := mk_own hw hml hb hr'
  have hseq : SeqGives Fence.wide 2 Try.prog 49 #[.pointer (some ⟨z, 0, none⟩)] encZ (fun ss => ss.Perm (intKeys D)) (Maps.size D) wa :=
    AnyZI.keys_gives (ρ := Try.keysL_ren) { Try.keysL with } Fence.wide _ trivial rfl (by omega) z r l.length D wa (get_lt hz') (by rw [cell_mk, hz']; rfl) hD1
  have hmax : Maps.size D ≤ maxLen := by rw [hD2]; exact hml
  have cS := AnyZI.sorted_in Try.sortedK Fence.wide 5 trivial trivial trivial trivial rfl (by omega) (sorts _) (enters_of Try.func48 (by kernel_rfl) rfl) 49 #[.pointer (some ⟨z, 0, none⟩)] trivial (enters_of Try.func49 (by kernel_rfl) rfl) _ _ hmax (by rw [hD2]; omega) wa hseq
  change CallsIn _ _ Try.prog 31 _ _ _ at cS
  refine ((callsIn_wide (n := 5)).1 cS).mono ?_
  rintro e w' ⟨v, ss, he, hS, hrow, hnil, hbl⟩
  exact sorted_up hT ⟨v, ss, he, hS.trans hD3, hrow, hnil, hbl⟩
end Go.Proofs.Ytlhlbiaibgmapaa
set_option linter.unusedSimpArgs false
set_option linter.unusedVariables false
namespace Go.Proofs.Ytlhlbiaibgmapaa
open Go.W Go.RowKit
def SN (S : Nat → Bool) : Int → Bool := fun k => decide (0 ≤ k) && S k.toNat
theorem SN_at (S : Nat → Bool) (b : Nat) : SN S b = S b := by simp [SN]
theorem SN_set (S : Nat → Bool) (b : Nat) : setI (SN S) b = SN (setS S b) := by
  funext k
  unfold setI SN setS
  by_cases e : k = b
  · subst e; simp
  · rw [if_neg e]
    by_cases h : 0 ≤ k
    · have : ¬ k.toNat = b := by omega
      rw [if_neg this]
    · simp [h]
abbrev bclo (m : Nat) : Value := .func (.func 50) #[] #[.pointer (some ⟨m + 3, 0, none⟩), .pointer (some ⟨m + 1, 0, none⟩), .pointer (some ⟨m, 0, none⟩), .pointer (some ⟨m + 4, 0, none⟩)]
structure Vb (w0 : World) (m : Nat) (bs pv : Value) (q n : Nat) (w : World) (S : Nat → Bool) : Prop where
  ext : Ext w0 w
  g : w.heap[m]? = some (.cells #[bs, pv] 25 (0, 0))
  p : w.heap[m + 1]? = some (.cells #[.slice (some ⟨q, 0, none⟩) n n] 36 (0, 0))
  mp : w.heap[m + 3]? = some (.cells #[.map (some (m + 2))] 52 (0, 0))
  f : w.heap[m + 4]? = some (.cells #[bclo m] 76 (0, 0))
  s : SetM w (m + 2) (SN S)
set_option maxRecDepth 10000 in
theorem bvisit_spec {N : List (List Int)} (hN : NOk N) (hN2 : ∀ l ∈ N, l.length ≤ 2) (hn : N.length ≤ 2000000) {w0 : World} {m : Nat} (hm : w0.heap.size ≤ m) {ba : Option Addr} {nb bc : Nat} {pa : Option Addr} {pc q : Nat} (hp : IntssAt w0 (.slice pa N.length pc) (prevOf N)) {P : Nat → Int} (hq : IB w0 q N.length P) (hP : ∀ x, x < N.length → (P x < 0 ↔ rch N (-1) x = false)) :
    ∀ (k : Nat) (S : Nat → Bool) (b : Nat), b < N.length → uns N.length S < k → ∀ w, Vb w0 m (.slice ba nb bc) (.slice pa N.length pc) q N.length w S →
      VRet Try.prog 50 #[.int .i64 b, .pointer (some ⟨m + 3, 0, none⟩), .pointer (some ⟨m + 1, 0, none⟩), .pointer (some ⟨m, 0, none⟩), .pointer (some ⟨m + 4, 0, none⟩)] w fun _ w' => Vb w0 m (.slice ba nb bc) (.slice pa N.length pc) q N.length w' (bv N k S b) := by
  have hPl : (prevOf N).length = N.length := prevOf_len N
  intro k
  induction k with
  | zero => intro S b hb hu; omega
  | succ k ih =>
    intro S b hb hu w hV
    obtain ⟨pcs, hqb, hqs, hqv⟩ := hq.ext hV.ext
    have hPb := hqv b hb
    have hgb := hV.g
    have hpb := hV.p
    have hmb := hV.mp
    refine VRet_start T.mo ok50 rfl fun Ψ hΨ => ?_; simp only [vc50, rs50]
    simp only [VS, VD, SV, SL, T, Nat.reduceEqDiff, Nat.reduceAdd, Nat.reduceSub, Nat.reduceMul, Nat.reduceLeDiff, Nat.reduceLT, reduceIte, hmb]
    refine hV.s.look b ?_
    rw [SN_at]
    simp only [VS, VD, SV, SL, T, Nat.reduceEqDiff, Nat.reduceAdd, Nat.reduceSub, Nat.reduceMul, Nat.reduceLeDiff, Nat.reduceLT, reduceIte]
    refine YG_c (fun g w1 => g 0 = .int .i64 b ∧ g 1 = .pointer (some ⟨m + 3, 0, none⟩) ∧ g 2 = .pointer (some ⟨m + 1, 0, none⟩) ∧ g 3 = .pointer (some ⟨m, 0, none⟩) ∧ g 4 = .pointer (some ⟨m + 4, 0, none⟩) ∧ g 17 = .bool (S b || !rch N (-1) b) ∧ w1 = w) ?_ ?_
    · cases hS : S b with
      | true =>
        simp only [VS, VD, SV, SL, T, Nat.reduceEqDiff, Nat.reduceAdd, Nat.reduceSub, Nat.reduceMul, Nat.reduceLeDiff, Nat.reduceLT, reduceIte]
        simp
      | false =>
        by_cases hlt : P b < 0
        · have d1 : decide (P b < 0) = true := decide_eq_true hlt
          have hr := (hP b hb).1 hlt
          simp only [VS, VD, SV, SL, T, Nat.reduceEqDiff, Nat.reduceAdd, Nat.reduceSub, Nat.reduceMul, Nat.reduceLeDiff, Nat.reduceLT, reduceIte, hpb, hqb, hPb, d1, Int.toNat_natCast]
          refine ⟨by omega, ?_⟩
          simp [hr]
        · have d1 : decide (P b < 0) = false := decide_eq_false hlt
          have hr : rch N (-1) b = true := by
            cases h : rch N (-1) b with
            | true => rfl
            | false => exact (hlt ((hP b hb).2 h)).elim
          simp only [VS, VD, SV, SL, T, Nat.reduceEqDiff, Nat.reduceAdd, Nat.reduceSub, Nat.reduceMul, Nat.reduceLeDiff, Nat.reduceLT, reduceIte, hpb, hqb, hPb, d1, Int.toNat_natCast]
          refine ⟨by omega, ?_⟩
          simp [hr]
    · rintro g w1 ⟨g0, g1, g2, g3, g4, g17, rfl⟩
      by_cases hc : S b = true ∨ rch N (-1) b = false
      · have : (S b || !rch N (-1) b) = true := by rcases hc with h | h <;> simp [h]
        rw [this] at g17
        simp only [VS, VD, SV, SL, T, Nat.reduceEqDiff, Nat.reduceAdd, Nat.reduceSub, Nat.reduceMul, Nat.reduceLeDiff, Nat.reduceLT, reduceIte, g17]
        apply hΨ
        rw [bv_succ, if_pos hc]
        exact hV
      · have hS : S b = false := by
          cases h : S b with
          | false => rfl
          | true => exact (hc (.inl h)).elim
        have hr : rch N (-1) b = true := by
          cases h : rch N (-1) b with
          | true => rfl
          | false => exact (hc (.inr h)).elim
        have : (S b || !rch N (-1) b) = false := by simp [hS, hr]
        rw [this] at g17
        have hfin : bv N (k + 1) S b = bvL N k (setS S b) (prow N b) := by rw [bv_succ, if_neg hc]
        rw [hfin] at hΨ
        have hu1 := uns_set hb hS
        obtain ⟨prb, pro, prcs, pre, prfz, u, rfl, hprb, hprc, hu0⟩ := hp.get' (show b < (prevOf N).length by omega)
        have hprl := prevOf_le hN2 (prevOf N)[b] (List.getElem_mem _)
        have hrow : (prevOf N)[b] = prow N b := by unfold prow; rw [List.getD_eq_getElem?_getD, List.getElem?_eq_getElem (by omega)]; rfl
        rw [hrow] at hu0 hprl
        obtain ⟨ua, uc, rfl⟩ := hu0.form
        simp only [VS, VD, SV, SL, T, Nat.reduceEqDiff, Nat.reduceAdd, Nat.reduceSub, Nat.reduceMul, Nat.reduceLeDiff, Nat.reduceLT, reduceIte, g0, g1, g17, hmb]
        refine hV.s.put b ?_
        rintro w2 ⟨o, rfl⟩ hS2
        rw [SN_set] at hS2
        have hV2 : Vb w0 m (.slice ba nb bc) (.slice (some ⟨prb, pro, none⟩) N.length pc) q N.length (w1.putb (m + 2) o) (setS S b) := by
          refine ⟨hV.ext.putb (by omega) _, by rw [putb_get_ne (by omega)]; exact hgb, by rw [putb_get_ne (by omega)]; exact hpb, by rw [putb_get_ne (by omega)]; exact hmb, by rw [putb_get_ne (by omega)]; exact hV.f, hS2⟩
        generalize w1.putb (m + 2) o = w2 at *
        have hgb2 := hV2.g
        have hprb2 := hV2.ext.obj hprb
        simp only [VS, VD, SV, SL, T, Nat.reduceEqDiff, Nat.reduceAdd, Nat.reduceSub, Nat.reduceMul, Nat.reduceLeDiff, Nat.reduceLT, reduceIte, g0, g1, g3, hgb2, hprb2, hprc, Int.toNat_natCast]
        refine ⟨by omega, ?_⟩
        have hrng := prevOf_row hN hb
        have hspec := fun l hl => (bv_spec hN k).2 l (setS S b) hl (by omega)
        refine LoopP_intro (α := Nat) (fun j g w' => g 1 = .pointer (some ⟨m + 3, 0, none⟩) ∧ g 2 = .pointer (some ⟨m + 1, 0, none⟩) ∧ g 3 = .pointer (some ⟨m, 0, none⟩) ∧ g 4 = .pointer (some ⟨m + 4, 0, none⟩) ∧ g 24 = .slice ua (prow N b).length uc ∧ g 25 = .int .i64 (prow N b).length ∧ g 26 = .int .i64 j ∧ j ≤ (prow N b).length ∧ Vb w0 m (.slice ba nb bc) (.slice (some ⟨prb, pro, none⟩) N.length pc) q N.length w' (bvL N k (setS S b) ((prow N b).take j))) (fun j => (prow N b).length - j) 0 ?_ ?_
        · simp only [VS, VD, SV, SL, T, Nat.reduceEqDiff, Nat.reduceAdd, Nat.reduceSub, Nat.reduceMul, Nat.reduceLeDiff, Nat.reduceLT, reduceIte, g1, g2, g3, g4]
          exact ⟨rfl, Nat.zero_le _, hV2⟩
        · clear g0 g1 g2 g3 g4 g17 hV2 hgb2 hprb2 hS2
          rintro j g w' ⟨g1, g2, g3, g4, g24, g25, g26, hj, hV'⟩
          simp only [VS, VD, SV, SL, T, Nat.reduceEqDiff, Nat.reduceAdd, Nat.reduceSub, Nat.reduceMul, Nat.reduceLeDiff, Nat.reduceLT, reduceIte, g25, g26]
          by_cases hlt : (j : Int) < (prow N b).length
          · rw [decide_eq_true hlt]
            have hj' : j < (prow N b).length := by omega
            obtain ⟨bu, ou, cu, eu, fu, rfl, _, hbu, hcu⟩ := (hu0.ext hV'.ext).get (i := j) (x := (prow N b)[j]) (by simp [hj'])
            have htl : (prow N b).take (j + 1) = (prow N b).take j ++ [(prow N b)[j]] := List.take_succ_eq_append_getElem hj'
            obtain ⟨hx0, hx1⟩ := hrng _ (List.getElem_mem hj')
            obtain ⟨p1, _⟩ := hspec ((prow N b).take j) fun p hp => hrng p (List.mem_of_mem_take hp)
            have hle := uns_mono (n := N.length) p1.le
            have hsn := bvL_snoc N k (setS S b) (prow N b)[j] ((prow N b).take j)
            rw [← htl] at hsn
            generalize (prow N b)[j] = x at *
            obtain ⟨x', rfl⟩ := Int.eq_ofNat_of_zero_le hx0
            simp only [Int.toNat_natCast] at hx1 hsn
            have hf' := hV'.f
            simp only [VS, VD, SV, SL, T, Nat.reduceEqDiff, Nat.reduceAdd, Nat.reduceSub, Nat.reduceMul, Nat.reduceLeDiff, Nat.reduceLT, reduceIte, g4, g24, g26, hbu, hcu, hf', Int.toNat_natCast]
            refine ⟨by omega, ?_⟩
            refine oV_clo (xs := [.tmp 31]) (g := 50) (caps := #[.pointer (some ⟨m + 3, 0, none⟩), .pointer (some ⟨m + 1, 0, none⟩), .pointer (some ⟨m, 0, none⟩), .pointer (some ⟨m + 4, 0, none⟩)]) (by simp only [VS, VD, SV, SL, T, Nat.reduceEqDiff, Nat.reduceAdd, Nat.reduceSub, Nat.reduceMul, Nat.reduceLeDiff, Nat.reduceLT, reduceIte]) T.en50 ?_
            simp only [VS, VD, SV, SL, T, Nat.reduceEqDiff, Nat.reduceAdd, Nat.reduceSub, Nat.reduceMul, Nat.reduceLeDiff, Nat.reduceLT, reduceIte]
            refine (ih (bvL N k (setS S b) ((prow N b).take j)) x' hx1 (by omega) w' hV').mono ?_
            rintro _ w2 hV2
            simp only [VS, VD, SV, SL, T, Nat.reduceEqDiff, Nat.reduceAdd, Nat.reduceSub, Nat.reduceMul, Nat.reduceLeDiff, Nat.reduceLT, reduceIte, g1, g2, g3, g4, g24, g25, g26]
            exact ⟨by omega, j + 1, ⟨by simp, by omega, by rw [hsn]; exact hV2⟩, by omega⟩
          · rw [decide_eq_false hlt]
            rw [List.take_of_length_le (by omega)] at hV'
            simp only [VS, VD, SV, SL, T, Nat.reduceEqDiff, Nat.reduceAdd, Nat.reduceSub, Nat.reduceMul, Nat.reduceLeDiff, Nat.reduceLT, reduceIte]
            exact hΨ _ _ hV'
/-- a strictly ascending list is what sorting any arrangement of it gives -/
theorem sort_perm {L K : List Int} (hp : L.Perm K) (hK : K.Pairwise (· < ·)) : sortI L = K := by
  have h1 : (sortI L).Pairwise (fun x y => decide (x ≤ y) = true) := List.pairwise_mergeSort (by intro a b c; simp; omega) (by intro a b; simp; omega) L
  refine List.Perm.eq_of_pairwise (le := fun x y => x ≤ y) ?_ (h1.imp (by simp)) (hK.imp (by omega)) ((List.mergeSort_perm L _).trans hp)
  intro a b _ _ h1 h2
  omega
/-- the numbers below n of a kind, ascending -/
def ascL (n : Nat) (p : Nat → Bool) : List Int := ((List.range n).filter p).map Int.ofNat
theorem ascL_asc (n : Nat) (p : Nat → Bool) : Asc (ascL n p) := by
  unfold ascL Asc
  rw [List.pairwise_map]
  exact (List.pairwise_lt_range.filter _).imp fun h => by simpa using h
theorem ascL_mem {n : Nat} {p : Nat → Bool} {x : Int} : x ∈ ascL n p ↔ ∃ b : Nat, x = b ∧ b < n ∧ p b = true := by
  unfold ascL
  rw [List.mem_map]
  constructor
  · rintro ⟨b, hb, rfl⟩
    rw [List.mem_filter, List.mem_range] at hb
    exact ⟨b, rfl, hb⟩
  · rintro ⟨b, rfl, h1, h2⟩
    exact ⟨b, by rw [List.mem_filter, List.mem_range]; exact ⟨h1, h2⟩, rfl⟩
theorem ascL_len (n : Nat) (p : Nat → Bool) : (ascL n p).length ≤ n := by
  unfold ascL
  rw [List.length_map]
  have := List.length_filter_le p (List.range n)
  rwa [List.length_range] at this
/-- the keys of a set of blocks, sorted -/
theorem keys_sorted {l : List Ent} {c n : Nat} (hw : MWF l c) {S : Nat → Bool} (hS : ∀ k, mget l k = if SN S k = true then some (.bool true) else none) (hn : ∀ x, S x = true → x < n) : sortI (l.map (·.1)) = ascL n S ∧ l.length ≤ n ∧ ∀ p ∈ l, 0 ≤ p.1 ∧ p.1 < n := by
  have hmem : ∀ k : Int, k ∈ l.map (·.1) ↔ k ∈ ascL n S := fun k => by
    rw [ascL_mem]
    constructor
    · intro h
      obtain ⟨p, hp, rfl⟩ := List.mem_map.1 h
      have h1 := mget_mem hw.keys hp
      rw [hS] at h1
      split at h1
      · rename_i h2
        simp only [SN, Bool.and_eq_true, decide_eq_true_eq] at h2
        exact ⟨p.1.toNat, by omega, hn _ h2.2, h2.2⟩
      · cases h1
    · rintro ⟨b, rfl, h1, h2⟩
      have h3 := hS b
      rw [SN_at, if_pos h2] at h3
      obtain ⟨q, hq⟩ := mget_some_mem h3
      exact List.mem_map.2 ⟨_, hq, rfl⟩
  have hperm : (l.map (·.1)).Perm (ascL n S) := (List.perm_ext_iff_of_nodup hw.keys ((ascL_asc n S).imp fun h => by omega)).2 hmem
  refine ⟨sort_perm hperm (ascL_asc n S), ?_, fun p hp => ?_⟩
  · have := hperm.length_eq
    rw [List.length_map] at this
    have := ascL_len n S
    omega
  · obtain ⟨b, e, h1, _⟩ := ascL_mem.1 ((hmem p.1).1 (List.mem_map.2 ⟨p, hp, rfl⟩))
    omega
theorem own_base {w : World} {b b' : Nat} {v : Value} {L : List Int} (h : IntO b w v L) (hb : b' ≤ b) : IntO b' w v L := by
  obtain ⟨h1, h2⟩ := h
  refine ⟨h1, ?_⟩
  rcases h2 with h2 | ⟨g, cap, cur, e, q1, q2⟩
  · exact .inl h2
  · exact .inr ⟨g, cap, cur, e, Nat.le_trans hb q1, q2⟩
set_option maxRecDepth 10000 in
theorem body_spec {N : List (List Int)} (hN : NOk N) (h0 : 0 < N.length) (hN2 : ∀ l ∈ N, l.length ≤ 2) (hn : N.length ≤ 2000000) {ba : Option Addr} {nb bc : Nat} {pa : Option Addr} {pc q : Nat} {h : Nat} (hh : h < N.length) {lt : List Int} (hlt : ∀ p ∈ lt, 0 ≤ p ∧ p.toNat < N.length) (hll : lt.length ≤ 100000000) (lv : Value) {P : Nat → Int} (hP : ∀ x, x < N.length → (P x < 0 ↔ rch N (-1) x = false)) (w : World)
    (hp : IntssAt w (.slice pa N.length pc) (prevOf N)) (hL : IntsAt w lv lt) (hq : IB w q N.length P) :
    VRet Try.prog 33 #[.agg #[.slice ba nb bc, .slice pa N.length pc], .int .i64 h, lv, .slice (some ⟨q, 0, none⟩) N.length N.length] w fun v w' => IntO w.heap.size w' v (ascL N.length (bdS N h lt)) ∧ Ext w w' := by
  obtain ⟨la, lc, rfl⟩ := hL.form
  refine VRet_start T.mo ok33 rfl fun Ψ hΨ => ?_; simp only [vc33, rs33]
  simp only [VS, VD, SV, SL, T, Nat.reduceEqDiff, Nat.reduceAdd, Nat.reduceSub, Nat.reduceMul, Nat.reduceLeDiff, Nat.reduceLT, reduceIte]
  rw [oV_insert]
  simp only [VS, VD, SV, SL, T, Nat.reduceEqDiff, Nat.reduceAdd, Nat.reduceSub, Nat.reduceMul, Nat.reduceLeDiff, Nat.reduceLT, reduceIte]
  have e0 : (fun _ => false : Int → Bool) = SN (fun _ => false) := by funext k; simp [SN]
  have hS := SetM.new ((w.alloc (.cells #[.slice ba nb bc, .slice pa N.length pc] 25)).alloc (.cells #[.slice (some ⟨q, 0, none⟩) N.length N.length] 36))
  rw [e0, alloc_size, alloc_size] at hS
  have hg3 : (((w.alloc (.cells #[.slice ba nb bc, .slice pa N.length pc] 25)).alloc (.cells #[.slice (some ⟨q, 0, none⟩) N.length N.length] 36)).alloc (.map #[] 0)).heap[w.heap.size]? = some (.cells #[.slice ba nb bc, .slice pa N.length pc] 25 (0, 0)) := by simp only [VS, VD, SV, SL, T, Nat.reduceEqDiff, Nat.reduceAdd, Nat.reduceSub, Nat.reduceMul, Nat.reduceLeDiff, Nat.reduceLT, reduceIte]
  have hp3 : (((w.alloc (.cells #[.slice ba nb bc, .slice pa N.length pc] 25)).alloc (.cells #[.slice (some ⟨q, 0, none⟩) N.length N.length] 36)).alloc (.map #[] 0)).heap[w.heap.size + 1]? = some (.cells #[.slice (some ⟨q, 0, none⟩) N.length N.length] 36 (0, 0)) := by simp only [VS, VD, SV, SL, T, Nat.reduceEqDiff, Nat.reduceAdd, Nat.reduceSub, Nat.reduceMul, Nat.reduceLeDiff, Nat.reduceLT, reduceIte]
  have hs3 : (((w.alloc (.cells #[.slice ba nb bc, .slice pa N.length pc] 25)).alloc (.cells #[.slice (some ⟨q, 0, none⟩) N.length N.length] 36)).alloc (.map #[] 0)).heap.size = w.heap.size + 3 := by simp only [VS, VD, SV, SL, T, Nat.reduceEqDiff, Nat.reduceAdd, Nat.reduceSub, Nat.reduceMul, Nat.reduceLeDiff, Nat.reduceLT, reduceIte]
  have hE3 := (((Ext.refl w).alloc (.cells #[.slice ba nb bc, .slice pa N.length pc] 25)).alloc (.cells #[.slice (some ⟨q, 0, none⟩) N.length N.length] 36)).alloc (.map #[] 0)
  generalize (((w.alloc (.cells #[.slice ba nb bc, .slice pa N.length pc] 25)).alloc (.cells #[.slice (some ⟨q, 0, none⟩) N.length N.length] 36)).alloc (.map #[] 0)) = w3 at *
  have hS2 : SetM w3 (w.heap.size + 2) (SN fun _ => false) := hS
  refine hS2.put h ?_
  rintro w4 ⟨o, rfl⟩ hS4
  rw [SN_set] at hS4
  have hE4 := hE3.putb (b := w.heap.size + 2) (by omega) o
  have hg4 : (w3.putb (w.heap.size + 2) o).heap[w.heap.size]? = _ := (putb_get_ne (by omega) o).trans hg3
  have hp4 : (w3.putb (w.heap.size + 2) o).heap[w.heap.size + 1]? = _ := (putb_get_ne (by omega) o).trans hp3
  have hs4 : (w3.putb (w.heap.size + 2) o).heap.size = w.heap.size + 3 := by rw [putb_size]; exact hs3
  generalize w3.putb (w.heap.size + 2) o = w4 at *
  simp only [VS, VD, SV, SL, T, Nat.reduceEqDiff, Nat.reduceAdd, Nat.reduceSub, Nat.reduceMul, Nat.reduceLeDiff, Nat.reduceLT, reduceIte, hs4]
  refine oV_mkf (caps := [.tmp 9, .tmp 7, .tmp 4, .tmp 10]) ?_
  simp only [VS, VD, SV, SL, T, Nat.reduceEqDiff, Nat.reduceAdd, Nat.reduceSub, Nat.reduceMul, Nat.reduceLeDiff, Nat.reduceLT, reduceIte, hs4]
  have hun : ∀ S, uns N.length S < N.length + 1 := fun S => by
    have : uns N.length S ≤ N.length := by
      unfold uns
      have h2 := List.length_filter_le (fun i => !S i) (List.range N.length)
      rwa [List.length_range] at h2
    omega
  refine loop_cB (fun g w' => g 9 = .pointer (some ⟨w.heap.size + 3, 0, none⟩) ∧ Vb w w.heap.size (.slice ba nb bc) (.slice pa N.length pc) q N.length w' (bdS N h lt)) ?_ ?_
  · refine LoopP_intro (α := Nat) (fun j g w' => g 9 = .pointer (some ⟨w.heap.size + 3, 0, none⟩) ∧ g 10 = .pointer (some ⟨w.heap.size + 4, 0, none⟩) ∧ g 17 = .slice la lt.length lc ∧ g 18 = .int .i64 lt.length ∧ g 19 = .int .i64 j ∧ j ≤ lt.length ∧ Vb w w.heap.size (.slice ba nb bc) (.slice pa N.length pc) q N.length w' (bvL N (N.length + 1) (setS (fun _ => false) h) (lt.take j))) (fun j => lt.length - j) 0 ?_ ?_
    · simp only [VS, VD, SV, SL, T, Nat.reduceEqDiff, Nat.reduceAdd, Nat.reduceSub, Nat.reduceMul, Nat.reduceLeDiff, Nat.reduceLT, reduceIte, hs4]
      refine ⟨rfl, Nat.zero_le _, ?_⟩
      refine ⟨?_, ?_, ?_, ?_, ?_, ?_⟩
      · exact (((hE4.alloc _).putb (by omega) _).alloc _).putb (by omega) _
      · simp only [VS, VD, SV, SL, T, Nat.reduceEqDiff, Nat.reduceAdd, Nat.reduceSub, Nat.reduceMul, Nat.reduceLeDiff, Nat.reduceLT, reduceIte, hs4, hg4]
      · simp only [VS, VD, SV, SL, T, Nat.reduceEqDiff, Nat.reduceAdd, Nat.reduceSub, Nat.reduceMul, Nat.reduceLeDiff, Nat.reduceLT, reduceIte, hs4, hp4]
      · simp only [VS, VD, SV, SL, T, Nat.reduceEqDiff, Nat.reduceAdd, Nat.reduceSub, Nat.reduceMul, Nat.reduceLeDiff, Nat.reduceLT, reduceIte, hs4]
      · simp only [VS, VD, SV, SL, T, Nat.reduceEqDiff, Nat.reduceAdd, Nat.reduceSub, Nat.reduceMul, Nat.reduceLeDiff, Nat.reduceLT, reduceIte, hs4]
      · refine hS4.heap ?_
        have n1 : ¬ w.heap.size + 2 = w.heap.size + 4 := by omega
        have n2 : ¬ w.heap.size + 2 = w.heap.size + 3 := by omega
        simp only [VS, VD, SV, SL, T, Nat.reduceEqDiff, Nat.reduceAdd, Nat.reduceSub, Nat.reduceMul, Nat.reduceLeDiff, Nat.reduceLT, reduceIte, hs4, n1, n2]
    · rintro j g w' ⟨g9, g10, g17, g18, g19, hj, hV⟩
      simp only [VS, VD, SV, SL, T, Nat.reduceEqDiff, Nat.reduceAdd, Nat.reduceSub, Nat.reduceMul, Nat.reduceLeDiff, Nat.reduceLT, reduceIte, g18, g19]
      by_cases hjl : (j : Int) < lt.length
      · rw [decide_eq_true hjl]
        have hj' : j < lt.length := by omega
        obtain ⟨bu, ou, cu, eu, fu, rfl, _, hbu, hcu⟩ := (hL.ext hV.ext).get (i := j) (x := lt[j]) (by simp [hj'])
        have htl : lt.take (j + 1) = lt.take j ++ [lt[j]] := List.take_succ_eq_append_getElem hj'
        obtain ⟨hx0, hx1⟩ := hlt _ (List.getElem_mem hj')
        have hsn := bvL_snoc N (N.length + 1) (setS (fun _ => false) h) lt[j] (lt.take j)
        rw [← htl] at hsn
        generalize lt[j] = x at *
        obtain ⟨x', rfl⟩ := Int.eq_ofNat_of_zero_le hx0
        simp only [Int.toNat_natCast] at hx1 hsn
        have hf' := hV.f
        simp only [VS, VD, SV, SL, T, Nat.reduceEqDiff, Nat.reduceAdd, Nat.reduceSub, Nat.reduceMul, Nat.reduceLeDiff, Nat.reduceLT, reduceIte, g10, g17, g19, hbu, hcu, hf', Int.toNat_natCast]
        refine ⟨by omega, ?_⟩
        refine oV_clo (xs := [.tmp 24]) (g := 50) (caps := #[.pointer (some ⟨w.heap.size + 3, 0, none⟩), .pointer (some ⟨w.heap.size + 1, 0, none⟩), .pointer (some ⟨w.heap.size, 0, none⟩), .pointer (some ⟨w.heap.size + 4, 0, none⟩)]) (by simp only [VS, VD, SV, SL, T, Nat.reduceEqDiff, Nat.reduceAdd, Nat.reduceSub, Nat.reduceMul, Nat.reduceLeDiff, Nat.reduceLT, reduceIte]) T.en50 ?_
        simp only [VS, VD, SV, SL, T, Nat.reduceEqDiff, Nat.reduceAdd, Nat.reduceSub, Nat.reduceMul, Nat.reduceLeDiff, Nat.reduceLT, reduceIte]
        refine (bvisit_spec hN hN2 hn (Nat.le_refl _) hp hq hP (N.length + 1) (bvL N (N.length + 1) (setS (fun _ => false) h) (lt.take j)) x' hx1 (hun _) w' hV).mono ?_
        rintro _ w2 hV2
        simp only [VS, VD, SV, SL, T, Nat.reduceEqDiff, Nat.reduceAdd, Nat.reduceSub, Nat.reduceMul, Nat.reduceLeDiff, Nat.reduceLT, reduceIte, g9, g10, g17, g18, g19]
        exact ⟨by omega, j + 1, ⟨by simp, by omega, by rw [hsn]; exact hV2⟩, by omega⟩
      · rw [decide_eq_false hjl]
        rw [List.take_of_length_le (by omega)] at hV
        simp only [VS, VD, SV, SL, T, Nat.reduceEqDiff, Nat.reduceAdd, Nat.reduceSub, Nat.reduceMul, Nat.reduceLeDiff, Nat.reduceLT, reduceIte, g9]
        exact hV
  · rintro g w5 ⟨g9, hV⟩
    have hmp := hV.mp
    simp only [VS, VD, SV, SL, T, Nat.reduceEqDiff, Nat.reduceAdd, Nat.reduceSub, Nat.reduceMul, Nat.reduceLeDiff, Nat.reduceLT, reduceIte, g9, hmp]
    refine (KeysB_spec (w.heap.size + 2) w5).mono ?_
    rintro _ w6 ⟨rfl, rfl⟩
    obtain ⟨l, c, h1, h2, h3⟩ := hV.s
    obtain ⟨k1, k2, k3⟩ := keys_sorted h2 h3 (n := N.length) (fun x hx => by
      rcases (bdS_iff hN h0 hlt x).1 hx with e | e
      · omega
      · exact RE.lt hN h0 e.re)
    simp only [VS, VD, SV, SL, T, Nat.reduceEqDiff, Nat.reduceAdd, Nat.reduceSub, Nat.reduceMul, Nat.reduceLeDiff, Nat.reduceLT, reduceIte]
    refine (SortedB_spec w5.heap.size (w.heap.size + 2) h2 (by omega) (fun p hp => by have := k3 p hp; omega) _ (alloc_get_new _ _) (by rw [alloc_get_lt (get_lt h1)]; exact h1)).mono ?_
    rintro v7 w7 ⟨hO7, hE7⟩
    rw [k1] at hO7
    obtain ⟨va, vc, rfl⟩ := own_form hO7
    simp only [VS, VD, SV, SL, T, Nat.reduceEqDiff, Nat.reduceAdd, Nat.reduceSub, Nat.reduceMul, Nat.reduceLeDiff, Nat.reduceLT, reduceIte]
    refine hΨ _ _ ⟨own_base hO7 (by have := hV.ext.size; rw [alloc_size]; omega), (hV.ext.alloc _).trans hE7⟩
end Go.Proofs.Ytlhlbiaibgmapaa
set_option linter.unusedSimpArgs false
set_option linter.unusedVariables false
namespace Go.Proofs.Ytlhlbiaibgmapaa
open Go.W Go.RowKit
theorem own_cells {base : Nat} {w : World} {v : Value} {L : List Int} (h : IntO base w v L) {b : Nat} (hb : v.ownBlock = some b) : ∃ cs, w.heap[b]? = some (.cells cs 3 (0, 0)) := by
  obtain ⟨h1, h2⟩ := h
  rcases h2 with ⟨rfl, _⟩ | ⟨g, cap, cur, rfl, q1, q2, _⟩
  · cases hb
  · simp only [Value.ownBlock, Option.some.injEq] at hb
    subst hb
    exact ⟨_, q2⟩
def LMap (base : Nat) (w : World) (r : Nat) (L : Int → List Int) : Prop :=
  ∃ l c, w.heap[r]? = some (.map (mk l) c) ∧ MWF l c ∧ base ≤ r ∧ (∀ p ∈ l, L p.1 ≠ [] ∧ IntO base w p.2.1 (L p.1)) ∧ (∀ k, L k ≠ [] → ∃ p ∈ l, p.1 = k) ∧ ∀ p ∈ l, ∀ q ∈ l, p.1 ≠ q.1 → ∀ b, p.2.1.ownBlock = some b → q.2.1.ownBlock ≠ some b
theorem LMap.lt {base : Nat} {w : World} {r : Nat} {L : Int → List Int} (h : LMap base w r L) : r < w.heap.size := by
  obtain ⟨l, c, h1, _⟩ := h
  exact get_lt h1
theorem LMap.ext {base : Nat} {w w' : World} {r : Nat} {L : Int → List Int} (h : LMap base w r L) (hE : Ext w w') : LMap base w' r L := by
  obtain ⟨l, c, h1, h2, h3, h4, h5, h6⟩ := h
  exact ⟨l, c, hE.obj h1, h2, h3, fun p hp => ⟨(h4 p hp).1, own_ext (h4 p hp).2 hE⟩, h5, h6⟩
theorem LMap.new (w : World) : LMap w.heap.size (w.alloc (.map #[] 0)) w.heap.size (fun _ => []) := ⟨[], 0, by rw [alloc_get_new]; rfl, ⟨by simp, by simp, by simp⟩, Nat.le_refl _, by simp, fun k h => (h rfl).elim, by simp⟩
/-- what a key has -/
theorem LMap.at {base : Nat} {w : World} {r : Nat} {L : Int → List Int} {l : List Ent} {c : Nat} (h1 : w.heap[r]? = some (.map (mk l) c)) (h2 : MWF l c) (h4 : ∀ p ∈ l, L p.1 ≠ [] ∧ IntO base w p.2.1 (L p.1)) (h5 : ∀ k, L k ≠ [] → ∃ p ∈ l, p.1 = k) (k : Int) :
    IntO base w ((mget l k).getD (.slice none 0 0)) (L k) := by
  cases hm : mget l k with
  | some u =>
    obtain ⟨b, hb⟩ := mget_some_mem hm
    exact (h4 _ hb).2
  | none =>
    have hL : L k = [] := by
      apply Classical.byContradiction
      intro hne
      obtain ⟨p, hp, e⟩ := h5 k hne
      exact mget_none.1 hm p hp e
    rw [hL]
    exact World.ownsRow_nil _ _ _ _
set_option maxRecDepth 10000 in
theorem LMap.look {base : Nat} {w : World} {r : Nat} {L : Int → List Int} (h : LMap base w r L) (k : Int) {κ : Value → World → Prop} (hk : ∀ u, IntO base w u (L k) → κ u w) : RunV Try.prog w κ (Instr.lookup 62 (.map (some r)) (.int .i64 k) false) := by
  obtain ⟨l, c, h1, h2, h3, h4, h5, h6⟩ := h
  refine rV_lookup T.me62 T.zr36 h1 ?_
  exact hk _ (LMap.at h1 h2 h4 h5 k)
set_option maxRecDepth 10000 in
/-- look up, append one, store -/
theorem LMap.app {base : Nat} {w : World} {r : Nat} {L : Int → List Int} (h : LMap base w r L) (k x : Int) {κ : Value → World → Prop}
    (hk : ∀ u, IntO base w u (L k) → (∀ v' w', IntO base w' v' (L k ++ [x]) → w.grownBy w' u.ownBlock → (∀ b, v'.ownBlock = some b → u.ownBlock = some b ∨ w.heap.size ≤ b) →
      ∀ κ' : Value → World → Prop, (∀ w'', (∃ o, w'' = w'.putb r o) → LMap base w'' r (fun j => if j = k then L k ++ [x] else L j) → κ' undef w'') → RunU Try.prog w' κ' (Instr.mapUpdate 62 (.map (some r)) (.int .i64 k) v')) → κ u w) :
    RunV Try.prog w κ (Instr.lookup 62 (.map (some r)) (.int .i64 k) false) := by
  obtain ⟨l, c, h1, h2, h3, h4, h5, h6⟩ := h
  refine rV_lookup T.me62 T.zr36 h1 ?_
  have hu := LMap.at h1 h2 h4 h5 k
  refine hk _ hu ?_
  intro v' w' ho hg hn κ' hκ
  simp only [Bool.false_eq_true, if_false] at hg hn
  generalize hue : (mget l k).getD (.slice none 0 0) = u at *
  have hrl := get_lt h1
  have hur : u.ownBlock ≠ some r := fun e => by
    obtain ⟨cs, hc⟩ := own_cells hu e
    rw [h1] at hc; cases hc
  have h1' : w'.heap[r]? = some (.map (mk l) c) := by rw [hg.block r hrl (fun e => hur e.symm)]; exact h1
  have hrl' := get_lt h1'
  have hvr : v'.ownBlock ≠ some r := fun e => (hn r e).elim hur (by omega)
  have hup : ∀ q ∈ l, q.1 ≠ k → ∀ b, u.ownBlock = some b → q.2.1.ownBlock ≠ some b := fun q hq hne b hb => by
    cases hm : mget l k with
    | some u' =>
      obtain ⟨i, hi⟩ := mget_some_mem hm
      rw [hm] at hue
      obtain rfl : u' = u := hue
      exact h6 _ hi q hq (fun e => hne e.symm) b hb
    | none =>
      rw [hm] at hue
      obtain rfl : Value.slice none 0 0 = u := hue
      cases hb
  refine rV_update T.me62 h1' h2.keys ?_
  have hset := h2.set k v'
  have hmem : ∀ p ∈ (mset l c k v').1, (p.1 = k ∧ p.2.1 = v') ∨ (p.1 ≠ k ∧ ∃ b, (p.1, p.2.1, b) ∈ l) := fun p hp => by
    have hm := mget_mem hset.keys hp
    rw [mget_mset] at hm
    by_cases e : p.1 = k
    · rw [if_pos e] at hm
      exact .inl ⟨e, (Option.some.inj hm).symm⟩
    · rw [if_neg e] at hm
      exact .inr ⟨e, mget_some_mem hm⟩
  refine hκ _ ⟨_, rfl⟩ ⟨_, _, by rw [get_putb _ _ _ _ hrl', if_pos rfl], h2.set k v', h3, fun p hp => ?_, fun j hj => ?_, fun p hp q hq hne b hb => ?_⟩
  · simp only []
    rcases hmem p hp with ⟨e1, e2⟩ | ⟨e1, b, hb⟩
    · rw [if_pos e1, e2]
      refine ⟨by simp, own_at ho fun b hb => putb_get_ne (by rintro rfl; exact hvr hb) _⟩
    · rw [if_neg e1]
      obtain ⟨q1, q2⟩ := h4 _ hb
      refine ⟨q1, own_at q2 fun x hx => ?_⟩
      have hxr : x ≠ r := by
        rintro rfl
        obtain ⟨cs, hc⟩ := own_cells q2 hx
        rw [h1] at hc; cases hc
      rw [putb_get_ne hxr, hg.block x (q2.lt x hx).2 (fun e => hup _ hb e1 x e.symm hx)]
  · by_cases e : j = k
    · have : mget (mset l c k v').1 j = some v' := by rw [mget_mset, if_pos e]
      obtain ⟨b, hb⟩ := mget_some_mem this
      exact ⟨_, hb, rfl⟩
    · simp only [] at hj
      rw [if_neg e] at hj
      obtain ⟨p, hp, hpj⟩ := h5 j hj
      have h7 := mget_mem h2.keys hp
      rw [hpj] at h7
      have : mget (mset l c k v').1 j = some p.2.1 := by rw [mget_mset, if_neg e]; exact h7
      obtain ⟨b, hb⟩ := mget_some_mem this
      exact ⟨_, hb, rfl⟩
  · rcases hmem p hp with ⟨e1, e2⟩ | ⟨e1, bp, hbp⟩
    · rcases hmem q hq with ⟨e3, e4⟩ | ⟨e3, bq, hbq⟩
      · exact (hne (by rw [e1, e3])).elim
      · rw [e2] at hb
        rcases hn b hb with h8 | h8
        · exact hup _ hbq e3 b h8
        · intro h9
          have := ((h4 _ hbq).2.lt b h9).2
          omega
    · rcases hmem q hq with ⟨e3, e4⟩ | ⟨e3, bq, hbq⟩
      · rw [e4]
        intro h9
        rcases hn b h9 with h8 | h8
        · exact hup _ hbp e1 b h8 hb
        · have := ((h4 _ hbp).2.lt b hb).2
          omega
      · exact h6 _ hbp _ hbq hne b hb
end Go.Proofs.Ytlhlbiaibgmapaa
set_option linter.unusedSimpArgs false
set_option linter.unusedVariables false
namespace Go.Proofs.Ytlhlbiaibgmapaa
open Go.W Go.RowKit
/-- a retreating edge of a reached block -/
def isR (N : List (List Int)) (e : Int × Int) : Bool := rch N (-1) e.1.toNat && decide (PO N e.2.toNat ≤ PO N e.1.toNat)
def badE (N : List (List Int)) (e : Int × Int) : Bool := isR N e && !rdom N e.2.toNat e.1.toNat
def latL (N : List (List Int)) (E : List (Int × Int)) (h : Int) : List Int := (E.filter fun e => isR N e && decide (e.2 = h)).map (·.1)
def lat (N : List (List Int)) (h : Int) : List Int := latL N (edg 0 N) h
def hsL (N : List (List Int)) : List Int := ascL N.length fun b => decide (lat N b ≠ [])
def rowF (N : List (List Int)) (h p : Int) : Lp := (h, ascL N.length (bdS N h.toNat (lat N h)), lat N h, p)
/-- the list while the parents are being written; i are written -/
def parN (N : List (List Int)) (j : Nat) : Int := parF ((hsL N).map fun h => rowF N h (-1)) (rowF N ((hsL N).getD j 0) (-1)) (hsL N).length
def lstF (N : List (List Int)) (i : Nat) : List Lp := (List.range (hsL N).length).map fun j => rowF N ((hsL N).getD j 0) (if j < i then parN N j else -1)
def fnd (N : List (List Int)) : List Lp := lstF N (hsL N).length
theorem latL_snoc (N : List (List Int)) (E : List (Int × Int)) (e : Int × Int) (h : Int) : latL N (E ++ [e]) h = latL N E h ++ if (isR N e && decide (e.2 = h)) = true then [e.1] else [] := by
  unfold latL
  rw [List.filter_append, List.map_append]
  congr 1
  cases hc : isR N e && decide (e.2 = h) <;> simp [hc]
theorem latL_mem {N : List (List Int)} {E : List (Int × Int)} {h x : Int} : x ∈ latL N E h ↔ (x, h) ∈ E ∧ isR N (x, h) = true := by
  unfold latL
  rw [List.mem_map]
  constructor
  · rintro ⟨⟨a, b⟩, h1, rfl⟩
    rw [List.mem_filter] at h1
    obtain ⟨h1, h2⟩ := h1
    simp only [Bool.and_eq_true, decide_eq_true_eq] at h2
    obtain ⟨h2, rfl⟩ := h2
    exact ⟨h1, h2⟩
  · rintro ⟨h1, h2⟩
    exact ⟨(x, h), List.mem_filter.2 ⟨h1, by simp [h2]⟩, rfl⟩
theorem latL_len (N : List (List Int)) (E : List (Int × Int)) (h : Int) : (latL N E h).length ≤ E.length := by
  unfold latL
  rw [List.length_map]
  exact List.length_filter_le _ _
theorem edg_len : ∀ (N : List (List Int)) (k : Nat), (∀ l ∈ N, l.length ≤ 2) → (edg k N).length ≤ 2 * N.length
  | [], k, _ => by simp [edg]
  | l :: N, k, h => by
    have h1 := h l (by simp)
    have h2 := edg_len N (k + 1) fun m hm => h m (by simp [hm])
    rw [edg, List.length_append, List.length_map, List.length_cons]
    omega
theorem edg_rng {N : List (List Int)} (hN : NOk N) {e : Int × Int} (he : e ∈ edg 0 N) : ∃ a b : Nat, e = ((a : Int), (b : Int)) ∧ a < N.length ∧ b < N.length ∧ ED N a b := by
  obtain ⟨i, h1, h2, h3⟩ := (edg_mem N 0 e).1 he
  have hm : N.getD i [] ∈ N := by
    rw [List.getD_eq_getElem?_getD, List.getElem?_eq_getElem h1]
    exact List.getElem_mem h1
  have h4 := hN _ hm e.2 h3
  obtain ⟨e1, e2⟩ := e
  simp only [Nat.zero_add] at h2 h3 h4
  obtain ⟨b, rfl⟩ := Int.eq_ofNat_of_zero_le (show 0 ≤ e2 by omega)
  exact ⟨i, b, by rw [h2], h1, by omega, h3⟩
theorem lat_rng {N : List (List Int)} (hN : NOk N) {h x : Int} (hx : x ∈ lat N h) : (0 ≤ x ∧ x.toNat < N.length) ∧ 0 ≤ h ∧ h.toNat < N.length := by
  obtain ⟨a, b, e, h1, h2, _⟩ := edg_rng hN (latL_mem.1 hx).1
  simp only [Prod.mk.injEq] at e
  omega
theorem hsL_len (N : List (List Int)) : (hsL N).length ≤ N.length := ascL_len _ _
theorem hsL_mem {N : List (List Int)} (hN : NOk N) {h : Int} : h ∈ hsL N ↔ lat N h ≠ [] := by
  unfold hsL
  rw [ascL_mem]
  constructor
  · rintro ⟨b, rfl, _, h2⟩
    simpa using h2
  · intro hne
    obtain ⟨x, hx⟩ := List.exists_mem_of_ne_nil _ hne
    obtain ⟨_, h1, h2⟩ := lat_rng hN hx
    exact ⟨h.toNat, by omega, h2, by rw [show ((h.toNat : Nat) : Int) = h by omega]; simpa using hne⟩
theorem lstF_len (N : List (List Int)) (i : Nat) : (lstF N i).length = (hsL N).length := by unfold lstF; simp
theorem lstF_get {N : List (List Int)} {i j : Nat} (hj : j < (hsL N).length) : (lstF N i)[j]? = some (rowF N ((hsL N).getD j 0) (if j < i then parN N j else -1)) := by
  unfold lstF
  simp [hj]
theorem lstF_zero (N : List (List Int)) : lstF N 0 = (hsL N).map fun h => rowF N h (-1) := by
  refine List.ext_getElem? fun j => ?_
  by_cases hj : j < (hsL N).length
  · rw [lstF_get hj, if_neg (by omega), List.getElem?_map, List.getElem?_eq_getElem hj, List.getD_eq_getElem?_getD, List.getElem?_eq_getElem hj]
    rfl
  · rw [List.getElem?_eq_none (by rw [lstF_len]; omega), List.getElem?_eq_none (by rw [List.length_map]; omega)]
theorem parC_congr {o o' x x' : Lp} {L L' : List Lp} {p : Int} (ho : o.1 = o'.1 ∧ o.2.1 = o'.2.1) (hx : x.1 = x'.1 ∧ x.2.1 = x'.2.1) (hL : ∀ j, (L.getD j dLp).1 = (L'.getD j dLp).1 ∧ (L.getD j dLp).2.1 = (L'.getD j dLp).2.1) : parC o x L p ↔ parC o' x' L' p := by
  unfold parC bln
  rw [ho.1, ho.2, hx.1, hx.2, (hL _).2]
theorem parF_congr {o o' : Lp} {L L' : List Lp} (ho : o.1 = o'.1 ∧ o.2.1 = o'.2.1) (hL : ∀ j, (L.getD j dLp).1 = (L'.getD j dLp).1 ∧ (L.getD j dLp).2.1 = (L'.getD j dLp).2.1) : ∀ i, parF L o i = parF L' o' i
  | 0 => rfl
  | i + 1 => by
    rw [parF, parF, parF_congr ho hL i]
    have := parC_congr (p := parF L' o' i) ho (hL i) hL
    by_cases hc : parC o (L.getD i dLp) L (parF L' o' i)
    · rw [if_pos hc, if_pos (this.1 hc)]
    · rw [if_neg hc, if_neg fun h => hc (this.2 h)]
theorem lstF_strip (N : List (List Int)) (i i' j : Nat) : ((lstF N i).getD j dLp).1 = ((lstF N i').getD j dLp).1 ∧ ((lstF N i).getD j dLp).2.1 = ((lstF N i').getD j dLp).2.1 := by
  rw [List.getD_eq_getElem?_getD, List.getD_eq_getElem?_getD]
  by_cases hj : j < (hsL N).length
  · rw [lstF_get hj, lstF_get hj]
    exact ⟨rfl, rfl⟩
  · rw [List.getElem?_eq_none (by rw [lstF_len]; omega), List.getElem?_eq_none (by rw [lstF_len]; omega)]
    exact ⟨rfl, rfl⟩
/-- what parent gives while the parents are being written -/
theorem parN_of (N : List (List Int)) (i : Nat) {j : Nat} (hj : j < (lstF N i).length) : parF (lstF N i) (lstF N i)[j] (lstF N i).length = parN N j := by
  unfold parN
  rw [← lstF_zero, lstF_len]
  refine parF_congr ?_ (lstF_strip N i 0) _
  have h1 := lstF_get (N := N) (i := i) (j := j) (by rw [lstF_len] at hj; exact hj)
  rw [List.getElem?_eq_getElem hj] at h1
  rw [Option.some.inj h1]
  exact ⟨rfl, rfl⟩
abbrev lpR (x : Int × Value × Value × Int) : List Value := [.int .i64 x.1, x.2.1, x.2.2.1, .int .i64 x.2.2.2]
/-- loops in a row of one's own: the cells, and the lists behind them -/
def LpO (base : Nat) (w : World) (v : Value) (L : List Lp) : Prop :=
  ∃ us : List (Int × Value × Value × Int), OwnL lpR base 38 4 w v us ∧ us.length = L.length ∧ ∀ (j : Nat) (u : Int × Value × Value × Int) (x : Lp), us[j]? = some u → L[j]? = some x → u.1 = x.1 ∧ u.2.2.2 = x.2.2.2 ∧ IntO 0 w u.2.1 x.2.1 ∧ IntO 0 w u.2.2.1 x.2.2.1
theorem LpO.nil (base : Nat) (w : World) : LpO base w (.slice none 0 0) [] := ⟨[], OwnL.nil _ _ _ _ _, rfl, by simp⟩
theorem LpO.form {base : Nat} {w : World} {v : Value} {L : List Lp} (h : LpO base w v L) : ∃ a c, v = .slice a L.length c := by
  obtain ⟨us, h1, h2, _⟩ := h
  obtain ⟨a, c, e⟩ := h1.form
  exact ⟨a, c, by rw [e, h2]⟩
theorem LpO.ext {base : Nat} {w w' : World} {v : Value} {L : List Lp} (h : LpO base w v L) (hE : Ext w w') : LpO base w' v L := by
  obtain ⟨us, h1, h2, h3⟩ := h
  refine ⟨us, h1.ext hE, h2, fun j u x hu hx => ?_⟩
  obtain ⟨k1, k2, k3, k4⟩ := h3 j u x hu hx
  exact ⟨k1, k2, own_ext k3 hE, own_ext k4 hE⟩
/-- a list of integers does not lie in a row of loops -/
theorem ints_ne {b : Nat} {w : World} {v : Value} {L : List Int} (h : IntO b w v L) {g : Nat} {cs : Array Value} (hg : w.heap[g]? = some (.cells cs 38 (0, 0))) : v.ownBlock ≠ some g := fun e => by
  obtain ⟨cs', hc⟩ := own_cells h e
  rw [hg] at hc
  simp only [Option.some.injEq, Obj.cells.injEq] at hc
  exact absurd hc.2.1 (by decide)
theorem ownl_block {base : Nat} {w : World} {v : Value} {us : List (Int × Value × Value × Int)} (h : OwnL lpR base 38 4 w v us) {g : Nat} (hg : v.ownBlock = some g) : ∃ cs, w.heap[g]? = some (.cells cs 38 (0, 0)) := by
  obtain ⟨h1, h2⟩ := h
  rcases h2 with ⟨rfl, _⟩ | ⟨q, cap, cur, rfl, q1, q2, _⟩
  · cases hg
  · simp only [Value.ownBlock, Option.some.injEq] at hg
    subst hg
    exact ⟨_, q2⟩
/-- a list of integers stays while a row of loops grows -/
theorem ints_grown {b base : Nat} {w w' : World} {v v0 : Value} {L : List Int} {us : List (Int × Value × Value × Int)} (h : IntO b w v L) (ho : OwnL lpR base 38 4 w v0 us) (hg : w.grownBy w' v0.ownBlock) : IntO b w' v L :=
  own_at h fun x hx => hg.block x (h.lt x hx).2 fun e => by
    obtain ⟨cs, hc⟩ := ownl_block ho e.symm
    exact ints_ne h hc hx
end Go.Proofs.Ytlhlbiaibgmapaa
set_option linter.unusedSimpArgs false
set_option linter.unusedVariables false
namespace Go.Proofs.Ytlhlbiaibgmapaa
open Go.W Go.RowKit
theorem LpO.at {base : Nat} {w : World} {v : Value} {L : List Lp} (h : LpO base w v L) : LpsAt w v L := by
  obtain ⟨us, ho, hl, h⟩ := h
  have hs := ho.sl (fun _ => rfl)
  rcases hs with ⟨⟨a, c, h1⟩, h2⟩ | ⟨b, off, cap, h1, h2⟩
  · left
    refine ⟨⟨a, c, h1⟩, ?_⟩
    have : us = [] := by simpa using h2
    rw [this] at hl
    exact List.length_eq_zero_iff.1 hl.symm
  · refine .inr ⟨b, off, cap, by rw [h1, List.length_map, hl], fun i x hx => ?_⟩
    have hil := (List.getElem?_eq_some_iff.1 hx).1
    have hu : us[i]? = some (us[i]'(by omega)) := by simp
    have h3 := h2 i (lpR (us[i]'(by omega))) (by rw [List.getElem?_map, hu]; rfl)
    obtain ⟨k1, k2, k3, k4⟩ := h i _ x hu hx
    refine ⟨(us[i]'(by omega)).2.1, (us[i]'(by omega)).2.2.1, ?_, (IntO.ints k3), (IntO.ints k4)⟩
    rw [h3]
    simp [lpR, k1, k2]
set_option maxRecDepth 10000 in
theorem LpO.app {w : World} {κ : Value → World → Prop} {base : Nat} {v : Value} {L : List Lp} (hown : LpO base w v L) (hn : L.length + 1 ≤ 100000000) (hb : base ≤ w.heap.size) (x : Lp) {u u' : Value} (hu1 : IntO 0 w u x.2.1) (hu1' : IntO 0 w u' x.2.2.1)
    (h : ∀ v' w', LpO base w' v' (L ++ [x]) → (∀ w0, Ext w0 w → w0.heap.size ≤ base → Ext w0 w') → κ v' w') :
    RunV Try.prog (w.alloc (.cells #[.int .i64 x.1, u, u', .int .i64 x.2.2.2] 38 (0, 0))) κ (Builtin.append_ #[27, 27] 27 #[v, .slice (some ⟨w.heap.size, 0, none⟩) 1 1]) := by
  obtain ⟨us, ho, hl, h3⟩ := hown
  obtain ⟨ua, uc, hu⟩ := own_form hu1
  obtain ⟨ua', uc', hu'⟩ := own_form hu1'
  have hone : (lpR (x.1, u, u', x.2.2.2)).all Go.W.one = true := by subst hu hu'; rfl
  refine OwnL.appA (R := lpR) T.el27 T.sz38 T.by38 T.zr38 rfl (by omega) (ho.alloc (.cells #[.int .i64 x.1, u, u', .int .i64 x.2.2.2] 38 (0, 0))) (x.1, u, u', x.2.2.2) rfl hone (by omega) (by omega) (by rw [alloc_size]; omega) ?_ ?_
  · intro j y hy
    rw [add_mk, cell_mk, alloc_get_new]
    simpa using hy
  · intro v' w' ho' hx hg hnew
    have hG := grown_trans (World.grownBy_alloc w _ _) hg
    refine h v' w' ⟨_, ho', by simp [hl], fun j y z hy hz => ?_⟩ fun w0 hE h0 => hx w0 (hE.alloc _) h0
    by_cases hj : j < us.length
    · rw [List.getElem?_append_left hj] at hy
      rw [List.getElem?_append_left (by omega)] at hz
      obtain ⟨k1, k2, k3, k4⟩ := h3 j y z hy hz
      exact ⟨k1, k2, ints_grown k3 ho hG, ints_grown k4 ho hG⟩
    · rw [List.getElem?_append_right (by omega)] at hy
      rw [List.getElem?_append_right (by omega), ← hl] at hz
      have hj0 : j - us.length = 0 := by
        have := (List.getElem?_eq_some_iff.1 hy).1
        simp at this
        omega
      rw [hj0] at hy hz
      simp only [List.getElem?_cons_zero, Option.some.injEq] at hy hz
      subst hy hz
      exact ⟨rfl, rfl, ints_grown hu1 ho hG, ints_grown hu1' ho hG⟩
/-- the block of a row of loops -/
def LpB (w : World) (g : Nat) (L : List Lp) : Prop :=
  ∃ cs, w.heap[g]? = some (.cells cs 38 (0, 0)) ∧ L.length * 4 ≤ cs.size ∧ ∀ (j : Nat) (x : Lp), L[j]? = some x → ∃ u u', cs[j * 4]? = some (.int .i64 x.1) ∧ cs[j * 4 + 1]? = some u ∧ cs[j * 4 + 2]? = some u' ∧ cs[j * 4 + 3]? = some (.int .i64 x.2.2.2) ∧ IntO 0 w u x.2.1 ∧ IntO 0 w u' x.2.2.1
theorem LpB.ext {w w' : World} {g : Nat} {L : List Lp} (h : LpB w g L) (hE : Ext w w') : LpB w' g L := by
  obtain ⟨cs, h1, h2, h3⟩ := h
  refine ⟨cs, hE.obj h1, h2, fun j x hx => ?_⟩
  obtain ⟨u, u', k1, k2, k3, k4, k5, k6⟩ := h3 j x hx
  exact ⟨u, u', k1, k2, k3, k4, own_ext k5 hE, own_ext k6 hE⟩
theorem LpB.at {w : World} {g c : Nat} {L : List Lp} (h : LpB w g L) : LpsAt w (.slice (some ⟨g, 0, none⟩) L.length c) L := by
  obtain ⟨cs, h1, h2, h3⟩ := h
  refine .inr ⟨g, 0, c, rfl, fun i x hx => ?_⟩
  have hi := (List.getElem?_eq_some_iff.1 hx).1
  obtain ⟨u, u', k1, k2, k3, k4, k5, k6⟩ := h3 i x hx
  refine ⟨u, u', ?_, (IntO.ints k5), (IntO.ints k6)⟩
  rw [Nat.zero_add, rd_blk h1 (by omega)]
  congr 1
  apply Array.ext_getElem?
  intro k
  rw [Array.getElem?_extract]
  by_cases hk : k < 4
  · rw [if_pos (by omega)]
    rcases k with _ | _ | _ | _ | k
    · simpa using k1
    · simpa using k2
    · simpa using k3
    · simpa using k4
    · omega
  · rw [if_neg (by omega)]
    symm
    apply Array.getElem?_eq_none
    simp
    omega
theorem LpB.put {w : World} {g : Nat} {L L' : List Lp} {cs : Array Value} (h : LpB w g L) (hg : w.heap[g]? = some (.cells cs 38 (0, 0))) {j : Nat} {p : Int} (hj : j < L.length) (hl : L'.length = L.length) (hL : ∀ (i : Nat) (x x' : Lp), L[i]? = some x → L'[i]? = some x' → x'.1 = x.1 ∧ x'.2.1 = x.2.1 ∧ x'.2.2.1 = x.2.2.1 ∧ x'.2.2.2 = if i = j then p else x.2.2.2) :
    LpB (w.putb g (.cells (cs.setIfInBounds (j * 4 + 3) (.int .i64 p)) 38 (0, 0))) g L' := by
  obtain ⟨cs0, h1, h2, h3⟩ := h
  rw [hg] at h1
  simp only [Option.some.injEq, Obj.cells.injEq] at h1
  obtain ⟨rfl, _⟩ := h1
  refine ⟨_, by rw [get_putb _ _ _ _ (get_lt hg), if_pos rfl], by simp [hl, h2], fun i x' hx' => ?_⟩
  have hi := (List.getElem?_eq_some_iff.1 hx').1
  have hx : L[i]? = some (L[i]'(by omega)) := by simp
  obtain ⟨e1, e2, e3, e4⟩ := hL i _ x' hx hx'
  obtain ⟨u, u', k1, k2, k3, k4, k5, k6⟩ := h3 i _ hx
  have keep : ∀ {v : Value} {l : List Int}, IntO 0 w v l → IntO 0 (w.putb g (.cells (cs.setIfInBounds (j * 4 + 3) (.int .i64 p)) 38 (0, 0))) v l := fun {v l} ho => own_at ho fun y hy => putb_get_ne (by rintro rfl; exact ints_ne ho hg hy) _
  refine ⟨u, u', ?_, ?_, ?_, ?_, by rw [e2]; exact keep k5, by rw [e3]; exact keep k6⟩
  · rw [Array.getElem?_setIfInBounds, if_neg (by omega), e1]; exact k1
  · rw [Array.getElem?_setIfInBounds, if_neg (by omega)]; exact k2
  · rw [Array.getElem?_setIfInBounds, if_neg (by omega)]; exact k3
  · rw [Array.getElem?_setIfInBounds, e4]
    by_cases e : i = j
    · subst e
      rw [if_pos rfl, if_pos (by omega), if_pos rfl]
    · rw [if_neg (by omega), if_neg e]; exact k4
theorem LpO.blk {base : Nat} {w : World} {a : Option Addr} {n c : Nat} {L : List Lp} (h : LpO base w (.slice a n c) L) (hL : L ≠ []) : ∃ g, a = some ⟨g, 0, none⟩ ∧ base ≤ g ∧ LpB w g L := by
  obtain ⟨us, ho, hl, h3⟩ := h
  have hs := ho.sl (fun _ => rfl)
  obtain ⟨h1, h2⟩ := ho
  rcases h2 with ⟨_, h2⟩ | ⟨g, cap, cur, e, q1, q2, q3, q4, q5, q6⟩
  · have := List.length_pos_iff.2 hL; omega
  · simp only [Value.slice.injEq] at e
    obtain ⟨rfl, rfl, rfl⟩ := e
    refine ⟨g, rfl, q1, cur, q2, by omega, fun j x hx => ?_⟩
    have hj := (List.getElem?_eq_some_iff.1 hx).1
    have hu : us[j]? = some (us[j]'(by omega)) := by simp
    obtain ⟨k1, k2, k3, k4⟩ := h3 j _ x hu hx
    rcases hs with ⟨_, hs⟩ | ⟨b, off, cap2, hs1, hs2⟩
    · have : us = [] := by simpa using hs
      rw [this] at hl
      have := List.length_pos_iff.2 hL
      simp at hl
      omega
    · simp only [Value.slice.injEq, Option.some.injEq, Addr.mk.injEq, and_true] at hs1
      obtain ⟨⟨rfl, rfl⟩, _⟩ := hs1
      have h4 := hs2 j (lpR (us[j]'(by omega))) (by rw [List.getElem?_map, hu]; rfl)
      obtain ⟨cs, e, fz, h5, h6, h7⟩ := rd_obj h4
      rw [q2] at h5
      simp only [Option.some.injEq, Obj.cells.injEq] at h5
      obtain ⟨rfl, _⟩ := h5
      have key : ∀ k, k < 4 → cur[j * 4 + k]? = ((lpR (us[j]'(by omega))).toArray)[k]? := fun k hk => by
        have h8 := congrArg (fun a : Array Value => a[k]?) h7
        simp only [Array.getElem?_extract, Nat.zero_add] at h8
        rw [if_pos (by omega)] at h8
        exact h8
      refine ⟨_, _, ?_, ?_, ?_, ?_, k3, k4⟩
      · rw [← k1]; simpa using key 0 (by omega)
      · simpa using key 1 (by omega)
      · simpa using key 2 (by omega)
      · rw [← k2]; simpa using key 3 (by omega)
/-- the keys of a map of lists, sorted -/
theorem keysL_sorted {base : Nat} {w : World} {r n : Nat} {L : Int → List Int} (h : LMap base w r L) (hn : ∀ k, L k ≠ [] → 0 ≤ k ∧ k.toNat < n) (hn2 : n ≤ 2000000) :
    ∃ l c, w.heap[r]? = some (.map (mk l) c) ∧ MWF l c ∧ l.length ≤ 100000000 ∧ (∀ p ∈ l, i64r p.1) ∧ sortI (l.map (·.1)) = ascL n (fun b => decide (L b ≠ [])) := by
  obtain ⟨l, c, h1, hw, _, h4, h5, _⟩ := h
  have hmem : ∀ k : Int, k ∈ l.map (·.1) ↔ k ∈ ascL n (fun b => decide (L b ≠ [])) := fun k => by
    rw [ascL_mem]
    constructor
    · intro hk
      obtain ⟨p, hp, rfl⟩ := List.mem_map.1 hk
      have h6 := (h4 p hp).1
      obtain ⟨h7, h8⟩ := hn _ h6
      refine ⟨p.1.toNat, by omega, h8, ?_⟩
      rw [show ((p.1.toNat : Nat) : Int) = p.1 by omega]
      simpa using h6
    · rintro ⟨b, rfl, _, h7⟩
      obtain ⟨p, hp, e⟩ := h5 b (by simpa using h7)
      exact List.mem_map.2 ⟨p, hp, e⟩
  have hperm : (l.map (·.1)).Perm (ascL n (fun b => decide (L b ≠ []))) := (List.perm_ext_iff_of_nodup hw.keys ((ascL_asc n _).imp fun h => by omega)).2 hmem
  refine ⟨l, c, h1, hw, ?_, fun p hp => ?_, sort_perm hperm (ascL_asc n _)⟩
  · have := hperm.length_eq
    rw [List.length_map] at this
    have := ascL_len n (fun b => decide (L b ≠ []))
    omega
  · have := hn _ (h4 p hp).1
    omega
end Go.Proofs.Ytlhlbiaibgmapaa
set_option linter.unusedSimpArgs false
set_option linter.unusedVariables false
namespace Go.Proofs.Ytlhlbiaibgmapaa
open Go.W Go.RowKit
theorem ints_putb {w : World} {g o n c : Nat} {l : List Int} (h : IntsAt w (.slice (some ⟨g, o, none⟩) n c) l) {b : Nat} (hb : g ≠ b) (ob : Obj) : IntsAt (w.putb b ob) (.slice (some ⟨g, o, none⟩) n c) l := by
  rcases h with h | ⟨b', off, cap, h1, h2⟩
  · exact .inl h
  · refine .inr ⟨b', off, cap, h1, fun i x hx => ?_⟩
    simp only [Value.slice.injEq, Option.some.injEq, Addr.mk.injEq, and_true] at h1
    have := h2 i x hx
    rw [cell_mk] at this ⊢
    rw [putb_get_ne (by omega)]
    exact this
theorem pr_base {b b' : Nat} {w : World} {v : Value} {L : List (Int × Int)} (h : PrO b w v L) (hb : b' ≤ b) : PrO b' w v L := by
  obtain ⟨h1, h2⟩ := h
  refine ⟨h1, ?_⟩
  rcases h2 with h2 | ⟨g, cap, cur, e, q1, q2⟩
  · exact .inl h2
  · exact .inr ⟨g, cap, cur, e, Nat.le_trans hb q1, q2⟩
theorem pr_putb {base r : Nat} {w : World} {v : Value} {L : List (Int × Int)} (h : PrO base w v L) (hr : r < base) (o : Obj) : PrO base (w.putb r o) v L :=
  own_at h fun x hx => putb_get_ne (by have := (h.lt x hx).1; omega) _
theorem pr_grown {b base : Nat} {w w' : World} {v u : Value} {L : List (Int × Int)} {l : List Int} (h : PrO base w v L) (hu : IntO b w u l) (hg : w.grownBy w' u.ownBlock) : PrO base w' v L :=
  own_at h fun x hx => hg.block x (h.lt x hx).2 fun e => by
    obtain ⟨cs, hc⟩ := own_cells hu e.symm
    obtain ⟨h1, h2⟩ := h
    rcases h2 with ⟨rfl, _⟩ | ⟨q, cap, cur, rfl, q1, q2, _⟩
    · cases hx
    · simp only [Value.ownBlock, Option.some.injEq] at hx
      subst hx
      rw [hc] at q2
      simp only [Option.some.injEq, Obj.cells.injEq] at q2
      exact absurd q2.2.1 (by decide)
def FindQ (B : List Blk) (PV : List (List Int)) (v : Value) (w' : World) : Prop :=
  (VG B PV = false → v = .tuple #[.slice none 0 0, .int .i64 (-1), .int .i64 3]) ∧
  (VG B PV = true → (∀ e, (edg 0 (nx B)).find? (badE (nx B)) = some e → v = .tuple #[.slice none 0 0, .int .i64 e.2, .int .i64 16]) ∧
    ((edg 0 (nx B)).find? (badE (nx B)) = none → ∃ lv, v = .tuple #[lv, .int .i64 (-1), .int .i64 0] ∧ LpsAt w' lv (fnd (nx B))))
set_option maxRecDepth 10000 in
theorem Find_spec (gv : Value) (B : List Blk) (PV : List (List Int)) (hB : B.length ≤ 2000000) (w : World) (h : GrAt w gv B PV) :
    VRet Try.prog 12 #[gv] w fun v w' => FindQ B PV v w' ∧ Ext w w' := by
  obtain ⟨bs, pv, rfl, hb0, hp0⟩ := h
  obtain ⟨ba, bc, rfl⟩ := hb0.form
  obtain ⟨pa, pc, rfl⟩ := hp0.form'
  have z0 : #[Value.int IntKind.i64 0][0]! = Value.int .i64 0 := rfl
  refine VRet_start T.mo ok12 rfl fun Ψ hΨ => ?_; simp only [vc12, rs12]
  simp only [VS, VD, SV, SL, T, Nat.reduceEqDiff, Nat.reduceAdd, Nat.reduceSub, Nat.reduceMul, Nat.reduceLeDiff, Nat.reduceLT, reduceIte]
  have hE0 := (Ext.refl w).alloc tomb
  generalize w.alloc tomb = w0 at *
  refine (Valid_spec _ B PV hB w0 ⟨_, _, rfl, hb0.ext hE0, hp0.ext hE0⟩).mono ?_
  rintro _ w1 ⟨rfl, hE1⟩
  replace hE1 := hE0.trans hE1
  cases hV : VG B PV with
  | false =>
    simp only [VS, VD, SV, SL, T, Nat.reduceEqDiff, Nat.reduceAdd, Nat.reduceSub, Nat.reduceMul, Nat.reduceLeDiff, Nat.reduceLT, reduceIte]
    exact hΨ _ _ ⟨⟨fun _ => rfl, fun h => by rw [hV] at h; cases h⟩, hE1⟩
  | true =>
    obtain ⟨hB0, hN, hN2, _, hPV⟩ := VG_spec hV
    have hNl : (nx B).length = B.length := by unfold nx; rw [List.length_map]
    have hN0 : 0 < (nx B).length := by omega
    have hEl := edg_len (nx B) 0 hN2
    have hsz := hE1.size
    have hol := ord_le hN hN0
    have hQ : ∀ v w', ((∀ e, (edg 0 (nx B)).find? (badE (nx B)) = some e → v = .tuple #[.slice none 0 0, .int .i64 e.2, .int .i64 16]) ∧
    ((edg 0 (nx B)).find? (badE (nx B)) = none → ∃ lv, v = .tuple #[lv, .int .i64 (-1), .int .i64 0] ∧ LpsAt w' lv (fnd (nx B)))) → FindQ B PV v w' := fun v w' h => ⟨fun h2 => (by rw [hV] at h2; cases h2), fun _ => h⟩
    have hEd := Edges_spec (.agg #[.slice ba B.length bc, .slice pa PV.length pc]) B PV hB (by omega) (fun l hl => by have := hN2 l hl; omega)
    have hTr := Tree_spec (.agg #[.slice ba B.length bc, .slice pa PV.length pc]) B PV hB
    have hOr := Order_spec (.agg #[.slice ba B.length bc, .slice pa PV.length pc]) B PV hB
    have hG : ∀ w', Ext w w' → GrAt w' (.agg #[.slice ba B.length bc, .slice pa PV.length pc]) B PV := fun w' hE => ⟨_, _, rfl, hb0.ext hE, hp0.ext hE⟩
    generalize hNN : nx B = N at *
    simp only [VS, VD, SV, SL, T, Nat.reduceEqDiff, Nat.reduceAdd, Nat.reduceSub, Nat.reduceMul, Nat.reduceLeDiff, Nat.reduceLT, reduceIte, z0, Int.toNat_natCast]
    refine ⟨by omega, ?_⟩
    refine loop_cB (fun f' w' => f' 1 = .agg #[.slice ba B.length bc, .slice pa PV.length pc] ∧ f' 5 = .slice (some ⟨w1.heap.size, 0, none⟩) B.length B.length ∧ Ext w1 w' ∧ IB w' w1.heap.size B.length (fun _ => -1)) ?_ ?_
    · refine LoopP_intro (α := Nat) (fun i f' w' => f' 1 = .agg #[.slice ba B.length bc, .slice pa PV.length pc] ∧ f' 5 = .slice (some ⟨w1.heap.size, 0, none⟩) B.length B.length ∧ f' 28 = .int .i64 B.length ∧ f' 29 = .int .i64 i ∧ i ≤ B.length ∧ Ext w1 w' ∧ IB w' w1.heap.size B.length (fun x => if x < i then -1 else 0)) (fun i => B.length - i) 0 ?_ ?_
      · simp only [VS, VD, SV, SL, T, Nat.reduceEqDiff, Nat.reduceAdd, Nat.reduceSub, Nat.reduceMul, Nat.reduceLeDiff, Nat.reduceLT, reduceIte]
        exact ⟨rfl, Nat.zero_le _, (Ext.refl w1).alloc _, ⟨Array.replicate B.length (.int .i64 0), by simp only [VS, VD, SV, SL, T, Nat.reduceEqDiff, Nat.reduceAdd, Nat.reduceSub, Nat.reduceMul, Nat.reduceLeDiff, Nat.reduceLT, reduceIte], by simp, fun x hx => by simp [hx]⟩⟩
      · rintro i f' w' ⟨f1, f5, f28, f29, hi, hE, hI⟩
        simp only [VS, VD, SV, SL, T, Nat.reduceEqDiff, Nat.reduceAdd, Nat.reduceSub, Nat.reduceMul, Nat.reduceLeDiff, Nat.reduceLT, reduceIte, f28, f29]
        by_cases hlt : (i : Int) < B.length
        · rw [decide_eq_true hlt]
          obtain ⟨pcs, hpb, hps, hpv⟩ := hI
          have l2 := get_lt hpb
          simp only [VS, VD, SV, SL, T, Nat.reduceEqDiff, Nat.reduceAdd, Nat.reduceSub, Nat.reduceMul, Nat.reduceLeDiff, Nat.reduceLT, reduceIte, f5, f29, hpb, Int.toNat_natCast]
          have hpI := IB.set (w := w') l2 hps hpv i (-1)
          refine ⟨by omega, by omega, by omega, i + 1, ⟨f1, f28, by simp, by omega, hE.putb (by omega) _, hpI.congr fun x _ => ?_⟩, by omega⟩
          by_cases e : x = i
          · subst e; rw [if_pos rfl, if_pos (by omega)]
          · rw [if_neg e]
            by_cases e2 : x < i
            · rw [if_pos e2, if_pos (by omega)]
            · rw [if_neg e2, if_neg (by omega)]
        · rw [decide_eq_false hlt]
          obtain rfl : i = B.length := by omega
          simp only [VS, VD, SV, SL, T, Nat.reduceEqDiff, Nat.reduceAdd, Nat.reduceSub, Nat.reduceMul, Nat.reduceLeDiff, Nat.reduceLT, reduceIte, f1, f5]
          exact ⟨hE, hI.congr fun x hx => if_pos hx⟩
    · rintro f2 w2 ⟨f21, f25, hE2, hI2⟩
      simp only [VS, VD, SV, SL, T, Nat.reduceEqDiff, Nat.reduceAdd, Nat.reduceSub, Nat.reduceMul, Nat.reduceLeDiff, Nat.reduceLT, reduceIte, f21]
      refine (hOr w2 (hG w2 (hE1.trans hE2))).mono ?_
      rintro v3 w3 ⟨hE3, _, hgood⟩
      obtain ⟨og, oc, rfl, hoc, hog, hoI⟩ := hgood hV
      simp only [VS, VD, SV, SL, T, Nat.reduceEqDiff, Nat.reduceAdd, Nat.reduceSub, Nat.reduceMul, Nat.reduceLeDiff, Nat.reduceLT, reduceIte]
      have hog' : og ≠ w1.heap.size := by have := hI2.lt; omega
      replace hI2 := hI2.ext hE3
      replace hE2 := hE2.trans hE3
      clear hE3 hgood
      refine loop_cB (fun f' w' => f' 1 = .agg #[.slice ba B.length bc, .slice pa PV.length pc] ∧ f' 5 = .slice (some ⟨w1.heap.size, 0, none⟩) B.length B.length ∧ Ext w1 w' ∧ IB w' w1.heap.size B.length (posA N (ord N).length)) ?_ ?_
      · refine LoopP_intro (α := Nat) (fun i f' w' => f' 1 = .agg #[.slice ba B.length bc, .slice pa PV.length pc] ∧ f' 5 = .slice (some ⟨w1.heap.size, 0, none⟩) B.length B.length ∧ f' 37 = .slice (some ⟨og, 0, none⟩) (ord N).length oc ∧ f' 38 = .int .i64 (ord N).length ∧ f' 39 = .int .i64 i ∧ i ≤ (ord N).length ∧ IntsAt w' (.slice (some ⟨og, 0, none⟩) (ord N).length oc) (ord N) ∧ Ext w1 w' ∧ IB w' w1.heap.size B.length (posA N i)) (fun i => (ord N).length - i) 0 ?_ ?_
        · simp only [VS, VD, SV, SL, T, Nat.reduceEqDiff, Nat.reduceAdd, Nat.reduceSub, Nat.reduceMul, Nat.reduceLeDiff, Nat.reduceLT, reduceIte, f21, f25]
          exact ⟨rfl, Nat.zero_le _, hoI, hE2, hI2.congr fun x _ => by simp [posA]⟩
        · rintro i f' w' ⟨f1, f5, f37, f38, f39, hi, hE3, hE, hI⟩
          simp only [VS, VD, SV, SL, T, Nat.reduceEqDiff, Nat.reduceAdd, Nat.reduceSub, Nat.reduceMul, Nat.reduceLeDiff, Nat.reduceLT, reduceIte, f38, f39]
          by_cases hlt : (i : Int) < (ord N).length
          · rw [decide_eq_true hlt]
            have hi' : i < (ord N).length := by omega
            obtain ⟨b, hbi, hbR, hbp, hbn⟩ := ord_get hN hN0 hi'
            obtain ⟨ob, oo, ocs, oe, ofz, e1, _, hob, hocv⟩ := hE3.get (i := i) (x := (b : Int)) hbi
            simp only [Option.some.injEq, Addr.mk.injEq, and_true] at e1
            obtain ⟨rfl, rfl⟩ := e1
            rw [Nat.zero_add] at hocv
            obtain ⟨pcs, hpb, hps, hpv⟩ := hI
            have l2 := get_lt hpb
            have hpI := IB.set (w := w') l2 hps hpv b (i : Int)
            simp only [VS, VD, SV, SL, T, Nat.reduceEqDiff, Nat.reduceAdd, Nat.reduceSub, Nat.reduceMul, Nat.reduceLeDiff, Nat.reduceLT, reduceIte, f5, f37, f39, hob, hocv, hpb, Int.toNat_natCast]
            refine ⟨by omega, by omega, by omega, by omega, i + 1, ⟨f1, f38, by simp, by omega, ints_putb hE3 hog' _, hE.putb (by omega) _, hpI.congr fun x _ => ?_⟩, by omega⟩
            have htk : (ord N).take (i + 1) = (ord N).take i ++ [(b : Int)] := by rw [List.take_add_one, hbi]; rfl
            unfold posA
            rw [htk]
            by_cases e : x = b
            · subst e; rw [if_pos rfl, if_pos (by simp), hbp]
            · rw [if_neg e]
              have : ¬ (x : Int) = b := by omega
              simp only [List.mem_append, List.mem_singleton, this, or_false]
          · rw [decide_eq_false hlt]
            obtain rfl : i = (ord N).length := by omega
            simp only [VS, VD, SV, SL, T, Nat.reduceEqDiff, Nat.reduceAdd, Nat.reduceSub, Nat.reduceMul, Nat.reduceLeDiff, Nat.reduceLT, reduceIte, f1, f5]
            exact ⟨hE, hI⟩
      · clear hI2 f21 f25 hE2 f2 hoI hog hoc
        rintro f2 w4 ⟨f21, f25, hE4, hI4⟩
        simp only [VS, VD, SV, SL, T, Nat.reduceEqDiff, Nat.reduceAdd, Nat.reduceSub, Nat.reduceMul, Nat.reduceLeDiff, Nat.reduceLT, reduceIte, f21]
        refine (hTr w4 (hG w4 (hE1.trans hE4))).mono ?_
        rintro v5 w5 ⟨hE5, _, hgood⟩
        obtain ⟨F, tg, tc, rfl, _, htI, hTO⟩ := hgood hV
        replace hI4 := hI4.ext hE5
        replace hE4 := hE4.trans hE5
        clear hE5 hgood
        simp only [VS, VD, SV, SL, T, Nat.reduceEqDiff, Nat.reduceAdd, Nat.reduceSub, Nat.reduceMul, Nat.reduceLeDiff, Nat.reduceLT, reduceIte, f21]
        have hE6 := hE4.alloc (.map #[] 0)
        have hI6 := hI4.ext ((Ext.refl w5).alloc (.map #[] 0))
        have htI6 := htI.ext ((Ext.refl w5).alloc (.map #[] 0))
        have hM6 := LMap.new w5
        have hs6 : w5.heap.size < (w5.alloc (.map #[] 0)).heap.size := by rw [alloc_size]; omega
        have hM6' : LMap w5.heap.size (w5.alloc (.map #[] 0)) w5.heap.size (latL N []) := hM6
        clear hM6
        have hE56 : Ext w5 (w5.alloc (.map #[] 0)) := (Ext.refl w5).alloc _
        clear hI6 htI6 hE6
        generalize w5.alloc (.map #[] 0) = w6 at *
        generalize hr : w5.heap.size = r at *
        refine (hEd w6 (hG w6 ((hE1.trans hE4).trans hE56))).mono ?_
        rintro v7 w7 ⟨hO7, hE7⟩
        replace hM6' := hM6'.ext hE7
        have hE57 := hE56.trans hE7
        obtain ⟨ea, ec, rfl⟩ := hO7.form
        have hO7' : PrO (r + 1) w7 (.slice ea (edg 0 N).length ec) (edg 0 N) := pr_base hO7 (by omega)
        clear hE7 hO7 hE56
        have hEr : ∀ e ∈ edg 0 N, ∃ a b : Nat, e = ((a : Int), (b : Int)) ∧ a < N.length ∧ b < N.length ∧ ED N a b := fun e he => edg_rng hN he
        generalize hEE : edg 0 N = Es at *
        have hPP : ∀ x, RE N x → posA N (ord N).length x = PO N x := fun x hx => by unfold posA; rw [List.take_length, if_pos (mem_ord.2 hx)]
        have hPn : ∀ x, ¬ RE N x → posA N (ord N).length x = -1 := fun x hx => by unfold posA; rw [List.take_length, if_neg fun h => hx (mem_ord.1 h)]
        have hdI : ∀ a b : Nat, a < N.length → b < N.length → RE N b → domI ((List.range B.length).map F) a b = rdom N a b := fun a b ha hb hR => by
          rw [← hNl]
          apply Bool.eq_iff_iff.2
          rw [domI_an hN hN0 hTO ha hb, hTO.dom b a hR, rdom_iff hN hN0 hR]
        generalize posA N (ord N).length = P at *
        have htl : ((List.range B.length).map F).length = B.length := by simp
        generalize (List.range B.length).map F = tre at *
        simp only [VS, VD, SV, SL, T, Nat.reduceEqDiff, Nat.reduceAdd, Nat.reduceSub, Nat.reduceMul, Nat.reduceLeDiff, Nat.reduceLT, reduceIte]
        refine loop_cB (fun f' w' => f' 1 = .agg #[.slice ba B.length bc, .slice pa PV.length pc] ∧ f' 5 = .slice (some ⟨w1.heap.size, 0, none⟩) B.length B.length ∧ f' 10 = .map (some r) ∧ Ext w5 w' ∧ r < w'.heap.size ∧ LMap r w' r (latL N Es) ∧ ∀ e ∈ Es, badE N e = false) ?_ ?_
        · refine LoopP_intro (α := Nat) (fun i g w' => g 1 = .agg #[.slice ba B.length bc, .slice pa PV.length pc] ∧ g 5 = .slice (some ⟨w1.heap.size, 0, none⟩) B.length B.length ∧ g 9 = .slice (some ⟨tg, 0, none⟩) B.length tc ∧ g 10 = .map (some r) ∧ g 53 = .slice ea Es.length ec ∧ g 54 = .int .i64 Es.length ∧ g 55 = .int .i64 i ∧ i ≤ Es.length ∧ Ext w5 w' ∧ PrO (r + 1) w' (.slice ea Es.length ec) Es ∧ LMap r w' r (latL N (Es.take i)) ∧ ∀ e ∈ Es.take i, badE N e = false) (fun i => Es.length - i) 0 ?_ ?_
          · simp only [VS, VD, SV, SL, T, Nat.reduceEqDiff, Nat.reduceAdd, Nat.reduceSub, Nat.reduceMul, Nat.reduceLeDiff, Nat.reduceLT, reduceIte, f21, f25]
            exact ⟨rfl, Nat.zero_le _, hE57, hO7', by simpa using hM6', by simp⟩
          · clear hO7' hM6' hE57 f21 f25
            rintro i g w' ⟨g1, g5, g9, g10, g53, g54, g55, hi, hE, hO, hM, hnb⟩
            simp only [VS, VD, SV, SL, T, Nat.reduceEqDiff, Nat.reduceAdd, Nat.reduceSub, Nat.reduceMul, Nat.reduceLeDiff, Nat.reduceLT, reduceIte, g54, g55]
            by_cases hlt : (i : Int) < Es.length
            · rw [decide_eq_true hlt]
              have hi' : i < Es.length := by omega
              have htk : Es.take (i + 1) = Es.take i ++ [Es[i]] := List.take_succ_eq_append_getElem hi'
              have hfind : ∀ e, Es[i]? = some e → badE N e = true → Es.find? (badE N) = some e := fun e he hb => by
                rw [← List.take_append_drop i Es, List.find?_append, List.find?_eq_none.2 (by simpa using hnb), List.drop_eq_getElem_cons hi']
                rw [List.getElem?_eq_getElem hi'] at he
                rw [Option.some.inj he, List.find?_cons_of_pos hb]
                rfl
              replace hfind := hfind _ (List.getElem?_eq_getElem hi')
              obtain ⟨a, b, he, ha, hb, hED⟩ := hEr _ (List.getElem_mem hi')
              obtain ⟨eb, eo, ecs, ee, efz, rfl, heb, hes, hex⟩ := hO.at.get hi'
              rw [he] at hex htk hfind
              simp only [] at hex
              clear he
              simp only [VS, VD, SV, SL, T, Nat.reduceEqDiff, Nat.reduceAdd, Nat.reduceSub, Nat.reduceMul, Nat.reduceLeDiff, Nat.reduceLT, reduceIte, g53, g55, heb, hes, hex, AX, Int.toNat_natCast]
              refine ⟨by omega, ?_⟩
              have hE8 := (Ext.refl w').alloc (.cells #[.int .i64 a, .int .i64 b] 48)
              have hcell : (w'.alloc (.cells #[.int .i64 a, .int .i64 b] 48)).heap[w'.heap.size]? = some (.cells #[.int .i64 a, .int .i64 b] 48 (0, 0)) := alloc_get_new _ _
              generalize w'.alloc (.cells #[.int .i64 a, .int .i64 b] 48) = w8 at *
              refine DW_c (fun g' w9 => g' 1 = .agg #[.slice ba B.length bc, .slice pa PV.length pc] ∧ g' 5 = .slice (some ⟨w1.heap.size, 0, none⟩) B.length B.length ∧ g' 9 = .slice (some ⟨tg, 0, none⟩) B.length tc ∧ g' 10 = .map (some r) ∧ g' 53 = .slice (some ⟨eb, eo, none⟩) Es.length ec ∧ g' 54 = .int .i64 Es.length ∧ g' 55 = .int .i64 i ∧ g' 13 = .int .i64 a ∧ g' 14 = .int .i64 b ∧ Ext w8 w9) ?_ ?_
              · refine DW_intro (fun _ _ _ _ => True) ?_
                simp only [VS, VD, SV, SL, T, Nat.reduceEqDiff, Nat.reduceAdd, Nat.reduceSub, Nat.reduceMul, Nat.reduceLeDiff, Nat.reduceLT, reduceIte, hcell, AX]
                intro w4 hE4 hF
                simp only [VS, VD, SV, SL, T, Nat.reduceEqDiff, Nat.reduceAdd, Nat.reduceSub, Nat.reduceMul, Nat.reduceLeDiff, Nat.reduceLT, reduceIte, g1, g5, g9, g10, g53, g54, g55]
                exact hE4
              · clear g1 g5 g9 g10 g53 g54 g55
                rintro g w9 ⟨g1, g5, g9, g10, g53, g54, g55, g13, g14, hE9⟩
                replace hE9 := hE8.trans hE9
                clear hE8 hcell
                obtain ⟨pcs, hpb, hps, hpv⟩ := hI4.ext (hE.trans hE9)
                have hR1 : P a < 0 → isR N ((a : Int), (b : Int)) = false := fun h => by
                  have hn : ¬ RE N a := fun hr => by rw [hPP a hr] at h; omega
                  rw [re_iff hN hN0, ← rch_iff hN hN0] at hn
                  unfold isR
                  simp only [Int.toNat_natCast]
                  rw [Bool.eq_false_iff.2 hn]
                  rfl
                have hR2 : ¬ P a < 0 → isR N ((a : Int), (b : Int)) = decide (P b ≤ P a) := fun h => by
                  have hr : RE N a := Classical.byContradiction fun hr => h (by rw [hPn a hr]; decide)
                  have hrb : RE N b := (re_iff hN hN0 b).2 (((re_iff hN hN0 a).1 hr).step hED (by omega))
                  have hra := hr
                  rw [re_iff hN hN0, ← rch_iff hN hN0] at hr
                  unfold isR
                  simp only [Int.toNat_natCast]
                  rw [hr, Bool.true_and, hPP a hra, hPP b hrb]
                  exact decide_eq_decide.2 (by omega)
                have hPa := hpv a (by omega)
                have hPb := hpv b (by omega)
                refine DW_c (fun g' w10 => g' 1 = .agg #[.slice ba B.length bc, .slice pa PV.length pc] ∧ g' 5 = .slice (some ⟨w1.heap.size, 0, none⟩) B.length B.length ∧ g' 9 = .slice (some ⟨tg, 0, none⟩) B.length tc ∧ g' 10 = .map (some r) ∧ g' 53 = .slice (some ⟨eb, eo, none⟩) Es.length ec ∧ g' 54 = .int .i64 Es.length ∧ g' 55 = .int .i64 i ∧ g' 13 = .int .i64 a ∧ g' 14 = .int .i64 b ∧ g' 78 = .bool (!isR N ((a : Int), (b : Int))) ∧ Ext w9 w10) ?_ ?_
                · refine DW_intro (fun _ _ _ _ => True) ?_
                  by_cases hlt0 : P a < 0
                  · have d0 : decide (P a < 0) = true := decide_eq_true hlt0
                    simp only [VS, VD, SV, SL, T, Nat.reduceEqDiff, Nat.reduceAdd, Nat.reduceSub, Nat.reduceMul, Nat.reduceLeDiff, Nat.reduceLT, reduceIte, g5, g13, g14, hpb, hPa, d0, Int.toNat_natCast]
                    refine ⟨by omega, ?_⟩
                    intro w4 hE4 hF
                    simp only [VS, VD, SV, SL, T, Nat.reduceEqDiff, Nat.reduceAdd, Nat.reduceSub, Nat.reduceMul, Nat.reduceLeDiff, Nat.reduceLT, reduceIte, g1, g5, g9, g10, g53, g54, g55, g13, g14]
                    rw [hR1 hlt0]
                    exact ⟨rfl, hE4⟩
                  · have d0 : decide (P a < 0) = false := decide_eq_false hlt0
                    simp only [VS, VD, SV, SL, T, Nat.reduceEqDiff, Nat.reduceAdd, Nat.reduceSub, Nat.reduceMul, Nat.reduceLeDiff, Nat.reduceLT, reduceIte, g5, g13, g14, hpb, hPa, hPb, d0, Int.toNat_natCast]
                    refine ⟨by omega, by omega, by omega, ?_⟩
                    intro w4 hE4 hF
                    simp only [VS, VD, SV, SL, T, Nat.reduceEqDiff, Nat.reduceAdd, Nat.reduceSub, Nat.reduceMul, Nat.reduceLeDiff, Nat.reduceLT, reduceIte, g1, g5, g9, g10, g53, g54, g55, g13, g14]
                    rw [hR2 hlt0]
                    refine ⟨?_, hE4⟩
                    by_cases h : P b ≤ P a
                    · rw [decide_eq_true h, decide_eq_false (by omega)]; rfl
                    · rw [decide_eq_false h, decide_eq_true (by omega)]; rfl
                · clear g1 g5 g9 g10 g53 g54 g55 g13 g14 hpb hps hpv hPa hPb pcs
                  rintro g w10 ⟨g1, g5, g9, g10, g53, g54, g55, g13, g14, g78, hE10⟩
                  replace hE10 := hE9.trans hE10
                  clear hE9
                  have hls := fun h => latL_snoc N (Es.take i) ((a : Int), (b : Int)) h
                  rw [← htk] at hls
                  cases hR : isR N ((a : Int), (b : Int)) with
                  | false =>
                    rw [hR] at g78 hls
                    simp only [VS, VD, SV, SL, T, Nat.reduceEqDiff, Nat.reduceAdd, Nat.reduceSub, Nat.reduceMul, Nat.reduceLeDiff, Nat.reduceLT, reduceIte, Bool.not_false, g78, g1, g5, g9, g10, g53, g54, g55]
                    have e1 : latL N (Es.take (i + 1)) = latL N (Es.take i) := by
                      funext h
                      rw [hls h]
                      simp
                    refine ⟨by omega, i + 1, ⟨by simp, by omega, hE.trans hE10, hO.ext hE10, by rw [e1]; exact hM.ext hE10, ?_⟩, by omega⟩
                    rw [htk]
                    intro e he
                    rcases List.mem_append.1 he with he | he
                    · exact hnb e he
                    · rw [List.mem_singleton.1 he]
                      unfold badE
                      rw [hR]
                      rfl
                  | true =>
                    rw [hR] at g78 hls
                    simp only [VS, VD, SV, SL, T, Nat.reduceEqDiff, Nat.reduceAdd, Nat.reduceSub, Nat.reduceMul, Nat.reduceLeDiff, Nat.reduceLT, reduceIte, Bool.not_true, g78, g9, g13, g14]
                    have hRa : RE N a := by
                      rw [re_iff hN hN0, ← rch_iff hN hN0]
                      unfold isR at hR
                      simp only [Int.toNat_natCast, Bool.and_eq_true] at hR
                      exact hR.1
                    have hEw5 := hE.trans hE10
                    refine (Dominates_spec _ tre (by omega) (b : Int) (a : Int) w10 (htI.ext hEw5)).mono ?_
                    rintro _ w11 ⟨rfl, hE11⟩
                    rw [hdI b a hb ha hRa]
                    replace hE11 := hE10.trans hE11
                    have hM11 := hM.ext hE11
                    have hO11 := hO.ext hE11
                    have hE5 := hE.trans hE11
                    clear hE10 hE11 hEw5
                    cases hD : rdom N b a with
                    | false =>
                      have hbad : badE N ((a : Int), (b : Int)) = true := by
                        unfold badE
                        simp only [Int.toNat_natCast]
                        rw [hR, hD]
                        rfl
                      simp only [VS, VD, SV, SL, T, Nat.reduceEqDiff, Nat.reduceAdd, Nat.reduceSub, Nat.reduceMul, Nat.reduceLeDiff, Nat.reduceLT, reduceIte, Bool.not_false, g14]
                      refine hΨ _ _ ⟨hQ _ _ ⟨fun e he => ?_, fun hn => ?_⟩, (hE1.trans hE4).trans hE5⟩
                      · rw [hfind hbad] at he
                        rw [← Option.some.inj he]
                      · rw [hfind hbad] at hn
                        cases hn
                    | true =>
                      have hbad : badE N ((a : Int), (b : Int)) = false := by
                        unfold badE
                        simp only [Int.toNat_natCast]
                        rw [hD, hR]
                        rfl
                      simp only [VS, VD, SV, SL, T, Nat.reduceEqDiff, Nat.reduceAdd, Nat.reduceSub, Nat.reduceMul, Nat.reduceLeDiff, Nat.reduceLT, reduceIte, Bool.not_true, g10, g13, g14]
                      refine hM11.app (b : Int) (a : Int) ?_
                      intro u hu hcont
                      have hul := latL_len N (Es.take i) (b : Int)
                      rw [List.length_take] at hul
                      simp only [VS, VD, SV, SL, T, Nat.reduceEqDiff, Nat.reduceAdd, Nat.reduceSub, Nat.reduceMul, Nat.reduceLeDiff, Nat.reduceLT, reduceIte, g13]
                      refine app_int hu (by omega) (Nat.le_of_lt hM11.lt) (a : Int) ?_
                      intro v' w12 ho12 hg12 hn12
                      simp only [VS, VD, SV, SL, T, Nat.reduceEqDiff, Nat.reduceAdd, Nat.reduceSub, Nat.reduceMul, Nat.reduceLeDiff, Nat.reduceLT, reduceIte, g10, g14]
                      refine hcont v' w12 ho12 hg12 hn12 _ ?_
                      rintro w13 ⟨o, rfl⟩ hM13
                      have hO13 := pr_putb (pr_grown hO11 hu hg12) (Nat.lt_succ_self r) o
                      have hE13 := (Ext.grownO hE5 hu (Nat.le_of_eq hr) hg12).putb (Nat.le_of_eq hr) o
                      generalize w12.putb r o = w13 at *
                      simp only [VS, VD, SV, SL, T, Nat.reduceEqDiff, Nat.reduceAdd, Nat.reduceSub, Nat.reduceMul, Nat.reduceLeDiff, Nat.reduceLT, reduceIte, g1, g5, g9, g10, g53, g54, g55]
                      have e1 : (fun j => if j = (b : Int) then latL N (Es.take i) (b : Int) ++ [(a : Int)] else latL N (Es.take i) j) = latL N (Es.take (i + 1)) := by
                        funext h
                        rw [hls h]
                        by_cases e : h = (b : Int)
                        · subst e
                          simp
                        · have e' : ¬ (b : Int) = h := fun q => e q.symm
                          rw [if_neg e]
                          simp [e']
                      rw [e1] at hM13
                      refine ⟨by omega, i + 1, ⟨by simp, by omega, hE13, hO13, hM13, ?_⟩, by omega⟩
                      rw [htk]
                      intro e he
                      rcases List.mem_append.1 he with he | he
                      · exact hnb e he
                      · rw [List.mem_singleton.1 he]
                        exact hbad
            · rw [decide_eq_false hlt]
              rw [List.take_of_length_le (by omega)] at hM hnb
              simp only [VS, VD, SV, SL, T, Nat.reduceEqDiff, Nat.reduceAdd, Nat.reduceSub, Nat.reduceMul, Nat.reduceLeDiff, Nat.reduceLT, reduceIte, g1, g5, g10]
              exact ⟨hE, hM.lt, hM, hnb⟩
        · clear hO7' hM6' hE57 f21 f25
          rintro f3 w14 ⟨f31, f35, f310, hE14, hr14, hM14, hnb⟩
          have hlat : latL N Es = lat N := by funext h; unfold lat; rw [hEE]
          rw [hlat] at hM14
          have hnone : Es.find? (badE N) = none := List.find?_eq_none.2 fun e he => by rw [hnb e he]; decide
          have hfin : ∀ lv w', LpsAt w' lv (fnd N) → Ext w5 w' → FindQ B PV (.tuple #[lv, .int .i64 (-1), .int .i64 0]) w' ∧ Ext w w' := fun lv w' hL hE => ⟨hQ _ _ ⟨fun e he => (by rw [hnone] at he; cases he), fun _ => ⟨lv, rfl, hL⟩⟩, (hE1.trans hE4).trans hE⟩
          have hlr : ∀ k, lat N k ≠ [] → 0 ≤ k ∧ k.toNat < N.length := fun k hk => by
            obtain ⟨x, hx⟩ := List.exists_mem_of_ne_nil _ hk
            exact (lat_rng hN hx).2
          have e2 : B.length = N.length := hNl.symm
          have e1 : PV.length = N.length := by rw [hPV, prevOf_len]
          have hPi : ∀ x, x < N.length → (P x < 0 ↔ rch N (-1) x = false) := fun x hx => by
            by_cases hr : RE N x
            · have h1 := hPP x hr
              rw [re_iff hN hN0, ← rch_iff hN hN0] at hr
              rw [hr]
              simp [h1]
            · have h1 := hPn x hr
              rw [re_iff hN hN0, ← rch_iff hN hN0] at hr
              rw [Bool.eq_false_iff.2 hr]
              simp [h1]
          have hBd : ∀ (h : Nat), h < N.length → ∀ lv w', Ext w5 w' → IntsAt w' lv (lat N h) → VRet Try.prog 33 #[.agg #[.slice ba B.length bc, .slice pa PV.length pc], .int .i64 h, lv, .slice (some ⟨w1.heap.size, 0, none⟩) B.length B.length] w' fun v w'' => IntO w'.heap.size w'' v (ascL N.length (bdS N h (lat N h))) ∧ Ext w' w'' := fun h hh lv w' hE hL => by
            have hp := hp0.ext ((hE1.trans hE4).trans hE)
            have hq := hI4.ext hE
            rw [e1, hPV] at hp
            rw [e2] at hq
            rw [e1, e2]
            refine body_spec hN hN0 hN2 (by omega) hh (fun p hp => (lat_rng hN hp).1) ?_ lv hPi w' hp hL hq
            have := latL_len N Es (h : Int)
            rw [hlat] at this
            omega
          simp only [VS, VD, SV, SL, T, Nat.reduceEqDiff, Nat.reduceAdd, Nat.reduceSub, Nat.reduceMul, Nat.reduceLeDiff, Nat.reduceLT, reduceIte, f310]
          refine (KeysL_spec r w14).mono ?_
          rintro _ w15 ⟨rfl, rfl⟩
          obtain ⟨l, c, k1, k2, k3, k4, k5⟩ := keysL_sorted hM14 hlr (by omega)
          simp only [VS, VD, SV, SL, T, Nat.reduceEqDiff, Nat.reduceAdd, Nat.reduceSub, Nat.reduceMul, Nat.reduceLeDiff, Nat.reduceLT, reduceIte]
          refine (SortedL_spec w14.heap.size r k2 k3 k4 _ (alloc_get_new _ _) (by rw [alloc_get_lt (get_lt k1)]; exact k1)).mono ?_
          rintro v16 w16 ⟨hO16, hE16⟩
          rw [k5] at hO16
          replace hO16 : IntO _ w16 v16 (hsL N) := hO16
          replace hE16 := ((Ext.refl w14).alloc _).trans hE16
          replace hM14 := hM14.ext hE16
          replace hE14 := hE14.trans hE16
          have hK := hO16.ints
          clear hO16 hE16 k1 k2 k3 k4 k5
          obtain ⟨ka, kc, rfl⟩ := hK.form
          have hhl := hsL_len N
          have hhm : ∀ h ∈ hsL N, ∃ b : Nat, h = b ∧ b < N.length ∧ lat N b ≠ [] := fun h hh => by
            obtain ⟨b, q1, q2, q3⟩ := ascL_mem.1 hh
            exact ⟨b, q1, q2, by simpa using q3⟩
          have hl0 := lstF_zero N
          simp only [VS, VD, SV, SL, T, Nat.reduceEqDiff, Nat.reduceAdd, Nat.reduceSub, Nat.reduceMul, Nat.reduceLeDiff, Nat.reduceLT, reduceIte]
          refine loop_cB (fun f' w' => Ext w16 w' ∧ LpO w16.heap.size w' (f' 15) (lstF N 0)) ?_ ?_
          · rw [hl0]
            generalize hsL N = hs at *
            refine LoopP_intro (α := Nat) (fun j g w' => g 1 = .agg #[.slice ba B.length bc, .slice pa PV.length pc] ∧ g 5 = .slice (some ⟨w1.heap.size, 0, none⟩) B.length B.length ∧ g 10 = .map (some r) ∧ g 96 = .slice ka hs.length kc ∧ g 97 = .int .i64 hs.length ∧ g 98 = .int .i64 j ∧ j ≤ hs.length ∧ Ext w16 w' ∧ LpO w16.heap.size w' (g 15) ((hs.take j).map fun h => rowF N h (-1))) (fun j => hs.length - j) 0 ?_ ?_
            · simp only [VS, VD, SV, SL, T, Nat.reduceEqDiff, Nat.reduceAdd, Nat.reduceSub, Nat.reduceMul, Nat.reduceLeDiff, Nat.reduceLT, reduceIte, f31, f35, f310]
              exact ⟨rfl, Nat.zero_le _, Ext.refl _, LpO.nil _ _⟩
            · rintro j g w' ⟨g1, g5, g10, g96, g97, g98, hj, hE, hL⟩
              simp only [VS, VD, SV, SL, T, Nat.reduceEqDiff, Nat.reduceAdd, Nat.reduceSub, Nat.reduceMul, Nat.reduceLeDiff, Nat.reduceLT, reduceIte, g97, g98]
              by_cases hlt : (j : Int) < hs.length
              · rw [decide_eq_true hlt]
                have hj' : j < hs.length := by omega
                obtain ⟨h, eh, hhn, hne⟩ := hhm _ (List.getElem_mem hj')
                obtain ⟨kb, ko, kcs, ke, kf, rfl, _, hkb, hkc⟩ := (hK.ext hE).get (i := j) (x := (h : Int)) (by rw [← eh]; simp)
                have htk : hs.take (j + 1) = hs.take j ++ [(h : Int)] := by rw [List.take_succ_eq_append_getElem hj', eh]
                obtain ⟨la, lc, hg15⟩ := hL.form
                simp only [VS, VD, SV, SL, T, Nat.reduceEqDiff, Nat.reduceAdd, Nat.reduceSub, Nat.reduceMul, Nat.reduceLeDiff, Nat.reduceLT, reduceIte, g10, g96, g98, hkb, hkc, Int.toNat_natCast]
                refine ⟨by omega, ?_⟩
                refine (hM14.ext hE).look (h : Int) ?_
                intro u hu
                obtain ⟨ua, uc, rfl⟩ := own_form hu
                simp only [VS, VD, SV, SL, T, Nat.reduceEqDiff, Nat.reduceAdd, Nat.reduceSub, Nat.reduceMul, Nat.reduceLeDiff, Nat.reduceLT, reduceIte, g1, g5, g10]
                have hEt := (Ext.refl w').alloc tomb
                have hLt := hL.ext hEt
                have hut := own_ext hu hEt
                replace hEt := hE.trans hEt
                have hst : w16.heap.size ≤ (w'.alloc tomb).heap.size := hEt.size
                generalize w'.alloc tomb = w17 at *
                refine (hM14.ext hEt).look (h : Int) ?_
                intro u2 hu2
                obtain ⟨ua2, uc2, rfl⟩ := own_form hu2
                simp only [VS, VD, SV, SL, T, Nat.reduceEqDiff, Nat.reduceAdd, Nat.reduceSub, Nat.reduceMul, Nat.reduceLeDiff, Nat.reduceLT, reduceIte, g5]
                refine (hBd h hhn _ w17 (hE14.trans hEt) hu2.ints).mono ?_
                rintro v18 w18 ⟨hO18, hE18⟩
                obtain ⟨ba18, bc18, rfl⟩ := own_form hO18
                simp only [VS, VD, SV, SL, T, Nat.reduceEqDiff, Nat.reduceAdd, Nat.reduceSub, Nat.reduceMul, Nat.reduceLeDiff, Nat.reduceLT, reduceIte]
                have hlen : ((hs.take j).map fun h => rowF N h (-1)).length ≤ j := by simp; omega
                refine LpO.app (hLt.ext hE18) (by omega) (Nat.le_trans hst hE18.size) (rowF N (h : Int) (-1)) (own_base hO18 (Nat.zero_le _)) (own_base (own_ext hut hE18) (Nat.zero_le _)) ?_
                intro v19 w19 hL19 hx19
                simp only [VS, VD, SV, SL, T, Nat.reduceEqDiff, Nat.reduceAdd, Nat.reduceSub, Nat.reduceMul, Nat.reduceLeDiff, Nat.reduceLT, reduceIte, g1, g5, g10, g96, g97, g98]
                refine ⟨by omega, j + 1, ⟨by simp, by omega, hx19 w16 (hEt.trans hE18) (Nat.le_refl _), ?_⟩, by omega⟩
                rw [htk, List.map_append]
                exact hL19
              · rw [decide_eq_false hlt]
                rw [List.take_of_length_le (by omega)] at hL
                simp only [VS, VD, SV, SL, T, Nat.reduceEqDiff, Nat.reduceAdd, Nat.reduceSub, Nat.reduceMul, Nat.reduceLeDiff, Nat.reduceLT, reduceIte]
                exact ⟨hE, hL⟩
          · rintro f4 w20 ⟨hE20, hL20⟩
            obtain ⟨la, lc, hg15⟩ := hL20.form
            rw [hg15] at hL20
            have hm0 : (lstF N 0).length = (hsL N).length := lstF_len N 0
            have hblk : (hsL N).length = 0 ∨ ∃ g, la = some ⟨g, 0, none⟩ ∧ w16.heap.size ≤ g ∧ LpB w20 g (lstF N 0) := by
              by_cases hz : (hsL N).length = 0
              · exact .inl hz
              · exact .inr (hL20.blk fun h => hz (by rw [← hm0, h]; rfl))
            rw [hm0] at hg15
            clear hL20
            simp only [VS, VD, SV, SL, T, Nat.reduceEqDiff, Nat.reduceAdd, Nat.reduceSub, Nat.reduceMul, Nat.reduceLeDiff, Nat.reduceLT, reduceIte, hg15]
            have hrows : ∀ i, ∀ x ∈ lstF N i, x.2.1.length ≤ 100000000 ∧ Asc x.2.1 := fun i x hx => by
              unfold lstF at hx
              obtain ⟨j, _, rfl⟩ := List.mem_map.1 hx
              refine ⟨?_, ascL_asc _ _⟩
              have := ascL_len N.length (bdS N ((hsL N).getD j 0).toNat (lat N ((hsL N).getD j 0)))
              show (ascL N.length (bdS N ((hsL N).getD j 0).toNat (lat N ((hsL N).getD j 0)))).length ≤ _
              omega
            have hat : ∀ i w', ((hsL N).length = 0 ∨ ∃ g, la = some ⟨g, 0, none⟩ ∧ w16.heap.size ≤ g ∧ LpB w' g (lstF N i)) → LpsAt w' (.slice la (hsL N).length lc) (lstF N i) := fun i w' h => by
              rcases h with h | ⟨g, rfl, _, h⟩
              · refine .inl ⟨⟨la, lc, by rw [h]⟩, ?_⟩
                apply List.eq_nil_of_length_eq_zero
                rw [lstF_len, h]
              · have := h.at (c := lc)
                rw [lstF_len] at this
                exact this
            refine LoopP_intro (α := Nat) (fun i g w' => g 15 = .slice la (hsL N).length lc ∧ g 121 = .int .i64 (hsL N).length ∧ g 122 = .int .i64 i ∧ i ≤ (hsL N).length ∧ Ext w16 w' ∧ ((hsL N).length = 0 ∨ ∃ g, la = some ⟨g, 0, none⟩ ∧ w16.heap.size ≤ g ∧ LpB w' g (lstF N i))) (fun i => (hsL N).length - i) 0 ?_ ?_
            · simp only [VS, VD, SV, SL, T, Nat.reduceEqDiff, Nat.reduceAdd, Nat.reduceSub, Nat.reduceMul, Nat.reduceLeDiff, Nat.reduceLT, reduceIte, hg15]
              exact ⟨rfl, Nat.zero_le _, hE20, hblk⟩
            · clear hblk hE20 hg15
              rintro i g w' ⟨g15, g121, g122, hi, hE, hb⟩
              simp only [VS, VD, SV, SL, T, Nat.reduceEqDiff, Nat.reduceAdd, Nat.reduceSub, Nat.reduceMul, Nat.reduceLeDiff, Nat.reduceLT, reduceIte, g121, g122]
              by_cases hlt : (i : Int) < (hsL N).length
              · rw [decide_eq_true hlt]
                have hi' : i < (lstF N i).length := by rw [lstF_len]; omega
                simp only [VS, VD, SV, SL, T, Nat.reduceEqDiff, Nat.reduceAdd, Nat.reduceSub, Nat.reduceMul, Nat.reduceLeDiff, Nat.reduceLT, reduceIte, g15, g122]
                refine (parent_spec _ (lstF N i) (by rw [lstF_len]; omega) (fun x hx => (hrows i x hx).1) (fun x hx => (hrows i x hx).2) i hi' w' (hat i w' hb)).mono ?_
                rintro _ w21 ⟨rfl, hE21⟩
                rw [parN_of N i hi']
                rcases hb with hb | ⟨q, rfl, hq, hB21⟩
                · omega
                replace hB21 := hB21.ext hE21
                obtain ⟨cs, hcs, hsz21, hc21⟩ := id hB21
                simp only [VS, VD, SV, SL, T, Nat.reduceEqDiff, Nat.reduceAdd, Nat.reduceSub, Nat.reduceMul, Nat.reduceLeDiff, Nat.reduceLT, reduceIte, g15, g122, hcs, Int.toNat_natCast]
                have hl21 : (lstF N i).length * 4 ≤ cs.size := hsz21
                rw [lstF_len] at hl21 hi'
                refine ⟨by omega, by omega, by omega, i + 1, ⟨g121, by simp, by omega, (hE.trans hE21).putb hq _, .inr ⟨q, rfl, hq, hB21.put hcs (by rw [lstF_len]; exact hi') (by rw [lstF_len, lstF_len]) fun k x x' hx hx' => ?_⟩⟩, by omega⟩
                have hk := (List.getElem?_eq_some_iff.1 hx).1
                rw [lstF_len] at hk
                rw [lstF_get hk] at hx hx'
                rw [← Option.some.inj hx, ← Option.some.inj hx']
                refine ⟨rfl, rfl, rfl, ?_⟩
                show (if k < i + 1 then parN N k else -1) = if k = i then parN N i else (if k < i then parN N k else -1)
                by_cases e : k = i
                · subst e
                  rw [if_pos (by omega), if_pos rfl]
                · rw [if_neg e]
                  by_cases e2 : k < i
                  · rw [if_pos (by omega), if_pos e2]
                  · rw [if_neg (by omega), if_neg e2]
              · rw [decide_eq_false hlt]
                obtain rfl : i = (hsL N).length := by omega
                simp only [VS, VD, SV, SL, T, Nat.reduceEqDiff, Nat.reduceAdd, Nat.reduceSub, Nat.reduceMul, Nat.reduceLeDiff, Nat.reduceLT, reduceIte, g15]
                exact hΨ _ _ (hfin _ _ (hat _ _ hb) (hE14.trans hE))
end Go.Proofs.Ytlhlbiaibgmapaa
