/-
  LoopsWalks: the walk.
-/
import Derived.Test.YtlhlbiaibgmapaaZLC2
import Derived.Test.YtlhlbiaibgmapaaZLP8
set_option linter.unusedSimpArgs false
set_option linter.unusedVariables false
namespace Go.Proofs.Ytlhlbiaibgmapaa
open Go.W Go.RowKit
set_option maxRecDepth 10000 in
theorem Entries_own (gv : Value) (B : List Blk) (PV : List (List Int)) (hB : B.length ≤ 2000000) (hl : (edg 0 (nx B)).length ≤ 50000000) (hr : ∀ l ∈ nx B, l.length ≤ 50000000) (lv : Value) (x : Lp) (hx : x.2.1.length ≤ 100000000) (w : World) (h : GrAt w gv B PV) (hL : LpV w lv x) :
    VRet Try.prog 23 #[gv, lv] w fun v w' => PrO w.heap.size w' v ((edg 0 (nx B)).filter (entB x)) ∧ Ext w w' := by
  obtain ⟨bs, pv, rfl, hb0, hp0⟩ := h
  obtain ⟨ba, bc, rfl⟩ := hb0.form
  obtain ⟨pa, pc, rfl⟩ := hp0.form'
  obtain ⟨u, u', rfl, hu, hu'⟩ := hL
  obtain ⟨ua, uc, rfl⟩ := hu.form
  obtain ⟨ua', uc', rfl⟩ := hu'.form
  obtain ⟨hd, l, la, pr⟩ := x
  simp only [] at hu hu' hx ⊢
  refine VRet_start T.mo ok23 rfl fun Ψ hΨ => ?_; simp only [vc23, rs23]
  simp only [VS, VD, SV, SL, T, Nat.reduceEqDiff, Nat.reduceAdd, Nat.reduceSub, Nat.reduceMul, Nat.reduceLeDiff, Nat.reduceLT, reduceIte]
  have hE1 := ((Ext.refl w).alloc tomb).alloc tomb
  generalize (w.alloc tomb).alloc tomb = w1 at *
  refine (members_spec _ (hd, l, la, pr) hx w1 ⟨_, _, rfl, hu.ext hE1, hu'.ext hE1⟩).mono ?_
  rintro _ w2 ⟨⟨r, rfl, hS⟩, hE2⟩
  replace hE2 := hE1.trans hE2
  simp only [VS, VD, SV, SL, T, Nat.reduceEqDiff, Nat.reduceAdd, Nat.reduceSub, Nat.reduceMul, Nat.reduceLeDiff, Nat.reduceLT, reduceIte]
  refine (Edges_spec _ B PV hB hl hr w2 ⟨_, _, rfl, hb0.ext hE2, hp0.ext hE2⟩).mono ?_
  rintro v3 w3 ⟨hO3, hE3⟩
  replace hS := hS.ext hE3
  replace hE3 := hE2.trans hE3
  have hP3 := hO3.at
  generalize hEE : edg 0 (nx B) = Es at *
  obtain ⟨ea, ec, rfl⟩ := hP3.form
  simp only [VS, VD, SV, SL, T, Nat.reduceEqDiff, Nat.reduceAdd, Nat.reduceSub, Nat.reduceMul, Nat.reduceLeDiff, Nat.reduceLT, reduceIte]
  refine LoopP_intro (α := Nat) (fun i g w' => g 3 = .agg #[.int .i64 hd, .slice ua l.length uc, .slice ua' la.length uc', .int .i64 pr] ∧ g 5 = .map (some r) ∧ g 12 = .slice ea Es.length ec ∧ g 13 = .int .i64 Es.length ∧ g 14 = .int .i64 i ∧ i ≤ Es.length ∧ Ext w3 w' ∧ PrO w3.heap.size w' (g 6) ((Es.take i).filter (entB (hd, l, la, pr)))) (fun i => Es.length - i) 0 ?_ ?_
  · simp only [VS, VD, SV, SL, T, Nat.reduceEqDiff, Nat.reduceAdd, Nat.reduceSub, Nat.reduceMul, Nat.reduceLeDiff, Nat.reduceLT, reduceIte]
    exact ⟨rfl, Nat.zero_le _, Ext.refl _, OwnL.nil _ _ _ _ _⟩
  · rintro i g w' ⟨g3, g5, g12, g13, g14, hi, hE, hO⟩
    simp only [VS, VD, SV, SL, T, Nat.reduceEqDiff, Nat.reduceAdd, Nat.reduceSub, Nat.reduceMul, Nat.reduceLeDiff, Nat.reduceLT, reduceIte, g13, g14]
    by_cases hlt : (i : Int) < Es.length
    · rw [decide_eq_true hlt]
      have hi' : i < Es.length := by omega
      have htk : Es.take (i + 1) = Es.take i ++ [Es[i]] := List.take_succ_eq_append_getElem hi'
      have hfs := filter_snoc (entB (hd, l, la, pr)) (Es.take i) Es[i]
      rw [← htk] at hfs
      have hfl : ((Es.take i).filter (entB (hd, l, la, pr))).length ≤ i := by
        have := List.length_filter_le (entB (hd, l, la, pr)) (Es.take i)
        rw [List.length_take] at this
        omega
      obtain ⟨eb, eo, ecs, ee, efz, rfl, heb, hes, hex⟩ := (hP3.ext hE).get hi'
      generalize Es[i] = e at *
      obtain ⟨e1, e2⟩ := e
      simp only [] at hex
      obtain ⟨oa, oc, ho6⟩ := hO.form
      simp only [VS, VD, SV, SL, T, Nat.reduceEqDiff, Nat.reduceAdd, Nat.reduceSub, Nat.reduceMul, Nat.reduceLeDiff, Nat.reduceLT, reduceIte, g5, g12, g14, heb, hes, hex, AX, Int.toNat_natCast]
      refine ⟨by omega, ?_⟩
      have hE4 := hE.alloc (.cells #[.int .i64 e1, .int .i64 e2] 48)
      have hO4 : PrO w3.heap.size (w'.alloc (.cells #[.int .i64 e1, .int .i64 e2] 48)) (g 6) ((Es.take i).filter (entB (hd, l, la, pr))) := hO.alloc _
      have hcell : (w'.alloc (.cells #[.int .i64 e1, .int .i64 e2] 48)).heap[w'.heap.size]? = some (.cells #[.int .i64 e1, .int .i64 e2] 48 (0, 0)) := alloc_get_new _ _
      generalize w'.alloc (.cells #[.int .i64 e1, .int .i64 e2] 48) = w4 at *
      refine (hS.ext hE4).look e1 ?_
      simp only [VS, VD, SV, SL, T, Nat.reduceEqDiff, Nat.reduceAdd, Nat.reduceSub, Nat.reduceMul, Nat.reduceLeDiff, Nat.reduceLT, reduceIte]
      refine YG_c (fun g' w5 => g' 3 = .agg #[.int .i64 hd, .slice ua l.length uc, .slice ua' la.length uc', .int .i64 pr] ∧ g' 5 = .map (some r) ∧ g' 6 = g 6 ∧ g' 8 = .pointer (some ⟨w'.heap.size, 0, none⟩) ∧ g' 12 = .slice (some ⟨eb, eo, none⟩) Es.length ec ∧ g' 13 = .int .i64 Es.length ∧ g' 14 = .int .i64 i ∧ g' 29 = .bool (entB (hd, l, la, pr) (e1, e2)) ∧ w5 = w4) ?_ ?_
      · by_cases hm : e1 ∈ l
        · rw [decide_eq_true hm]
          simp only [VS, VD, SV, SL, T, Nat.reduceEqDiff, Nat.reduceAdd, Nat.reduceSub, Nat.reduceMul, Nat.reduceLeDiff, Nat.reduceLT, reduceIte, Bool.not_true, g3, g5, g12, g13, g14]
          simp [entB, hm]
        · rw [decide_eq_false hm]
          simp only [VS, VD, SV, SL, T, Nat.reduceEqDiff, Nat.reduceAdd, Nat.reduceSub, Nat.reduceMul, Nat.reduceLeDiff, Nat.reduceLT, reduceIte, Bool.not_false, g3, g5, g12, g13, g14, hcell, AX]
          simp [entB, hm]
      · rintro g' w5 ⟨k3, k5, k6, k8, k12, k13, k14, k29, rfl⟩
        rw [ho6] at k6
        have hO5 : PrO w3.heap.size w5 (.slice oa ((Es.take i).filter (entB (hd, l, la, pr))).length oc) ((Es.take i).filter (entB (hd, l, la, pr))) := by rw [← ho6]; exact hO4
        cases hen : entB (hd, l, la, pr) (e1, e2) with
        | false =>
          rw [hen] at k29 hfs
          simp only [VS, VD, SV, SL, T, Nat.reduceEqDiff, Nat.reduceAdd, Nat.reduceSub, Nat.reduceMul, Nat.reduceLeDiff, Nat.reduceLT, reduceIte, k29, k3, k5, k12, k13, k14]
          refine ⟨by omega, i + 1, ⟨by simp, by omega, hE4, ?_⟩, by omega⟩
          rw [hfs, k6]
          simpa using hO5
        | true =>
          rw [hen] at k29 hfs
          simp only [VS, VD, SV, SL, T, Nat.reduceEqDiff, Nat.reduceAdd, Nat.reduceSub, Nat.reduceMul, Nat.reduceLeDiff, Nat.reduceLT, reduceIte, k29, k6, k8, hcell, AX]
          refine app_pair hO5 (by omega) hE4.size e1 e2 ?_
          intro v' w6 ho6' hx6 hg6 hn6
          simp only [VS, VD, SV, SL, T, Nat.reduceEqDiff, Nat.reduceAdd, Nat.reduceSub, Nat.reduceMul, Nat.reduceLeDiff, Nat.reduceLT, reduceIte, k3, k5, k12, k13, k14]
          refine ⟨by omega, i + 1, ⟨by simp, by omega, hx6 w3 hE4 (Nat.le_refl _), ?_⟩, by omega⟩
          rw [hfs, if_pos rfl]
          exact ho6'
    · rw [decide_eq_false hlt]
      rw [List.take_of_length_le (by omega)] at hO
      simp only [VS, VD, SV, SL, T, Nat.reduceEqDiff, Nat.reduceAdd, Nat.reduceSub, Nat.reduceMul, Nat.reduceLeDiff, Nat.reduceLT, reduceIte]
      exact hΨ _ _ ⟨pr_base hO hE3.size, hE3.trans hE⟩
theorem u8_get {w : World} {a : Option Addr} {n c : Nat} {l : List Int} (h : SlAt w (.slice a n c) 1 (l.map fun n => [.int .u8 n])) {i : Nat} (hi : i < l.length) : ∃ b off cs e fz, a = some ⟨b, off, none⟩ ∧ w.heap[b]? = some (.cells cs e fz) ∧ cs[off + i]? = some (.int .u8 l[i]) := by
  rcases h with ⟨_, h'⟩ | ⟨b, off, cap, h1, h2⟩
  · have : l = [] := by simpa using h'
    subst this; simp at hi
  · simp only [Value.slice.injEq] at h1
    obtain ⟨rfl, _, _⟩ := h1
    have := h2 i [.int .u8 l[i]] (by simp [hi])
    obtain ⟨cs, e, fz, h3, h4, h5⟩ := rd_obj this
    refine ⟨b, off, cs, e, fz, rfl, h3, ?_⟩
    have h6 := congrArg (fun a : Array Value => a[0]?) h5
    simp only [Array.getElem?_extract] at h6
    rw [if_pos (by omega)] at h6
    simpa using h6
/-- the region that makes two rows -/
def WC (v6 : Value) (m : Nat) : Nat → Value → Prop
  | 0, v => v = v6
  | 1, v => v = .int .i64 m
  | 3, v => v = v6
  | 4, v => v = .int .i64 m
  | _, _ => True
structure WI (lst : List (Nat × Value)) (v6 : Value) (m : Nat) (w0 : World) (L : Nat → Bool) (f : Fr) (w : World) : Prop where
  fr : ∀ p ∈ lst, p.1 < 10 ∧ f p.1 = p.2
  c : ∀ n, n < 5 → n ≠ 2 → L n = true → WC v6 m n (f (42 + n))
  c2 : L 2 = true → ∃ q, f 44 = .slice (some ⟨q, 0, none⟩) m m ∧ w0.heap.size ≤ q ∧ IB w q m (fun _ => 0)
  c5 : L 5 = true → ∃ q, f 47 = .slice (some ⟨q, 0, none⟩) m m ∧ w0.heap.size ≤ q ∧ IB w q m (fun _ => 0)
  d : L 2 = true → L 5 = true → f 44 ≠ f 47
  c6 : L 6 = true → L 2 = true ∧ f 10 = f 44
  ext : Ext w0 w
section
variable {lst : List (Nat × Value)} {v6 : Value} {m : Nat} {w0 w : World} {L : Nat → Bool} {f : Fr}
theorem WI.slot (h : WI lst v6 m w0 L f w) {n : Nat} (hn : n < 5) (hn2 : n ≠ 2) {v : Value} (hv : WC v6 m n v) : WI lst v6 m w0 (setL L n) (upd f (42 + n) v) w := by
  have e2 : setL L n 2 = L 2 := by simp [setL, show ¬ 2 = n by omega]
  have e5 : setL L n 5 = L 5 := by simp [setL, show ¬ 5 = n by omega]
  have e6 : setL L n 6 = L 6 := by simp [setL, show ¬ 6 = n by omega]
  have u44 : upd f (42 + n) v 44 = f 44 := by rw [upd_apply, if_neg (by omega)]
  have u47 : upd f (42 + n) v 47 = f 47 := by rw [upd_apply, if_neg (by omega)]
  have u10 : upd f (42 + n) v 10 = f 10 := by rw [upd_apply, if_neg (by omega)]
  refine ⟨fun p hp => ⟨(h.fr p hp).1, by rw [upd_apply, if_neg (by have := (h.fr p hp).1; omega)]; exact (h.fr p hp).2⟩, fun k hk hk2 hl => ?_, by rw [e2, u44]; exact h.c2, by rw [e5, u47]; exact h.c5, by rw [e2, e5, u44, u47]; exact h.d, by rw [e6, e2, u10, u44]; exact h.c6, h.ext⟩
  by_cases e : k = n
  · subst e; rw [upd_apply, if_pos rfl]; exact hv
  · rw [upd_apply, if_neg (by omega)]
    refine h.c k hk hk2 ?_
    simpa [setL, e] using hl
theorem IB.made (w : World) (m : Nat) : IB (w.alloc (.cells (Array.replicate m (.int .i64 0)) 3)) w.heap.size m (fun _ => 0) := ⟨_, alloc_get_new _ _, by simp, fun i hi => by simp [hi]⟩
theorem WI.mk2 (h : WI lst v6 m w0 L f w) (hl : L 2 = false) : WI lst v6 m w0 (setL L 2) (upd f 44 (.slice (some ⟨w.heap.size, 0, none⟩) m m)) (w.alloc (.cells (Array.replicate m (.int .i64 0)) 3)) := by
  have e5 : setL L 2 5 = L 5 := rfl
  have e6 : setL L 2 6 = L 6 := rfl
  have hE := (Ext.refl w).alloc (.cells (Array.replicate m (.int .i64 0)) 3 (0, 0))
  refine ⟨fun p hp => ⟨(h.fr p hp).1, by rw [upd_apply, if_neg (by have := (h.fr p hp).1; omega)]; exact (h.fr p hp).2⟩, fun k hk hk2 hl => ?_, fun _ => ⟨_, rfl, h.ext.size, IB.made w m⟩, fun h5 => ?_, fun _ h5 => ?_, fun h6 => ?_, h.ext.trans hE⟩
  · rw [upd_apply, if_neg (by omega)]
    refine h.c k hk hk2 ?_
    simpa [setL, hk2] using hl
  · obtain ⟨q, q1, q2, q3⟩ := h.c5 h5
    exact ⟨q, by rw [upd_apply, if_neg (by omega)]; exact q1, q2, q3.ext hE⟩
  · obtain ⟨q, q1, q2, q3⟩ := h.c5 h5
    have := q3.lt
    show (.slice (some ⟨w.heap.size, 0, none⟩) m m : Value) ≠ upd f 44 _ 47
    rw [upd_apply, if_neg (by omega), q1]
    intro e
    simp only [Value.slice.injEq, Option.some.injEq, Addr.mk.injEq, and_true] at e
    omega
  · have := (h.c6 h6).1
    rw [hl] at this; cases this
theorem WI.mk5 (h : WI lst v6 m w0 L f w) : WI lst v6 m w0 (setL L 5) (upd f 47 (.slice (some ⟨w.heap.size, 0, none⟩) m m)) (w.alloc (.cells (Array.replicate m (.int .i64 0)) 3)) := by
  have hE := (Ext.refl w).alloc (.cells (Array.replicate m (.int .i64 0)) 3 (0, 0))
  refine ⟨fun p hp => ⟨(h.fr p hp).1, by rw [upd_apply, if_neg (by have := (h.fr p hp).1; omega)]; exact (h.fr p hp).2⟩, fun k hk hk2 hl => ?_, fun h2 => ?_, fun _ => ⟨_, rfl, h.ext.size, IB.made w m⟩, fun h2 _ => ?_, fun h6 => ?_, h.ext.trans hE⟩
  · rw [upd_apply, if_neg (by omega)]
    refine h.c k hk hk2 ?_
    simpa [setL, show ¬ k = 5 by omega] using hl
  · obtain ⟨q, q1, q2, q3⟩ := h.c2 h2
    exact ⟨q, by rw [upd_apply, if_neg (by omega)]; exact q1, q2, q3.ext hE⟩
  · obtain ⟨q, q1, q2, q3⟩ := h.c2 h2
    have := q3.lt
    show upd f 47 _ 44 ≠ (.slice (some ⟨w.heap.size, 0, none⟩) m m : Value)
    rw [upd_apply, if_neg (by omega), q1]
    intro e
    simp only [Value.slice.injEq, Option.some.injEq, Addr.mk.injEq, and_true] at e
    omega
  · obtain ⟨k1, k2⟩ := h.c6 h6
    refine ⟨k1, ?_⟩
    rw [upd_apply, if_neg (by omega), upd_apply, if_neg (by omega)]
    exact k2
theorem WI.set6 (h : WI lst v6 m w0 L f w) (h2 : L 2 = true) (hl : ∀ p ∈ lst, p.1 ≠ 10) : WI lst v6 m w0 (setL L 6) (upd f 10 (f 44)) w := by
  refine ⟨fun p hp => ⟨(h.fr p hp).1, by rw [upd_apply, if_neg (hl p hp)]; exact (h.fr p hp).2⟩, fun k hk hk2 hl => ?_, fun k2 => ?_, fun k5 => ?_, fun k2 k5 => ?_, fun _ => ⟨h2, ?_⟩, h.ext⟩
  · rw [upd_apply, if_neg (by omega)]
    refine h.c k hk hk2 ?_
    simpa [setL, show ¬ k = 6 by omega] using hl
  · rw [upd_apply, if_neg (by omega)]; exact h.c2 h2
  · rw [upd_apply, if_neg (by omega)]; exact h.c5 k5
  · rw [upd_apply, if_neg (by omega), upd_apply, if_neg (by omega)]; exact h.d h2 k5
  · rw [upd_apply, if_pos rfl, upd_apply, if_neg (by omega)]
end
/-- the three counters and the set of seen blocks -/
structure WS (w3 : World) (q1 q2 q3 r m : Nat) (P E R : Nat → Int) (S : Int → Bool) (w : World) : Prop where
  ext : Ext w3 w
  p : IB w q1 m P
  e : IB w q2 m E
  rr : IB w q3 m R
  s : SetM w r S
theorem ib_ne {w : World} {q r m : Nat} {P : Nat → Int} {S : Int → Bool} (h : IB w q m P) (hs : SetM w r S) : r ≠ q := by
  rintro rfl
  obtain ⟨cs, h1, _⟩ := h
  obtain ⟨l, c, h2, _⟩ := hs
  rw [h1] at h2; cases h2
theorem ib_set {w : World} {q m : Nat} {P : Nat → Int} (h : IB w q m P) {cs : Array Value} (hc : w.heap[q]? = some (.cells cs 3 (0, 0))) (i : Nat) (x : Int) : IB (w.putb q (.cells (cs.setIfInBounds i (.int .i64 x)) 3 (0, 0))) q m (fun j => if j = i then x else P j) := by
  obtain ⟨cs', h1, h2, h3⟩ := h
  rw [hc] at h1
  simp only [Option.some.injEq, Obj.cells.injEq] at h1
  obtain ⟨rfl, _⟩ := h1
  exact IB.set (get_lt hc) h2 h3 i x
section
variable {w3 w w' : World} {q1 q2 q3 r m : Nat} {P E R : Nat → Int} {S : Int → Bool}
theorem WS.ext' (h : WS w3 q1 q2 q3 r m P E R S w) (hE : Ext w w') : WS w3 q1 q2 q3 r m P E R S w' := ⟨h.ext.trans hE, h.p.ext hE, h.e.ext hE, h.rr.ext hE, h.s.ext hE⟩
variable (hq : (w3.heap.size ≤ q1 ∧ w3.heap.size ≤ q2 ∧ w3.heap.size ≤ q3) ∧ q1 ≠ q2 ∧ q1 ≠ q3 ∧ q2 ≠ q3)
include hq
theorem WS.setP (h : WS w3 q1 q2 q3 r m P E R S w) {cs : Array Value} (hc : w.heap[q1]? = some (.cells cs 3 (0, 0))) (i : Nat) (x : Int) : WS w3 q1 q2 q3 r m (fun j => if j = i then x else P j) E R S (w.putb q1 (.cells (cs.setIfInBounds i (.int .i64 x)) 3 (0, 0))) :=
  ⟨h.ext.putb (by omega) _, ib_set h.p hc i x, h.e.heap (putb_get_ne (by omega) _), h.rr.heap (putb_get_ne (by omega) _), h.s.heap (putb_get_ne (ib_ne h.p h.s) _)⟩
theorem WS.setE (h : WS w3 q1 q2 q3 r m P E R S w) {cs : Array Value} (hc : w.heap[q2]? = some (.cells cs 3 (0, 0))) (i : Nat) (x : Int) : WS w3 q1 q2 q3 r m P (fun j => if j = i then x else E j) R S (w.putb q2 (.cells (cs.setIfInBounds i (.int .i64 x)) 3 (0, 0))) :=
  ⟨h.ext.putb (by omega) _, h.p.heap (putb_get_ne (by omega) _), ib_set h.e hc i x, h.rr.heap (putb_get_ne (by omega) _), h.s.heap (putb_get_ne (ib_ne h.e h.s) _)⟩
theorem WS.setR (h : WS w3 q1 q2 q3 r m P E R S w) {cs : Array Value} (hc : w.heap[q3]? = some (.cells cs 3 (0, 0))) (i : Nat) (x : Int) : WS w3 q1 q2 q3 r m P E (fun j => if j = i then x else R j) S (w.putb q3 (.cells (cs.setIfInBounds i (.int .i64 x)) 3 (0, 0))) :=
  ⟨h.ext.putb (by omega) _, h.p.heap (putb_get_ne (by omega) _), h.e.heap (putb_get_ne (by omega) _), ib_set h.rr hc i x, h.s.heap (putb_get_ne (ib_ne h.rr h.s) _)⟩
end
/-- the counters agree; the first i may have been counted once more -/
def bkF (L : List Lp) (c b : Int) : Bool := L.any fun x => decide (x.1 = c ∧ b ∈ x.2.2.1)
theorem bkF_snoc (L : List Lp) (x : Lp) (c b : Int) : bkF (L ++ [x]) c b = (bkF L c b || decide (x.1 = c ∧ b ∈ x.2.2.1)) := by
  unfold bkF
  rw [List.any_append]
  simp
def Cnt (m T i : Nat) (P E R : Nat → Int) : Prop := ∀ j, j < m → 0 ≤ E j ∧ 0 ≤ R j ∧ P j = E j + R j ∧ P j ≤ T + (if j < i then 1 else 0)
theorem Cnt.skip {m T i : Nat} {P E R : Nat → Int} (h : Cnt m T i P E R) : Cnt m T (i + 1) P E R := fun j hj => by
  obtain ⟨h1, h2, h3, h4⟩ := h j hj
  refine ⟨h1, h2, h3, ?_⟩
  by_cases e : j < i
  · rw [if_pos e] at h4; rw [if_pos (by omega)]; exact h4
  · rw [if_neg e] at h4
    split <;> omega
theorem Cnt.next {m T : Nat} {P E R : Nat → Int} (h : Cnt m T m P E R) : Cnt m (T + 1) 0 P E R := fun j hj => by
  obtain ⟨h1, h2, h3, h4⟩ := h j hj
  rw [if_pos hj] at h4
  refine ⟨h1, h2, h3, ?_⟩
  rw [if_neg (by omega)]
  omega
theorem Cnt.one {m T i : Nat} {P E R P' E' R' : Nat → Int} (h : Cnt m T i P E R) (hi : i < m) (ho : ∀ j, j < m → j ≠ i → P' j = P j ∧ E' j = E j ∧ R' j = R j) (h1 : P' i = P i + 1) (h2 : E' i = E i ∧ R' i = R i + 1 ∨ E' i = E i + 1 ∧ R' i = R i) : Cnt m T (i + 1) P' E' R' := fun j hj => by
  by_cases e : j = i
  · subst e
    obtain ⟨k1, k2, k3, k4⟩ := h j hj
    rw [if_neg (by omega)] at k4
    rw [if_pos (by omega)]
    omega
  · obtain ⟨e1, e2, e3⟩ := ho j hj e
    rw [e1, e2, e3]
    exact h.skip j hj
set_option maxHeartbeats 4000000 in
set_option maxRecDepth 10000 in
theorem LoopsWalks_spec (gv : Value) (B : List Blk) (PV : List (List Int)) (cv : Value) (C : List Int) (w : World) (h : GrAt w gv B PV) (hB : B.length ≤ 2000000) (hC : SlAt w cv 1 (C.map fun n => [.int .u8 n])) (hCm : C.length ≤ maxLen ∧ ∀ n ∈ C, 0 ≤ n ∧ n ≤ 255) : VRet Try.prog 7 #[gv, cv] w fun v w' => v = .bool true ∧ Ext w w' := by
  obtain ⟨hCl, hCr⟩ := hCm
  have hml : C.length ≤ 9223372036854775807 := by unfold maxLen at hCl; omega
  obtain ⟨bs, pv, rfl, hb0, hp0⟩ := h
  obtain ⟨ba, bc, rfl⟩ := hb0.form
  obtain ⟨pa, pc, rfl⟩ := hp0.form'
  obtain ⟨ca, cc, rfl⟩ : ∃ a c, cv = .slice a C.length c := by
    obtain ⟨a, c, e⟩ := SlAt.form hC
    exact ⟨a, c, by rw [e, List.length_map]⟩
  have z0 : #[Value.int IntKind.i64 0][0]! = Value.int .i64 0 := rfl
  refine VRet_start T.mo ok7 rfl fun Ψ hΨ => ?_; simp only [vc7, rs7]
  simp only [VS, VD, SV, SL, T, Nat.reduceEqDiff, Nat.reduceAdd, Nat.reduceSub, Nat.reduceMul, Nat.reduceLeDiff, Nat.reduceLT, reduceIte]
  refine (awake_spec _).mono ?_
  rintro _ w1 ⟨rfl, hE1⟩
  replace hE1 := ((Ext.refl w).alloc tomb).trans hE1
  simp only [VS, VD, SV, SL, T, Nat.reduceEqDiff, Nat.reduceAdd, Nat.reduceSub, Nat.reduceMul, Nat.reduceLeDiff, Nat.reduceLT, reduceIte, Bool.not_true]
  refine (found_spec _ B PV hB w1 ⟨_, _, rfl, hb0.ext hE1, hp0.ext hE1⟩).mono ?_
  rintro _ w2 ⟨hE2, hc⟩
  replace hE2 := hE1.trans hE2
  rcases hc with ⟨a, n, c, a', n', c', rfl⟩ | ⟨h14, hV, hbad, nv, lv, rfl, hNv, hL⟩
  · simp only [VS, VD, SV, SL, T, Nat.reduceEqDiff, Nat.reduceAdd, Nat.reduceSub, Nat.reduceMul, Nat.reduceLeDiff, Nat.reduceLT, reduceIte, Bool.not_false]
    exact hΨ _ _ ⟨rfl, hE2⟩
  obtain ⟨na, nc, rfl⟩ := hNv.form'
  obtain ⟨la, lc, rfl⟩ := hL.form
  by_cases h60 : 60 < (C.length : Int)
  · have d6 : decide (60 < (C.length : Int)) = true := decide_eq_true h60
    simp only [VS, VD, SV, SL, T, Nat.reduceEqDiff, Nat.reduceAdd, Nat.reduceSub, Nat.reduceMul, Nat.reduceLeDiff, Nat.reduceLT, reduceIte, Bool.not_true, d6]
    exact hΨ _ _ ⟨rfl, hE2⟩
  have d6 : decide (60 < (C.length : Int)) = false := decide_eq_false h60
  have hNV := VG_nv hV
  have hNl : (nx B).length = B.length := by unfold nx; rw [List.length_map]
  have hgd := good_of hbad
  have hG : ∀ w', Ext w2 w' → GrAt w' (.agg #[.slice ba B.length bc, .slice pa PV.length pc]) B PV := fun w' hE => ⟨_, _, rfl, hb0.ext (hE2.trans hE), hp0.ext (hE2.trans hE)⟩
  have hEl := edg_len (nx B) 0 hNV.two
  have hEn := fun lv x hx w' hE hL => Entries_own (.agg #[.slice ba B.length bc, .slice pa PV.length pc]) B PV hB (by omega) (fun l hl => by have := hNV.two l hl; omega) lv x hx w' (hG w' hE) hL
  generalize hNN : nx B = N at *
  have hN := hNV.ok
  have hN0 := hNV.pos
  have hLl := fnd_len N
  have hfa := fun {i : Nat} (hi : i < (fnd N).length) => fnd_at hi
  have hnst := fnd_nst hN hN0 hgd
  have hhd : ∀ k : Nat, lat N k ≠ [] → ∃ x ∈ fnd N, x.1 = (k : Int) ∧ x.2.2.1 = lat N k := fun k hk => by
    have h1 : (k : Int) ∈ hsL N := (hsL_mem hN).2 hk
    obtain ⟨j, hj, e⟩ := List.getElem_of_mem h1
    have hj' : j < (fnd N).length := by unfold fnd; rw [lstF_len]; exact hj
    obtain ⟨hh, pp, e1, _, _, e2, _⟩ := fnd_at hj'
    rw [List.getElem?_eq_getElem hj, e] at e2
    have : k = hh := by have := Option.some.inj e2; omega
    subst this
    exact ⟨_, List.getElem_mem hj', by rw [e1], by rw [e1]⟩
  generalize fnd N = L at *
  rw [hNl] at hNv
  rw [hNl]
  obtain ⟨nb, no, _, _, _, _, rfl, -⟩ := hNv.get' (i := 0) (by omega)
  have hC2 := hC.ext hE2
  clear hb0 hp0 hC hE1
  simp only [VS, VD, SV, SL, T, Nat.reduceEqDiff, Nat.reduceAdd, Nat.reduceSub, Nat.reduceMul, Nat.reduceLeDiff, Nat.reduceLT, reduceIte, Bool.not_true, d6, z0, Int.toNat_natCast]
  refine ⟨by omega, ?_⟩
  have hI1 := IB.made w2 L.length
  have hEa := (Ext.refl w2).alloc (.cells (Array.replicate L.length (.int .i64 0)) 3 (0, 0))
  generalize hwa : w2.alloc (.cells (Array.replicate L.length (.int .i64 0)) 3) = w3 at *
  refine DW_c (fun g w' => (g 1 = .slice ca C.length cc ∧ g 2 = .agg #[.slice ba B.length bc, .slice pa PV.length pc] ∧ g 5 = .slice (some ⟨nb, no, none⟩) B.length nc ∧ g 6 = .slice la L.length lc ∧ g 8 = .int .i64 0 ∧ g 9 = .slice (some ⟨w2.heap.size, 0, none⟩) L.length L.length) ∧ ∃ q2 q3, g 10 = .slice (some ⟨q2, 0, none⟩) L.length L.length ∧ g 11 = .slice (some ⟨q3, 0, none⟩) L.length L.length ∧ w3.heap.size ≤ q2 ∧ w3.heap.size ≤ q3 ∧ q2 ≠ q3 ∧ IB w' q2 L.length (fun _ => 0) ∧ IB w' q3 L.length (fun _ => 0) ∧ Ext w3 w') ?_ ?_
  · refine .inr ⟨fun K ok f w => WI [(1, .slice ca C.length cc), (2, .agg #[.slice ba B.length bc, .slice pa PV.length pc]), (5, .slice (some ⟨nb, no, none⟩) B.length nc), (6, .slice la L.length lc), (8, .int .i64 0), (9, .slice (some ⟨w2.heap.size, 0, none⟩) L.length L.length)] (.slice la L.length lc) L.length w3.drew K f w, ?_, ?_, ?_⟩
    · refine ⟨fun p hp => ?_, nofun, nofun, nofun, nofun, nofun, Ext.refl _⟩
      simp only [List.mem_cons, List.not_mem_nil, or_false] at hp
      rcases hp with rfl | rfl | rfl | rfl | rfl | rfl <;> simp [upd_apply, updO, fr0_zero, fr0_succ]
    · intro d hd K ok f w' H hKd hdeps
      have f6 : f 6 = .slice la L.length lc := (H.fr (6, .slice la L.length lc) (by simp)).2
      simp only [List.mem_cons, List.not_mem_nil, or_false] at hd
      rcases hd with rfl | rfl | rfl | rfl | rfl | rfl | rfl
      · simp only [stp, vi]; simp only [VS, VD, SV, SL, T, Nat.reduceEqDiff, Nat.reduceAdd, Nat.reduceSub, Nat.reduceMul, Nat.reduceLeDiff, Nat.reduceLT, reduceIte, f6]; exact H.slot (n := 0) (by omega) (by omega) rfl
      · have x0 : f 42 = _ := H.c 0 (by omega) (by omega) (hdeps 0 (by simp))
        simp only [stp, vi]; simp only [VS, VD, SV, SL, T, Nat.reduceEqDiff, Nat.reduceAdd, Nat.reduceSub, Nat.reduceMul, Nat.reduceLeDiff, Nat.reduceLT, reduceIte, x0]; exact H.slot (n := 1) (by omega) (by omega) rfl
      · have x1 : f 43 = _ := H.c 1 (by omega) (by omega) (hdeps 1 (by simp))
        simp only [stp, vi]; simp only [VS, VD, SV, SL, T, Nat.reduceEqDiff, Nat.reduceAdd, Nat.reduceSub, Nat.reduceMul, Nat.reduceLeDiff, Nat.reduceLT, reduceIte, x1, z0, Int.toNat_natCast]; exact ⟨by omega, H.mk2 hKd⟩
      · simp only [stp, vi]; simp only [VS, VD, SV, SL, T, Nat.reduceEqDiff, Nat.reduceAdd, Nat.reduceSub, Nat.reduceMul, Nat.reduceLeDiff, Nat.reduceLT, reduceIte, f6]; exact H.slot (n := 3) (by omega) (by omega) rfl
      · have x3 : f 45 = _ := H.c 3 (by omega) (by omega) (hdeps 3 (by simp))
        simp only [stp, vi]; simp only [VS, VD, SV, SL, T, Nat.reduceEqDiff, Nat.reduceAdd, Nat.reduceSub, Nat.reduceMul, Nat.reduceLeDiff, Nat.reduceLT, reduceIte, x3]; exact H.slot (n := 4) (by omega) (by omega) rfl
      · have x4 : f 46 = _ := H.c 4 (by omega) (by omega) (hdeps 4 (by simp))
        simp only [stp, vi]; simp only [VS, VD, SV, SL, T, Nat.reduceEqDiff, Nat.reduceAdd, Nat.reduceSub, Nat.reduceMul, Nat.reduceLeDiff, Nat.reduceLT, reduceIte, x4, z0, Int.toNat_natCast]; exact ⟨by omega, H.mk5⟩
      · obtain ⟨q, x2, _⟩ := H.c2 (hdeps 2 (by simp))
        have H6 := H.set6 (hdeps 2 (by simp)) (by simp)
        rw [x2] at H6
        simp only [stp, vi]; simp only [VS, VD, SV, SL, T, Nat.reduceEqDiff, Nat.reduceAdd, Nat.reduceSub, Nat.reduceMul, Nat.reduceLeDiff, Nat.reduceLT, reduceIte, x2]; exact H6
    · intro K ok f w' hall H
      simp only [List.mem_cons, List.not_mem_nil, or_false, forall_eq_or_imp, forall_eq] at hall
      obtain ⟨l0, l1, l2, l3, l4, l5, l6⟩ := hall
      obtain ⟨q2, k1, k2, k3⟩ := H.c2 l2
      obtain ⟨q3, k4, k5, k6⟩ := H.c5 l5
      have kd := H.d l2 l5
      have k10 := (H.c6 l6).2
      rw [k1] at k10 kd
      rw [k4] at kd
      have hfr := H.fr
      simp only [List.mem_cons, List.not_mem_nil, or_false, forall_eq_or_imp, forall_eq] at hfr
      obtain ⟨⟨_, a1⟩, ⟨_, a2⟩, ⟨_, a5⟩, ⟨_, a6⟩, ⟨_, a8⟩, ⟨_, a9⟩⟩ := hfr
      simp only [VS, VD, SV, SL, T, Nat.reduceEqDiff, Nat.reduceAdd, Nat.reduceSub, Nat.reduceMul, Nat.reduceLeDiff, Nat.reduceLT, reduceIte, k4]
      refine ⟨⟨a1, a2, a5, a6, a8, a9⟩, q2, q3, k10, rfl, k2, k5, fun e => kd (by rw [e]), k3, k6, (Ext.refl w3).drew.trans H.ext⟩
  rintro g w4 ⟨⟨g1, g2, g5, g6, g8, g9⟩, q2, q3, g10, g11, hq2, hq3, hq23, hI2, hI3, hE4⟩
  replace hI1 := hI1.ext hE4
  have hw3 : w3.heap.size = w2.heap.size + 1 := by rw [← hwa, alloc_size]
  have hE24 := hEa.trans hE4
  clear hwa
  generalize hq1 : w2.heap.size = q1 at *
  have hqs : (w2.heap.size ≤ q1 ∧ w2.heap.size ≤ q2 ∧ w2.heap.size ≤ q3) ∧ q1 ≠ q2 ∧ q1 ≠ q3 ∧ q2 ≠ q3 := by omega
  simp only [VS, VD, SV, SL, T, Nat.reduceEqDiff, Nat.reduceAdd, Nat.reduceSub, Nat.reduceMul, Nat.reduceLeDiff, Nat.reduceLT, reduceIte, g6]
  refine loop_cB (fun g w' => g 1 = .slice ca C.length cc ∧ g 2 = .agg #[.slice ba B.length bc, .slice pa PV.length pc] ∧ g 5 = .slice (some ⟨nb, no, none⟩) B.length nc ∧ g 6 = .slice la L.length lc ∧ g 9 = .slice (some ⟨q1, 0, none⟩) L.length L.length ∧ g 10 = .slice (some ⟨q2, 0, none⟩) L.length L.length ∧ g 11 = .slice (some ⟨q3, 0, none⟩) L.length L.length ∧ g 8 = .int .i64 0 ∧ Ext w2 w' ∧ ∃ P E R, IB w' q1 L.length P ∧ IB w' q2 L.length E ∧ IB w' q3 L.length R ∧ Cnt L.length 0 L.length P E R) ?_ ?_
  · refine LoopP_intro (α := Nat) (fun i g w' => g 1 = .slice ca C.length cc ∧ g 2 = .agg #[.slice ba B.length bc, .slice pa PV.length pc] ∧ g 5 = .slice (some ⟨nb, no, none⟩) B.length nc ∧ g 6 = .slice la L.length lc ∧ g 9 = .slice (some ⟨q1, 0, none⟩) L.length L.length ∧ g 10 = .slice (some ⟨q2, 0, none⟩) L.length L.length ∧ g 11 = .slice (some ⟨q3, 0, none⟩) L.length L.length ∧ g 8 = .int .i64 0 ∧ g 48 = .slice la L.length lc ∧ g 49 = .int .i64 L.length ∧ g 50 = .int .i64 i ∧ i ≤ L.length ∧ Ext w2 w' ∧ ∃ P E R, IB w' q1 L.length P ∧ IB w' q2 L.length E ∧ IB w' q3 L.length R ∧ (∀ j, j < L.length → 0 ≤ E j ∧ 0 ≤ R j ∧ P j = E j + R j ∧ P j ≤ 1) ∧ ∀ j, i ≤ j → j < L.length → P j = 0 ∧ E j = 0) (fun i => L.length - i) 0 ?_ ?_
    · simp only [VS, VD, SV, SL, T, Nat.reduceEqDiff, Nat.reduceAdd, Nat.reduceSub, Nat.reduceMul, Nat.reduceLeDiff, Nat.reduceLT, reduceIte, g1, g2, g5, g6, g9, g10, g11, g8]
      exact ⟨rfl, Nat.zero_le _, hE24, _, _, _, hI1, hI2, hI3, fun j _ => by simp, fun j _ _ => by simp⟩
    clear g1 g2 g5 g6 g9 g10 g11 g8
    rintro i g w' ⟨g1, g2, g5, g6, g9, g10, g11, g8, g48, g49, g50, hi, hE, P, E, R, hP, hE', hR, hcn, hz⟩
    simp only [VS, VD, SV, SL, T, Nat.reduceEqDiff, Nat.reduceAdd, Nat.reduceSub, Nat.reduceMul, Nat.reduceLeDiff, Nat.reduceLT, reduceIte, g49, g50]
    by_cases hlt : (i : Int) < L.length
    · rw [decide_eq_true hlt]
      have hi' : i < L.length := by omega
      obtain ⟨lb, lo, lcs, le, lfz, u, u', rfl, hlb, hls, hlv, hlx, hu, hu'⟩ := (hL.ext hE).get hi'
      generalize L[i] = x at *
      obtain ⟨hd, bl, lt, pr⟩ := x
      simp only [] at hlv hlx hu hu'
      obtain ⟨ua, uc, rfl⟩ := hu.form
      obtain ⟨ua', uc', rfl⟩ := hu'.form
      simp only [VS, VD, SV, SL, T, Nat.reduceEqDiff, Nat.reduceAdd, Nat.reduceSub, Nat.reduceMul, Nat.reduceLeDiff, Nat.reduceLT, reduceIte, g48, g50, hlb, hls, hlv, Int.toNat_natCast]
      refine ⟨by omega, ?_⟩
      have hEt := (Ext.refl w').alloc tomb
      replace hP := hP.ext hEt
      replace hE' := hE'.ext hEt
      replace hR := hR.ext hEt
      replace hEt := hE.trans hEt
      generalize w'.alloc tomb = w5 at *
      by_cases h0 : hd = 0
      · obtain ⟨z1, z2⟩ := hz i (Nat.le_refl _) hi'
        obtain ⟨pcs, hpb, hps, hpv⟩ := id hP
        have hP2 := ib_set hP hpb i (0 + 1)
        obtain ⟨ecs, heb, hes, hev⟩ := hE'.heap (w' := w5.putb q1 (.cells (pcs.setIfInBounds i (.int .i64 (0 + 1))) 3 (0, 0))) (putb_get_ne (by omega) _)
        have hE2' := ib_set (hE'.heap (w' := w5.putb q1 (.cells (pcs.setIfInBounds i (.int .i64 (0 + 1))) 3 (0, 0))) (putb_get_ne (by omega) _)) heb i (0 + 1)
        have hpi := hpv i hi'
        have hei := hev i hi'
        rw [z1] at hpi
        rw [z2] at hei
        have heb0 : w5.heap[q2]? = _ := (putb_get_ne (by omega) _).symm.trans heb
        have n1 : ¬ q2 = q1 := by omega
        have d1 : decide (hd = 0) = true := decide_eq_true h0
        have r1 : -9223372036854775808 ≤ (0 : Int) + 1 ∧ (0 : Int) + 1 ≤ 9223372036854775807 := by omega
        simp only [VS, VD, SV, SL, T, Nat.reduceEqDiff, Nat.reduceAdd, Nat.reduceSub, Nat.reduceMul, Nat.reduceLeDiff, Nat.reduceLT, reduceIte, d1, g9, g10, hpb, hpi, heb0, hei, n1, r1, Int.toNat_natCast]
        simp only [VS, VD, SV, SL, T, Nat.reduceEqDiff, Nat.reduceAdd, Nat.reduceSub, Nat.reduceMul, Nat.reduceLeDiff, Nat.reduceLT, reduceIte, g1, g2, g5, g6, g9, g10, g11, g8, g48, g49, g50]
        refine ⟨by omega, by omega, by omega, by omega, by omega, by omega, by omega, i + 1, ⟨by simp, by omega, (hEt.putb (by omega) _).putb (by omega) _, _, _, R, hP2.heap (putb_get_ne (by omega) _), hE2', (hR.heap (putb_get_ne (by omega) _)).heap (putb_get_ne (by omega) _), fun j hj => ?_, fun j h1 h2 => ?_⟩, by omega⟩
        · obtain ⟨k1, k2, k3, k4⟩ := hcn j hj
          by_cases e : j = i
          · subst e
            have hR0 : R j = 0 := by rw [z1, z2] at k3; omega
            simp [hR0]
          · simp only [if_neg e]
            exact ⟨k1, k2, k3, k4⟩
        · have e : ¬ j = i := by omega
          simp only [if_neg e]
          exact hz j (by omega) h2
      · have d1 : decide (hd = 0) = false := decide_eq_false h0
        simp only [VS, VD, SV, SL, T, Nat.reduceEqDiff, Nat.reduceAdd, Nat.reduceSub, Nat.reduceMul, Nat.reduceLeDiff, Nat.reduceLT, reduceIte, d1, g1, g2, g5, g6, g9, g10, g11, g8, g48, g49, g50]
        exact ⟨by omega, i + 1, ⟨by simp, by omega, hEt, P, E, R, hP, hE', hR, hcn, fun j h1 h2 => hz j (by omega) h2⟩, by omega⟩
    · rw [decide_eq_false hlt]
      simp only [VS, VD, SV, SL, T, Nat.reduceEqDiff, Nat.reduceAdd, Nat.reduceSub, Nat.reduceMul, Nat.reduceLeDiff, Nat.reduceLT, reduceIte, g1, g2, g5, g6, g9, g10, g11, g8]
      refine ⟨hE, P, E, R, hP, hE', hR, fun j hj => ?_⟩
      obtain ⟨k1, k2, k3, k4⟩ := hcn j hj
      rw [if_pos hj]
      exact ⟨k1, k2, k3, by omega⟩
  clear g1 g2 g5 g6 g9 g10 g11 g8 hI1 hI2 hI3
  rintro g w5 ⟨g1, g2, g5, g6, g9, g10, g11, g8, hE5, P0, E0, R0, hP0, hE0, hR0, hcn0⟩
  simp only [VS, VD, SV, SL, T, Nat.reduceEqDiff, Nat.reduceAdd, Nat.reduceSub, Nat.reduceMul, Nat.reduceLeDiff, Nat.reduceLT, reduceIte]
  rw [oV_insert]
  simp only [VS, VD, SV, SL, T, Nat.reduceEqDiff, Nat.reduceAdd, Nat.reduceSub, Nat.reduceMul, Nat.reduceLeDiff, Nat.reduceLT, reduceIte]
  have hS0 := SetM.new w5
  have hE6 := hE5.alloc (.map #[] 0)
  have hx6 := (Ext.refl w5).alloc (.map #[] 0)
  have hr5 : w2.heap.size ≤ w5.heap.size := hE5.size
  have hl1 := hP0.lt
  have hl2 := hE0.lt
  have hl3 := hR0.lt
  replace hP0 := hP0.ext hx6
  replace hE0 := hE0.ext hx6
  replace hR0 := hR0.ext hx6
  clear hx6
  generalize w5.alloc (.map #[] 0) = w6 at *
  refine hS0.put 0 ?_
  rintro w7 ⟨o, rfl⟩ hS7
  have hW7 : WS w2 q1 q2 q3 w5.heap.size L.length P0 E0 R0 (setI (fun _ => false) 0) (w6.putb w5.heap.size o) := ⟨hE6.putb hr5 o, hP0.heap (putb_get_ne (by omega) _), hE0.heap (putb_get_ne (by omega) _), hR0.heap (putb_get_ne (by omega) _), hS7⟩
  generalize w6.putb w5.heap.size o = w7 at *
  generalize w5.heap.size = r0 at *
  have hRE0 : RE N 0 := (gg_of hN hN0).elim fun t hg => hg.r0
  have hS00 : ∀ k, setI (fun _ => false) 0 k = true → ∃ s : Nat, k = s ∧ PO N s ≤ PO N 0 := fun k hk => by
    unfold setI at hk
    by_cases e : k = 0
    · exact ⟨0, e, Nat.le_refl _⟩
    · rw [if_neg e] at hk; cases hk
  have hC60 : C.length ≤ 60 := by omega
  simp only [VS, VD, SV, SL, T, Nat.reduceEqDiff, Nat.reduceAdd, Nat.reduceSub, Nat.reduceMul, Nat.reduceLeDiff, Nat.reduceLT, reduceIte, g1]
  refine loop_cB (fun g w' => g 1 = .slice ca C.length cc ∧ g 2 = .agg #[.slice ba B.length bc, .slice pa PV.length pc] ∧ g 5 = .slice (some ⟨nb, no, none⟩) B.length nc ∧ g 6 = .slice la L.length lc ∧ g 9 = .slice (some ⟨q1, 0, none⟩) L.length L.length ∧ g 10 = .slice (some ⟨q2, 0, none⟩) L.length L.length ∧ g 11 = .slice (some ⟨q3, 0, none⟩) L.length L.length ∧ Ext w2 w' ∧ ∃ P E R, IB w' q1 L.length P ∧ IB w' q2 L.length E ∧ IB w' q3 L.length R ∧ ∀ j, j < L.length → 0 ≤ E j ∧ 0 ≤ R j ∧ P j = E j + R j ∧ P j ≤ 100) ?_ ?_
  · refine LoopP_intro (α := Nat) (fun t g w' => g 1 = .slice ca C.length cc ∧ g 2 = .agg #[.slice ba B.length bc, .slice pa PV.length pc] ∧ g 5 = .slice (some ⟨nb, no, none⟩) B.length nc ∧ g 6 = .slice la L.length lc ∧ g 9 = .slice (some ⟨q1, 0, none⟩) L.length L.length ∧ g 10 = .slice (some ⟨q2, 0, none⟩) L.length L.length ∧ g 11 = .slice (some ⟨q3, 0, none⟩) L.length L.length ∧ g 73 = .slice ca C.length cc ∧ g 74 = .int .i64 C.length ∧ g 75 = .int .i64 t ∧ t ≤ C.length ∧ ∃ (b r : Nat) (P E R : Nat → Int) (S : Int → Bool), g 8 = .int .i64 b ∧ g 14 = .map (some r) ∧ RE N b ∧ w2.heap.size ≤ r ∧ WS w2 q1 q2 q3 r L.length P E R S w' ∧ Cnt L.length (t + 1) 0 P E R ∧ ∀ k, S k = true → ∃ s : Nat, k = s ∧ PO N s ≤ PO N b) (fun t => C.length - t) 0 ?_ ?_
    · simp only [VS, VD, SV, SL, T, Nat.reduceEqDiff, Nat.reduceAdd, Nat.reduceSub, Nat.reduceMul, Nat.reduceLeDiff, Nat.reduceLT, reduceIte, g1, g2, g5, g6, g9, g10, g11, g8]
      exact ⟨rfl, Nat.zero_le _, 0, r0, P0, E0, R0, _, rfl, rfl, hRE0, hr5, hW7, hcn0.next, hS00⟩
    clear g1 g2 g5 g6 g9 g10 g11 g8 hcn0 hW7 hS7 hP0 hE0 hR0 hS0
    rintro t g w8 ⟨g1, g2, g5, g6, g9, g10, g11, g73, g74, g75, ht, b, r, P, E, R, S, g8, g14, hRb, hr, hW, hcn, hSS⟩
    simp only [VS, VD, SV, SL, T, Nat.reduceEqDiff, Nat.reduceAdd, Nat.reduceSub, Nat.reduceMul, Nat.reduceLeDiff, Nat.reduceLT, reduceIte, g74, g75]
    by_cases hlt : (t : Int) < C.length
    · rw [decide_eq_true hlt]
      have ht' : t < C.length := by omega
      obtain ⟨xb, xo, xcs, xe, xfz, rfl, hxb, hxc⟩ := u8_get (hC2.ext hW.ext) ht'
      obtain ⟨hx0, hx1⟩ := hCr _ (List.getElem_mem ht')
      generalize C[t] = x at *
      have hbn : b < N.length := RE.lt hN hN0 hRb
      obtain ⟨rb, ro, rcs, re, rfz, ur, q, hrb, hrc, hru⟩ := (hNv.ext hW.ext).get' (i := b) (by omega)
      simp only [Option.some.injEq, Addr.mk.injEq, and_true] at q
      obtain ⟨rfl, rfl⟩ := q
      have hsc : N[b]'hbn = sc N b := by unfold sc; rw [List.getD_eq_getElem?_getD, List.getElem?_eq_getElem hbn]; rfl
      rw [hsc] at hru
      have hrl : (sc N b).length ≤ 2 := by rw [← hsc]; exact hNV.two _ (List.getElem_mem hbn)
      have hrow : ∀ m ∈ sc N b, ∃ c : Nat, m = c ∧ ED N b c := fun m hm => by
        obtain ⟨h1, _⟩ := hN.sc hm
        exact ⟨m.toNat, by omega, by show ((m.toNat : Nat) : Int) ∈ sc N b; rw [show ((m.toNat : Nat) : Int) = m by omega]; exact hm⟩
      have hED0 : ∀ c : Nat, (c : Int) ∈ sc N b → ED N b c := fun c h => h
      generalize hrw : sc N b = row at *
      obtain ⟨ra, rc, rfl⟩ := hru.form
      by_cases hz : row.length = 0
      · have d0 : decide ((row.length : Int) = 0) = true := decide_eq_true (by omega)
        simp only [VS, VD, SV, SL, T, Nat.reduceEqDiff, Nat.reduceAdd, Nat.reduceSub, Nat.reduceMul, Nat.reduceLeDiff, Nat.reduceLT, reduceIte, g73, g75, g5, g8, hxb, hxc, hrb, hrc, d0, Int.toNat_natCast]
        refine ⟨by omega, by omega, ?_⟩
        simp only [VS, VD, SV, SL, T, Nat.reduceEqDiff, Nat.reduceAdd, Nat.reduceSub, Nat.reduceMul, Nat.reduceLeDiff, Nat.reduceLT, reduceIte, g1, g2, g5, g6, g9, g10, g11]
        refine ⟨hW.ext, P, E, R, hW.p, hW.e, hW.rr, fun j hj => ?_⟩
        obtain ⟨k1, k2, k3, k4⟩ := hcn j hj
        exact ⟨k1, k2, k3, by split at k4 <;> omega⟩
      have d0 : decide ((row.length : Int) = 0) = false := decide_eq_false (by omega)
      have hne : (row.length : Int) ≠ 0 := by omega
      simp only [VS, VD, SV, SL, T, Nat.reduceEqDiff, Nat.reduceAdd, Nat.reduceSub, Nat.reduceMul, Nat.reduceLeDiff, Nat.reduceLT, reduceIte, g73, g75, g5, g8, hxb, hxc, hrb, hrc, d0, Int.toNat_natCast]
      refine ⟨by omega, by omega, ?_⟩
      have hm0 : 0 ≤ x % (row.length : Int) := Int.emod_nonneg _ hne
      have hm1 : x % (row.length : Int) < row.length := Int.emod_lt_of_pos _ (by omega)
      obtain ⟨k0, hk0⟩ := Int.eq_ofNat_of_zero_le hm0
      have hk1 : k0 < row.length := by omega
      obtain ⟨c, hcc, hED'⟩ := hrow _ (List.getElem_mem hk1)
      obtain ⟨bu, ou, cu, eu, fu, rfl, _, hbu, hcu⟩ := hru.get (i := k0) (x := (c : Int)) (by rw [← hcc]; simp)
      refine DW_c (fun g' w' => g' 1 = .slice (some ⟨xb, xo, none⟩) C.length cc ∧ g' 2 = .agg #[.slice ba B.length bc, .slice pa PV.length pc] ∧ g' 5 = .slice (some ⟨nb, no, none⟩) B.length nc ∧ g' 6 = .slice la L.length lc ∧ g' 9 = .slice (some ⟨q1, 0, none⟩) L.length L.length ∧ g' 10 = .slice (some ⟨q2, 0, none⟩) L.length L.length ∧ g' 11 = .slice (some ⟨q3, 0, none⟩) L.length L.length ∧ g' 73 = .slice (some ⟨xb, xo, none⟩) C.length cc ∧ g' 74 = .int .i64 C.length ∧ g' 75 = .int .i64 t ∧ g' 8 = .int .i64 b ∧ g' 14 = .map (some r) ∧ g' 17 = .int .i64 c ∧ Ext w8 w') ?_ ?_
      · refine DW_intro (fun _ _ _ _ => True) ?_
        simp only [VS, VD, SV, SL, T, Nat.reduceEqDiff, Nat.reduceAdd, Nat.reduceSub, Nat.reduceMul, Nat.reduceLeDiff, Nat.reduceLT, reduceIte, g1, g2, g5, g6, g9, g10, g11, g73, g74, g75, g8, hrb, hrc, hne, Int.toNat_natCast]
        refine ⟨by omega, by omega, by omega, by omega, ?_⟩
        intro w9 hE9 _
        have hbu9 := hE9.obj hbu
        simp only [VS, VD, SV, SL, T, Nat.reduceEqDiff, Nat.reduceAdd, Nat.reduceSub, Nat.reduceMul, Nat.reduceLeDiff, Nat.reduceLT, reduceIte, hk0, hbu9, hcu, g1, g2, g5, g6, g9, g10, g11, g73, g74, g75, g8, g14, Int.toNat_natCast]
        exact ⟨by omega, hE9⟩
      clear g1 g2 g5 g6 g9 g10 g11 g73 g74 g75 g8 g14
      rintro g w9 ⟨g1, g2, g5, g6, g9, g10, g11, g73, g74, g75, g8, g14, g17, hE9⟩
      replace hW := hW.ext' hE9
      have hcn0 := hcn
      have hrw2 : ∀ x ∈ sc N b, True := fun _ _ => trivial
      simp only [VS, VD, SV, SL, T, Nat.reduceEqDiff, Nat.reduceAdd, Nat.reduceSub, Nat.reduceMul, Nat.reduceLeDiff, Nat.reduceLT, reduceIte, g6]
      refine loop_cB (fun g w' => g 1 = .slice (some ⟨xb, xo, none⟩) C.length cc ∧ g 2 = .agg #[.slice ba B.length bc, .slice pa PV.length pc] ∧ g 5 = .slice (some ⟨nb, no, none⟩) B.length nc ∧ g 6 = .slice la L.length lc ∧ g 9 = .slice (some ⟨q1, 0, none⟩) L.length L.length ∧ g 10 = .slice (some ⟨q2, 0, none⟩) L.length L.length ∧ g 11 = .slice (some ⟨q3, 0, none⟩) L.length L.length ∧ g 73 = .slice (some ⟨xb, xo, none⟩) C.length cc ∧ g 74 = .int .i64 C.length ∧ g 75 = .int .i64 t ∧ g 8 = .int .i64 b ∧ g 14 = .map (some r) ∧ g 17 = .int .i64 c ∧ g 18 = .bool (bkF L c b) ∧ ∃ P E R, WS w2 q1 q2 q3 r L.length P E R S w' ∧ Cnt L.length (t + 1) L.length P E R) ?_ ?_
      · refine LoopP_intro (α := Nat) (fun i g w' => g 1 = .slice (some ⟨xb, xo, none⟩) C.length cc ∧ g 2 = .agg #[.slice ba B.length bc, .slice pa PV.length pc] ∧ g 5 = .slice (some ⟨nb, no, none⟩) B.length nc ∧ g 6 = .slice la L.length lc ∧ g 9 = .slice (some ⟨q1, 0, none⟩) L.length L.length ∧ g 10 = .slice (some ⟨q2, 0, none⟩) L.length L.length ∧ g 11 = .slice (some ⟨q3, 0, none⟩) L.length L.length ∧ g 73 = .slice (some ⟨xb, xo, none⟩) C.length cc ∧ g 74 = .int .i64 C.length ∧ g 75 = .int .i64 t ∧ g 8 = .int .i64 b ∧ g 14 = .map (some r) ∧ g 17 = .int .i64 c ∧ g 99 = .slice la L.length lc ∧ g 100 = .int .i64 L.length ∧ g 101 = .int .i64 i ∧ g 18 = .bool (bkF (L.take i) c b) ∧ i ≤ L.length ∧ ∃ P E R, WS w2 q1 q2 q3 r L.length P E R S w' ∧ Cnt L.length (t + 1) i P E R) (fun i => L.length - i) 0 ?_ ?_
        · simp only [VS, VD, SV, SL, T, Nat.reduceEqDiff, Nat.reduceAdd, Nat.reduceSub, Nat.reduceMul, Nat.reduceLeDiff, Nat.reduceLT, reduceIte, g1, g2, g5, g6, g9, g10, g11, g73, g74, g75, g8, g14, g17]
          exact ⟨rfl, rfl, Nat.zero_le _, P, E, R, hW, hcn⟩
        clear g1 g2 g5 g6 g9 g10 g11 g73 g74 g75 g8 g14 g17 hW hcn hcn0
        clear P E R
        rintro i g w10 ⟨g1, g2, g5, g6, g9, g10, g11, g73, g74, g75, g8, g14, g17, g99, g100, g101, g18, hi, P, E, R, hW, hcn⟩
        simp only [VS, VD, SV, SL, T, Nat.reduceEqDiff, Nat.reduceAdd, Nat.reduceSub, Nat.reduceMul, Nat.reduceLeDiff, Nat.reduceLT, reduceIte, g100, g101]
        by_cases hil : (i : Int) < L.length
        · rw [decide_eq_true hil]
          have hi' : i < L.length := by omega
          have htk : L.take (i + 1) = L.take i ++ [L[i]] := List.take_succ_eq_append_getElem hi'
          have hEw := hW.ext
          obtain ⟨lb, lo, lcs, le, lfz, u, u', rfl, hlb, hls, hlv, hlx, hu, hu'⟩ := hL.get hi'
          replace hlb := hEw.obj hlb
          have hex : bkF (L.take (i + 1)) c b = (bkF (L.take i) c b || decide (L[i].1 = (c : Int) ∧ (b : Int) ∈ L[i].2.2.1)) := by
            rw [htk, bkF_snoc]
          obtain ⟨h, pr, hxx, hhn, hne0, _, _⟩ := hfa hi'
          rw [hxx] at hlv hlx hu hu' hex
          simp only [] at hlv hlx hu hu' hex
          have hasc : decide ((b : Int) ∈ ascL N.length (bdS N h (lat N h))) = bdS N h (lat N h) b := ascL_at hbn
          have hlb2 := lat_body hN hN0 hgd (h := h) (a := b) hRb
          have hbll : (ascL N.length (bdS N h (lat N h))).length ≤ 2000000 := by have := ascL_len N.length (bdS N h (lat N h)); omega
          have hltl : (lat N h).length ≤ 1000000 := by
            have h1 := latL_len N (edg 0 N) (h : Int)
            unfold lat
            omega
          generalize hbl : ascL N.length (bdS N h (lat N h)) = bl at *
          generalize hltg : lat N h = lt at *
          obtain ⟨ua, uc, rfl⟩ := hu.form
          obtain ⟨ua', uc', rfl⟩ := hu'.form
          simp only [VS, VD, SV, SL, T, Nat.reduceEqDiff, Nat.reduceAdd, Nat.reduceSub, Nat.reduceMul, Nat.reduceLeDiff, Nat.reduceLT, reduceIte, g99, g101, hlb, hls, hlv, g17, Int.toNat_natCast]
          refine ⟨by omega, ?_⟩
          have hEt := (Ext.refl w10).alloc tomb
          have hWt := hW.ext' hEt
          generalize w10.alloc tomb = w11 at *
          by_cases hc : h = c
          · subst hc
            have d2 : decide (¬ (h : Int) = (h : Int)) = false := decide_eq_false (fun q => q rfl)
            obtain ⟨kE, kR, kP, kB⟩ := hcn i hi'
            rw [if_neg (by omega)] at kB
            obtain ⟨pcs, hpb, hps, hpv⟩ := id hWt.p
            have hpi := hpv i hi'
            have r1 : -9223372036854775808 ≤ P i + 1 ∧ P i + 1 ≤ 9223372036854775807 := by omega
            have hW12 := hWt.setP hqs hpb i (P i + 1)
            simp only [VS, VD, SV, SL, T, Nat.reduceEqDiff, Nat.reduceAdd, Nat.reduceSub, Nat.reduceMul, Nat.reduceLeDiff, Nat.reduceLT, reduceIte, d2, g9, hpb, hpi, r1, Int.toNat_natCast, g8]
            refine ⟨by omega, by omega, by omega, ?_⟩
            generalize w11.putb q1 (.cells (pcs.setIfInBounds i (.int .i64 (P i + 1))) 3 (0, 0)) = w12 at *
            refine (in_spec _ lt (by omega) (b : Int) w12 (hu'.ext hW12.ext)).mono ?_
            rintro _ w13 ⟨rfl, hE13⟩
            have hW13 := hW12.ext' hE13
            simp only [VS, VD, SV, SL, T, Nat.reduceEqDiff, Nat.reduceAdd, Nat.reduceSub, Nat.reduceMul, Nat.reduceLeDiff, Nat.reduceLT, reduceIte]
            refine cnd_c (fun g' w' => g' 1 = .slice (some ⟨xb, xo, none⟩) C.length cc ∧ g' 2 = .agg #[.slice ba B.length bc, .slice pa PV.length pc] ∧ g' 5 = .slice (some ⟨nb, no, none⟩) B.length nc ∧ g' 6 = .slice (some ⟨lb, lo, none⟩) L.length lc ∧ g' 9 = .slice (some ⟨q1, 0, none⟩) L.length L.length ∧ g' 10 = .slice (some ⟨q2, 0, none⟩) L.length L.length ∧ g' 11 = .slice (some ⟨q3, 0, none⟩) L.length L.length ∧ g' 73 = .slice (some ⟨xb, xo, none⟩) C.length cc ∧ g' 74 = .int .i64 C.length ∧ g' 75 = .int .i64 t ∧ g' 8 = .int .i64 b ∧ g' 14 = .map (some r) ∧ g' 17 = .int .i64 h ∧ g' 99 = .slice (some ⟨lb, lo, none⟩) L.length lc ∧ g' 100 = .int .i64 L.length ∧ g' 101 = .int .i64 i ∧ g' 19 = .int .i64 i ∧ g' 20 = .agg #[.int .i64 h, .slice ua bl.length uc, .slice ua' lt.length uc', .int .i64 pr] ∧ g' 18 = .bool (bkF (L.take (i + 1)) h b) ∧ ∃ R', WS w2 q1 q2 q3 r L.length (fun j => if j = i then P i + 1 else P j) E R' S w' ∧ (∀ j, j ≠ i → R' j = R j) ∧ R' i = R i + (if (b : Int) ∈ lt then 1 else 0)) ?_ ?_
            · refine cnd_d (fun hin => ?_) (fun hin => ?_)
              · obtain ⟨rcs2, hrb2, hrs2, hrv2⟩ := id hW13.rr
                have hri := hrv2 i hi'
                have r2 : -9223372036854775808 ≤ R i + 1 ∧ R i + 1 ≤ 9223372036854775807 := by omega
                have hW14 := hW13.setR hqs hrb2 i (R i + 1)
                simp only [VS, VD, SV, SL, T, Nat.reduceEqDiff, Nat.reduceAdd, Nat.reduceSub, Nat.reduceMul, Nat.reduceLeDiff, Nat.reduceLT, reduceIte, g11, hrb2, hri, r2, Int.toNat_natCast, g1, g2, g5, g6, g9, g10, g73, g74, g75, g8, g14, g17, g99, g100, g101]
                have e18 : bkF (L.take (i + 1)) h b = true := by rw [hex, decide_eq_true ⟨rfl, hin⟩, Bool.or_true]
                refine ⟨by omega, by omega, by omega, by rw [e18], _, hW14, fun j hj => if_neg hj, by simp [hin]⟩
              · simp only [VS, VD, SV, SL, T, Nat.reduceEqDiff, Nat.reduceAdd, Nat.reduceSub, Nat.reduceMul, Nat.reduceLeDiff, Nat.reduceLT, reduceIte, g1, g2, g5, g6, g9, g10, g11, g73, g74, g75, g8, g14, g17, g99, g100, g101, g18]
                refine ⟨?_, R, hW13, fun j _ => rfl, by simp [hin]⟩
                rw [hex, decide_eq_false (fun q => hin q.2), Bool.or_false]
            clear g1 g2 g5 g6 g9 g10 g11 g73 g74 g75 g8 g14 g17 g99 g100 g101 g18
            rintro g w14 ⟨g1, g2, g5, g6, g9, g10, g11, g73, g74, g75, g8, g14, g17, g99, g100, g101, g19, g20, g18, R', hW14, hR1, hR2⟩
            simp only [VS, VD, SV, SL, T, Nat.reduceEqDiff, Nat.reduceAdd, Nat.reduceSub, Nat.reduceMul, Nat.reduceLeDiff, Nat.reduceLT, reduceIte, g2, g20]
            refine (hEn _ ((h : Int), bl, lt, pr) (by simp only []; omega) w14 hW14.ext ⟨_, _, rfl, hu.ext hW14.ext, hu'.ext hW14.ext⟩).mono ?_
            rintro v15 w15 ⟨hP15, hE15⟩
            have hedge : ((b : Int), (h : Int)) ∈ edg 0 N := (edg_mem N 0 _).2 ⟨b, hbn, by simp, hED'⟩
            have hcnt := ent_cnt hNV.nd ((h : Int), bl, lt, pr) hedge
            have hEntl : ((edg 0 N).filter (entB ((h : Int), bl, lt, pr))).length ≤ (edg 0 N).length := List.length_filter_le _ _
            generalize hEg : (edg 0 N).filter (entB ((h : Int), bl, lt, pr)) = Ent at *
            obtain ⟨ea, ec, rfl⟩ := hP15.form
            have hW15 := hW14.ext' hE15
            simp only [VS, VD, SV, SL, T, Nat.reduceEqDiff, Nat.reduceAdd, Nat.reduceSub, Nat.reduceMul, Nat.reduceLeDiff, Nat.reduceLT, reduceIte]
            have hq14 : q2 < w14.heap.size := hW14.e.lt
            · refine LoopP_intro (α := Nat) (fun k g w' => g 1 = .slice (some ⟨xb, xo, none⟩) C.length cc ∧ g 2 = .agg #[.slice ba B.length bc, .slice pa PV.length pc] ∧ g 5 = .slice (some ⟨nb, no, none⟩) B.length nc ∧ g 6 = .slice (some ⟨lb, lo, none⟩) L.length lc ∧ g 9 = .slice (some ⟨q1, 0, none⟩) L.length L.length ∧ g 10 = .slice (some ⟨q2, 0, none⟩) L.length L.length ∧ g 11 = .slice (some ⟨q3, 0, none⟩) L.length L.length ∧ g 73 = .slice (some ⟨xb, xo, none⟩) C.length cc ∧ g 74 = .int .i64 C.length ∧ g 75 = .int .i64 t ∧ g 8 = .int .i64 b ∧ g 14 = .map (some r) ∧ g 17 = .int .i64 h ∧ g 99 = .slice (some ⟨lb, lo, none⟩) L.length lc ∧ g 100 = .int .i64 L.length ∧ g 101 = .int .i64 i ∧ g 19 = .int .i64 i ∧ g 20 = .agg #[.int .i64 h, .slice ua bl.length uc, .slice ua' lt.length uc', .int .i64 pr] ∧ g 18 = .bool (bkF (L.take (i + 1)) h b) ∧ g 128 = .slice ea Ent.length ec ∧ g 129 = .int .i64 Ent.length ∧ g 130 = .int .i64 k ∧ k ≤ Ent.length ∧ PrO w14.heap.size w' (.slice ea Ent.length ec) Ent ∧ WS w2 q1 q2 q3 r L.length (fun j => if j = i then P i + 1 else P j) (fun j => if j = i then E i + cntK Ent k ((b : Int), (h : Int)) else E j) R' S w') (fun k => Ent.length - k) 0 ?_ ?_
              · simp only [VS, VD, SV, SL, T, Nat.reduceEqDiff, Nat.reduceAdd, Nat.reduceSub, Nat.reduceMul, Nat.reduceLeDiff, Nat.reduceLT, reduceIte, g1, g2, g5, g6, g9, g10, g11, g73, g74, g75, g8, g14, g17, g99, g100, g101, g19, g20, g18]
                refine ⟨rfl, Nat.zero_le _, hP15, ?_⟩
                have : (fun j => if j = i then E i + ((cntK Ent 0 ((b : Int), (h : Int)) : Nat) : Int) else E j) = E := by
                  funext j
                  by_cases e : j = i
                  · subst e; rw [if_pos rfl]; simp [cntK]
                  · rw [if_neg e]
                rw [this]
                exact hW15
              clear g1 g2 g5 g6 g9 g10 g11 g73 g74 g75 g8 g14 g17 g99 g100 g101 g19 g20 g18
              rintro k g w16 ⟨g1, g2, g5, g6, g9, g10, g11, g73, g74, g75, g8, g14, g17, g99, g100, g101, g19, g20, g18, g128, g129, g130, hk, hO16, hW16⟩
              simp only [VS, VD, SV, SL, T, Nat.reduceEqDiff, Nat.reduceAdd, Nat.reduceSub, Nat.reduceMul, Nat.reduceLeDiff, Nat.reduceLT, reduceIte, g129, g130]
              by_cases hkl : (k : Int) < Ent.length
              · rw [decide_eq_true hkl]
                have hk' : k < Ent.length := by omega
                have hcs := cntK_succ hk' ((b : Int), (h : Int))
                have hck := cntK_le Ent k ((b : Int), (h : Int))
                obtain ⟨eb, eo, ecs, ee, efz, rfl, heb, hes, hexx⟩ := hO16.at.get hk'
                generalize Ent[k] = e at *
                obtain ⟨e1, e2⟩ := e
                simp only [] at hexx
                simp only [VS, VD, SV, SL, T, Nat.reduceEqDiff, Nat.reduceAdd, Nat.reduceSub, Nat.reduceMul, Nat.reduceLeDiff, Nat.reduceLT, reduceIte, g128, g130, heb, hes, hexx, g8, g17, Int.toNat_natCast]
                refine ⟨by omega, ?_⟩
                have hEt := (Ext.refl w16).alloc tomb
                replace hO16 := hO16.ext hEt
                replace hW16 := hW16.ext' hEt
                generalize w16.alloc tomb = w17 at *
                by_cases he : e1 = (b : Int) ∧ e2 = (h : Int)
                · obtain ⟨rfl, rfl⟩ := he
                  rw [if_pos rfl] at hcs
                  obtain ⟨ecs2, heb2, hes2, hev2⟩ := id hW16.e
                  have hei : ecs2[i]? = some (.int .i64 (E i + ((cntK Ent k ((b : Int), (h : Int)) : Nat) : Int))) := by
                    have := hev2 i hi'
                    simpa using this
                  have r3 : -9223372036854775808 ≤ E i + ((cntK Ent k ((b : Int), (h : Int)) : Nat) : Int) + 1 ∧ E i + ((cntK Ent k ((b : Int), (h : Int)) : Nat) : Int) + 1 ≤ 9223372036854775807 := by omega
                  have hW18 := hW16.setE hqs heb2 i (E i + ((cntK Ent k ((b : Int), (h : Int)) : Nat) : Int) + 1)
                  have hO18 := own_at (w' := w17.putb q2 (.cells (ecs2.setIfInBounds i (.int .i64 (E i + ((cntK Ent k ((b : Int), (h : Int)) : Nat) : Int) + 1))) 3 (0, 0))) hO16 fun x hx => putb_get_ne (by have := (hO16.lt x hx).1; omega) _
                  simp only [VS, VD, SV, SL, T, Nat.reduceEqDiff, Nat.reduceAdd, Nat.reduceSub, Nat.reduceMul, Nat.reduceLeDiff, Nat.reduceLT, reduceIte, dEq, g10, g19, heb2, hei, r3, Int.toNat_natCast, g1, g2, g5, g6, g9, g11, g73, g74, g75, g8, g14, g17, g99, g100, g101, g20, g18, g128, g129, g130]
                  have e3 : (fun j => if j = i then E i + ((cntK Ent k ((b : Int), (h : Int)) : Nat) : Int) + 1 else if j = i then E i + ((cntK Ent k ((b : Int), (h : Int)) : Nat) : Int) else E j) = (fun j => if j = i then E i + ((cntK Ent (k + 1) ((b : Int), (h : Int)) : Nat) : Int) else E j) := by
                    funext j
                    by_cases e : j = i
                    · simp only [if_pos e]; rw [hcs]; omega
                    · simp only [if_neg e]
                  rw [e3] at hW18
                  exact ⟨by omega, by omega, by omega, by omega, k + 1, ⟨by simp, by omega, hO18, hW18⟩, by omega⟩
                · rw [if_neg (by simpa using he)] at hcs
                  by_cases he1 : e1 = (b : Int)
                  · have dA : decide (e1 = (b : Int)) = true := decide_eq_true he1
                    have dB : decide (e2 = (h : Int)) = false := decide_eq_false fun q => he ⟨he1, q⟩
                    simp only [VS, VD, SV, SL, T, Nat.reduceEqDiff, Nat.reduceAdd, Nat.reduceSub, Nat.reduceMul, Nat.reduceLeDiff, Nat.reduceLT, reduceIte, dA, dB, g1, g2, g5, g6, g9, g10, g11, g73, g74, g75, g8, g14, g17, g99, g100, g101, g19, g20, g18, g128, g129, g130]
                    exact ⟨by omega, k + 1, ⟨by simp, by omega, hO16, by rw [hcs]; exact hW16⟩, by omega⟩
                  · have dA : decide (e1 = (b : Int)) = false := decide_eq_false he1
                    simp only [VS, VD, SV, SL, T, Nat.reduceEqDiff, Nat.reduceAdd, Nat.reduceSub, Nat.reduceMul, Nat.reduceLeDiff, Nat.reduceLT, reduceIte, dA, g1, g2, g5, g6, g9, g10, g11, g73, g74, g75, g8, g14, g17, g99, g100, g101, g19, g20, g18, g128, g129, g130]
                    exact ⟨by omega, k + 1, ⟨by simp, by omega, hO16, by rw [hcs]; exact hW16⟩, by omega⟩
              · rw [decide_eq_false hkl]
                obtain rfl : k = Ent.length := by omega
                rw [hcnt] at hW16
                simp only [VS, VD, SV, SL, T, Nat.reduceEqDiff, Nat.reduceAdd, Nat.reduceSub, Nat.reduceMul, Nat.reduceLeDiff, Nat.reduceLT, reduceIte, g1, g2, g5, g6, g9, g10, g11, g73, g74, g75, g8, g14, g17, g99, g100, g101, g19, g20, g18]
                have e4 : (fun j => if j = i then E i + ((if entB ((h : Int), bl, lt, pr) ((b : Int), (h : Int)) = true then 1 else 0 : Nat) : Int) else E j) = (fun j => if j = i then E i + (if entB ((h : Int), bl, lt, pr) ((b : Int), (h : Int)) = true then 1 else 0) else E j) := by
                  funext j
                  congr 2
                  split <;> rfl
                rw [e4] at hW16
                refine ⟨by omega, i + 1, ⟨by simp, rfl, by omega, _, _, _, hW16, Cnt.one hcn hi' (fun j hj hne => ⟨if_neg hne, if_neg hne, hR1 j hne⟩) (if_pos rfl) ?_⟩, by omega⟩
                simp only [if_pos rfl]
                rw [hR2]
                have hbb := hlb2 hED'
                rw [← hasc, decide_eq_true_iff] at hbb
                by_cases hin : (b : Int) ∈ lt
                · left
                  have : entB ((h : Int), bl, lt, pr) ((b : Int), (h : Int)) = false := by simp [entB, hbb.2 hin]
                  rw [this, if_pos hin]
                  simp
                · right
                  have : entB ((h : Int), bl, lt, pr) ((b : Int), (h : Int)) = true := by simp [entB, show ¬ (b : Int) ∈ bl from fun q => hin (hbb.1 q)]
                  rw [this, if_neg hin]
                  simp
          · have d1 : decide (¬ (h : Int) = (c : Int)) = true := decide_eq_true (by omega)
            simp only [VS, VD, SV, SL, T, Nat.reduceEqDiff, Nat.reduceAdd, Nat.reduceSub, Nat.reduceMul, Nat.reduceLeDiff, Nat.reduceLT, reduceIte, d1, g1, g2, g5, g6, g9, g10, g11, g73, g74, g75, g8, g14, g17, g99, g100, g101, g18]
            refine ⟨by omega, i + 1, ⟨by simp, ?_, by omega, P, E, R, hWt, hcn.skip⟩, by omega⟩
            rw [hex, decide_eq_false (fun q => hc (by omega)), Bool.or_false]
        · rw [decide_eq_false hil]
          obtain rfl : i = L.length := by omega
          rw [List.take_length] at g18
          simp only [VS, VD, SV, SL, T, Nat.reduceEqDiff, Nat.reduceAdd, Nat.reduceSub, Nat.reduceMul, Nat.reduceLeDiff, Nat.reduceLT, reduceIte, g1, g2, g5, g6, g9, g10, g11, g73, g74, g75, g8, g14, g17, g18]
          exact ⟨P, E, R, hW, hcn⟩
      clear g1 g2 g5 g6 g9 g10 g11 g73 g74 g75 g8 g14 g17 hW hcn hcn0
      clear P E R
      rintro g w10 ⟨g1, g2, g5, g6, g9, g10, g11, g73, g74, g75, g8, g14, g17, g18, P, E, R, hW, hcn⟩
      have hRc : RE N c := (re_iff hN hN0 c).2 (((re_iff hN hN0 b).1 hRb).step hED' (by omega))
      simp only [VS, VD, SV, SL, T, Nat.reduceEqDiff, Nat.reduceAdd, Nat.reduceSub, Nat.reduceMul, Nat.reduceLeDiff, Nat.reduceLT, reduceIte, g18]
      refine cnd_c (fun g' w' => g' 1 = .slice (some ⟨xb, xo, none⟩) C.length cc ∧ g' 2 = .agg #[.slice ba B.length bc, .slice pa PV.length pc] ∧ g' 5 = .slice (some ⟨nb, no, none⟩) B.length nc ∧ g' 6 = .slice la L.length lc ∧ g' 9 = .slice (some ⟨q1, 0, none⟩) L.length L.length ∧ g' 10 = .slice (some ⟨q2, 0, none⟩) L.length L.length ∧ g' 11 = .slice (some ⟨q3, 0, none⟩) L.length L.length ∧ g' 73 = .slice (some ⟨xb, xo, none⟩) C.length cc ∧ g' 74 = .int .i64 C.length ∧ g' 75 = .int .i64 t ∧ g' 8 = .int .i64 b ∧ g' 17 = .int .i64 c ∧ ∃ (r' : Nat) (S' : Int → Bool), g' 14 = .map (some r') ∧ w2.heap.size ≤ r' ∧ WS w2 q1 q2 q3 r' L.length P E R S' w' ∧ S' c = false ∧ ∀ k, S' k = true → ∃ s : Nat, k = s ∧ PO N s ≤ PO N c) ?_ ?_
      · refine cnd_b (fun hbk => ?_) (fun hbk => ?_)
        · simp only [VS, VD, SV, SL, T, Nat.reduceEqDiff, Nat.reduceAdd, Nat.reduceSub, Nat.reduceMul, Nat.reduceLeDiff, Nat.reduceLT, reduceIte, g1, g2, g5, g6, g9, g10, g11, g73, g74, g75, g8, g17]
          have hl1 := hW.p.lt
          have hx := (Ext.refl w10).alloc (.map #[] 0)
          exact ⟨_, fun _ => false, rfl, hW.ext.size, ⟨hW.ext.alloc _, hW.p.ext hx, hW.e.ext hx, hW.rr.ext hx, SetM.new w10⟩, rfl, fun k hk => by cases hk⟩
        · simp only [VS, VD, SV, SL, T, Nat.reduceEqDiff, Nat.reduceAdd, Nat.reduceSub, Nat.reduceMul, Nat.reduceLeDiff, Nat.reduceLT, reduceIte, g1, g2, g5, g6, g9, g10, g11, g73, g74, g75, g8, g17]
          have hlt2 : PO N b < PO N c := by
            apply Classical.byContradiction
            intro hn
            have hbl := back_lat hN hN0 hgd hRb hED' (by omega)
            obtain ⟨x, hx, e1, e2⟩ := hhd c (fun e => by rw [e] at hbl; cases hbl)
            have : bkF L c b = true := List.any_eq_true.2 ⟨x, hx, decide_eq_true ⟨e1, by rw [e2]; exact hbl⟩⟩
            rw [this] at hbk; cases hbk
          refine ⟨r, S, g14, hr, hW, ?_, fun k hk => ?_⟩
          · cases hSc : S c with
            | false => rfl
            | true =>
              obtain ⟨s, e, hs⟩ := hSS c hSc
              obtain rfl : c = s := by omega
              omega
          · obtain ⟨s, e, hs⟩ := hSS k hk
            exact ⟨s, e, by omega⟩
      clear g1 g2 g5 g6 g9 g10 g11 g73 g74 g75 g8 g14 g17 g18 hW
      rintro g w11 ⟨g1, g2, g5, g6, g9, g10, g11, g73, g74, g75, g8, g17, r', S', g14, hr', hW, hSc, hS'⟩
      simp only [VS, VD, SV, SL, T, Nat.reduceEqDiff, Nat.reduceAdd, Nat.reduceSub, Nat.reduceMul, Nat.reduceLeDiff, Nat.reduceLT, reduceIte, g14, g17]
      refine hW.s.look (c : Int) ?_
      rw [hSc]
      simp only [VS, VD, SV, SL, T, Nat.reduceEqDiff, Nat.reduceAdd, Nat.reduceSub, Nat.reduceMul, Nat.reduceLeDiff, Nat.reduceLT, reduceIte, g14, g17]
      refine hW.s.put (c : Int) ?_
      rintro w12 ⟨o2, rfl⟩ hS12
      have hn1 := ib_ne hW.p hW.s
      have hn2 := ib_ne hW.e hW.s
      have hn3 := ib_ne hW.rr hW.s
      have hW12 : WS w2 q1 q2 q3 r' L.length P E R (setI S' c) (w11.putb r' o2) := ⟨hW.ext.putb hr' o2, hW.p.heap (putb_get_ne (by omega) _), hW.e.heap (putb_get_ne (by omega) _), hW.rr.heap (putb_get_ne (by omega) _), hS12⟩
      simp only [VS, VD, SV, SL, T, Nat.reduceEqDiff, Nat.reduceAdd, Nat.reduceSub, Nat.reduceMul, Nat.reduceLeDiff, Nat.reduceLT, reduceIte, g1, g2, g5, g6, g9, g10, g11, g73, g74, g75, g14, g17]
      refine ⟨by omega, t + 1, ⟨by simp, by omega, c, r', P, E, R, _, rfl, rfl, hRc, hr', hW12, hcn.next, fun k hk => ?_⟩, by omega⟩
      unfold setI at hk
      by_cases e : k = (c : Int)
      · exact ⟨c, e, Nat.le_refl _⟩
      · rw [if_neg e] at hk
        exact hS' k hk
    · rw [decide_eq_false hlt]
      simp only [VS, VD, SV, SL, T, Nat.reduceEqDiff, Nat.reduceAdd, Nat.reduceSub, Nat.reduceMul, Nat.reduceLeDiff, Nat.reduceLT, reduceIte, g1, g2, g5, g6, g9, g10, g11]
      refine ⟨hW.ext, P, E, R, hW.p, hW.e, hW.rr, fun j hj => ?_⟩
      obtain ⟨k1, k2, k3, k4⟩ := hcn j hj
      exact ⟨k1, k2, k3, by split at k4 <;> omega⟩
  clear g1 g2 g5 g6 g9 g10 g11 g8
  rintro g w8 ⟨g1, g2, g5, g6, g9, g10, g11, hE8, P, E, R, hP, hE', hR, hb⟩
  simp only [VS, VD, SV, SL, T, Nat.reduceEqDiff, Nat.reduceAdd, Nat.reduceSub, Nat.reduceMul, Nat.reduceLeDiff, Nat.reduceLT, reduceIte, g6]
  refine LoopP_intro (α := Nat) (fun j g w' => g 1 = .slice ca C.length cc ∧ g 2 = .agg #[.slice ba B.length bc, .slice pa PV.length pc] ∧ g 5 = .slice (some ⟨nb, no, none⟩) B.length nc ∧ g 6 = .slice la L.length lc ∧ g 9 = .slice (some ⟨q1, 0, none⟩) L.length L.length ∧ g 10 = .slice (some ⟨q2, 0, none⟩) L.length L.length ∧ g 11 = .slice (some ⟨q3, 0, none⟩) L.length L.length ∧ g 157 = .int .i64 L.length ∧ g 158 = .int .i64 j ∧ j ≤ L.length ∧ Ext w8 w') (fun j => L.length - j) 0 ?_ ?_
  · simp only [VS, VD, SV, SL, T, Nat.reduceEqDiff, Nat.reduceAdd, Nat.reduceSub, Nat.reduceMul, Nat.reduceLeDiff, Nat.reduceLT, reduceIte, g1, g2, g5, g6, g9, g10, g11]
    exact ⟨rfl, Nat.zero_le _, Ext.refl _⟩
  clear g1 g2 g5 g6 g9 g10 g11
  rintro j g w9 ⟨g1, g2, g5, g6, g9, g10, g11, g157, g158, hj, hE9⟩
  simp only [VS, VD, SV, SL, T, Nat.reduceEqDiff, Nat.reduceAdd, Nat.reduceSub, Nat.reduceMul, Nat.reduceLeDiff, Nat.reduceLT, reduceIte, g157, g158]
  by_cases hlt : (j : Int) < L.length
  · rw [decide_eq_true hlt]
    have hj' : j < L.length := by omega
    obtain ⟨k1, k2, k3, k4⟩ := hb j hj'
    obtain ⟨pcs, hpb, hps, hpv⟩ := hP.ext hE9
    obtain ⟨ecs, heb, hes, hev⟩ := hE'.ext hE9
    obtain ⟨rcs, hrb, hrs, hrv⟩ := hR.ext hE9
    have hpi := hpv j hj'
    have hei := hev j hj'
    have hri := hrv j hj'
    have r9 : -9223372036854775808 ≤ E j + R j ∧ E j + R j ≤ 9223372036854775807 := by omega
    have d9 : decide (¬ P j = E j + R j) = false := decide_eq_false fun q => q k3
    simp only [VS, VD, SV, SL, T, Nat.reduceEqDiff, Nat.reduceAdd, Nat.reduceSub, Nat.reduceMul, Nat.reduceLeDiff, Nat.reduceLT, reduceIte, g158]
    refine DW_c (fun g' w' => g' 1 = .slice ca C.length cc ∧ g' 2 = .agg #[.slice ba B.length bc, .slice pa PV.length pc] ∧ g' 5 = .slice (some ⟨nb, no, none⟩) B.length nc ∧ g' 6 = .slice la L.length lc ∧ g' 9 = .slice (some ⟨q1, 0, none⟩) L.length L.length ∧ g' 10 = .slice (some ⟨q2, 0, none⟩) L.length L.length ∧ g' 11 = .slice (some ⟨q3, 0, none⟩) L.length L.length ∧ g' 157 = .int .i64 L.length ∧ g' 158 = .int .i64 j ∧ g' 174 = .bool false ∧ Ext w9 w') ?_ ?_
    · refine DW_intro (fun _ _ _ _ => True) ?_
      simp only [VS, VD, SV, SL, T, Nat.reduceEqDiff, Nat.reduceAdd, Nat.reduceSub, Nat.reduceMul, Nat.reduceLeDiff, Nat.reduceLT, reduceIte, g1, g2, g5, g6, g9, g10, g11, g158, hpb, hpi, heb, hei, hrb, hri, r9, Int.toNat_natCast]
      refine ⟨by omega, by omega, by omega, ?_⟩
      intro w10 hE10 _
      simp only [VS, VD, SV, SL, T, Nat.reduceEqDiff, Nat.reduceAdd, Nat.reduceSub, Nat.reduceMul, Nat.reduceLeDiff, Nat.reduceLT, reduceIte, d9, g1, g2, g5, g6, g9, g10, g11, g157, g158]
      exact hE10
    clear g1 g2 g5 g6 g9 g10 g11 g157 g158
    rintro g w10 ⟨g1, g2, g5, g6, g9, g10, g11, g157, g158, g174, hE10⟩
    simp only [VS, VD, SV, SL, T, Nat.reduceEqDiff, Nat.reduceAdd, Nat.reduceSub, Nat.reduceMul, Nat.reduceLeDiff, Nat.reduceLT, reduceIte, g174, g1, g2, g5, g6, g9, g10, g11, g157, g158]
    exact ⟨by omega, j + 1, ⟨by simp, by omega, hE9.trans hE10⟩, by omega⟩
  · rw [decide_eq_false hlt]
    simp only [VS, VD, SV, SL, T, Nat.reduceEqDiff, Nat.reduceAdd, Nat.reduceSub, Nat.reduceMul, Nat.reduceLeDiff, Nat.reduceLT, reduceIte]
    exact hΨ _ _ ⟨rfl, (hE2.trans hE8).trans hE9⟩
end Go.Proofs.Ytlhlbiaibgmapaa
