/-
  The cache in memory; New, find, Probe, Age.
-/
import Derived.Test.YtblogcihkjhgkaaK2
set_option linter.unusedSimpArgs false
set_option linter.unusedVariables false
namespace Go.Proofs.Ytblogcihkjhgkaa
open Go.W Go.RowKit
abbrev iv (l : List Int) : List Value := l.map (Value.int .i64)
/-- the cache's object and the slices of its sets -/
structure CacheIn (w : World) (F : Nat → Prop) (p : Nat) (s y l : Int) (L : List (List Int)) (q : Nat) (vs : List Value) : Prop where
  geo : Geo s y l = true
  obj : w.heap[p]? = some (.cells #[.int .i64 s, .int .i64 y, .int .i64 l, .slice (some ⟨q, 0, none⟩) s.toNat s.toNat] 52 (0, 0))
  row : w.heap[q]? = some (.cells vs.toArray 32 (0, 0))
  ne : p ≠ q
  fp : F p
  fq : F q
  lt : ∀ b, F b → b < w.heap.size
  len : L.length = s.toNat
  vlen : vs.length = s.toNat
  ways : ∀ li ∈ L, li.length ≤ y.toNat
  own : ∀ (i : Nat) v li, vs[i]? = some v → L[i]? = some li → w.ownsRow 0 3 1 v li.length (iv li)
  fb : ∀ (i : Nat) v b, vs[i]? = some v → v.ownBlock = some b → F b ∧ b ≠ p ∧ b ≠ q
  apart : ∀ (i j : Nat) v u b, i ≠ j → vs[i]? = some v → vs[j]? = some u → v.ownBlock = some b → u.ownBlock ≠ some b
def CacheAt (w : World) (F : Nat → Prop) (p : Nat) (s y l : Int) (L : List (List Int)) : Prop := ∃ q vs, CacheIn w F p s y l L q vs
/-- only blocks of F have changed, and new ones may be there -/
structure Chg (F : Nat → Prop) (w w' : World) : Prop where
  os : w'.os = w.os
  tape : w'.tape = w.tape
  output : w'.output = w.output
  size : w.heap.size ≤ w'.heap.size
  get : ∀ b, b < w.heap.size → ¬ F b → w'.heap[b]? = w.heap[b]?
theorem Chg.of_ext {F : Nat → Prop} {w w' : World} (h : Ext w w') : Chg F w w' := ⟨h.os, h.tape, h.output, h.size, fun b hb _ => h.get b hb⟩
theorem Chg.trans {F F' : Nat → Prop} {w w' w'' : World} (h : Chg F w w') (k : Chg F' w' w'') (hF : ∀ b, F' b → F b ∨ w.heap.size ≤ b) : Chg F w w'' :=
  ⟨k.os.trans h.os, k.tape.trans h.tape, k.output.trans h.output, Nat.le_trans h.size k.size, fun b hb hn => (k.get b (Nat.lt_of_lt_of_le hb h.size) (fun hf => (hF b hf).elim hn (by omega))).trans (h.get b hb hn)⟩
theorem Chg.ext {F : Nat → Prop} {w0 w w' : World} (hE : Ext w0 w) (h : Chg F w w') (hF : ∀ b, F b → w0.heap.size ≤ b) : Ext w0 w' :=
  ⟨h.os.trans hE.os, h.tape.trans hE.tape, h.output.trans hE.output, Nat.le_trans hE.size h.size, fun b hb => (h.get b (Nat.lt_of_lt_of_le hb hE.size) (fun hf => by have := hF b hf; omega)).trans (hE.get b hb)⟩
theorem CacheIn.ext {w w' : World} {F : Nat → Prop} {p : Nat} {s y l : Int} {L : List (List Int)} {q : Nat} {vs : List Value} (h : CacheIn w F p s y l L q vs) (hE : Ext w w') : CacheIn w' F p s y l L q vs :=
  ⟨h.geo, hE.obj h.obj, hE.obj h.row, h.ne, h.fp, h.fq, fun b hb => Nat.lt_of_lt_of_le (h.lt b hb) hE.size, h.len, h.vlen, h.ways, fun i v li hv hl => own_ext (h.own i v li hv hl) hE, h.fb, h.apart⟩
theorem CacheAt.ext {w w' : World} {F : Nat → Prop} {p : Nat} {s y l : Int} {L : List (List Int)} (h : CacheAt w F p s y l L) (hE : Ext w w') : CacheAt w' F p s y l L := by
  obtain ⟨q, vs, h⟩ := h; exact ⟨q, vs, h.ext hE⟩
/-- another cache's access leaves this one -/
theorem CacheIn.chg {w w' : World} {F G : Nat → Prop} {p : Nat} {s y l : Int} {L : List (List Int)} {q : Nat} {vs : List Value} (h : CacheIn w F p s y l L q vs) (hC : Chg G w w') (hFG : ∀ b, F b → ¬ G b) : CacheIn w' F p s y l L q vs := by
  have hg : ∀ b, F b → w'.heap[b]? = w.heap[b]? := fun b hb => hC.get b (h.lt b hb) (hFG b hb)
  refine ⟨h.geo, (hg p h.fp).trans h.obj, (hg q h.fq).trans h.row, h.ne, h.fp, h.fq, fun b hb => Nat.lt_of_lt_of_le (h.lt b hb) hC.size, h.len, h.vlen, h.ways, fun i v li hv hl => ?_, h.fb, h.apart⟩
  obtain ⟨h1, h2⟩ := h.own i v li hv hl
  refine ⟨h1, ?_⟩
  rcases h2 with h2 | ⟨g, cap, cur, rfl, q1, q2, q3⟩
  · exact .inl h2
  · exact .inr ⟨g, cap, cur, rfl, q1, (hg g (h.fb i _ g hv rfl).1).trans q2, q3⟩
theorem CacheAt.chg {w w' : World} {F G : Nat → Prop} {p : Nat} {s y l : Int} {L : List (List Int)} (h : CacheAt w F p s y l L) (hC : Chg G w w') (hFG : ∀ b, F b → ¬ G b) : CacheAt w' F p s y l L := by
  obtain ⟨q, vs, h⟩ := h; exact ⟨q, vs, h.chg hC hFG⟩
theorem own_ints {w : World} {base : Nat} {e : TypeId} {v : Value} {l : List Int} (h : w.ownsRow base e 1 v l.length (iv l)) : IntsAt w v l := by
  obtain ⟨h1, h2⟩ := h
  rcases h2 with ⟨rfl, h0⟩ | ⟨g, cap, cur, rfl, q1, q2, q3, q4, q5, q6⟩
  · exact .inl ⟨⟨_, _, rfl⟩, List.length_eq_zero_iff.1 h0⟩
  · refine .inr ⟨g, 0, cap, rfl, fun i x hx => ?_⟩
    rw [cell_mk, q2]
    have hi := (List.getElem?_eq_some_iff.1 hx).1
    have : (cur.toList.take (l.length * 1))[i]? = some (.int .i64 x) := by rw [q6, List.getElem?_map, hx]; rfl
    rw [List.getElem?_take_of_lt (by omega)] at this
    simpa using this
theorem setOf_lt {s y l n : Int} (hg : Geo s y l = true) (hn : 0 ≤ n) : ∃ i : Nat, setOf s y l n = i ∧ i < s.toNat := by
  have := Geo_spec hg
  have h1 := Int.emod_nonneg n (show s ≠ 0 by omega)
  have h2 := Int.emod_lt_of_pos n (show 0 < s by omega)
  refine ⟨(n % s).toNat, ?_, by omega⟩
  simp only [setOf, hg, hn, and_self, if_true]
  omega
/-- the slice and the lines of a set -/
theorem CacheIn.at {w : World} {F : Nat → Prop} {p : Nat} {s y l : Int} {L : List (List Int)} {q : Nat} {vs : List Value} (h : CacheIn w F p s y l L q vs) {i : Nat} (hi : i < s.toNat) :
    ∃ v li, vs[i]? = some v ∧ vs.toArray[i]? = some v ∧ L[i]? = some li ∧ w.ownsRow 0 3 1 v li.length (iv li) ∧ li.length ≤ y.toNat ∧ li.length ≤ 8 := by
  have h1 : i < vs.length := by rw [h.vlen]; exact hi
  have h2 : i < L.length := by rw [h.len]; exact hi
  have hw := h.ways _ (List.getElem_mem h2)
  have := Geo_spec h.geo
  exact ⟨vs[i], L[i], by simp [h1], by simp [h1], by simp [h2], h.own i _ _ (by simp [h1]) (by simp [h2]), hw, by omega⟩
abbrev ptr (p : Nat) : Value := .pointer (some ⟨p, 0, none⟩)
set_option maxRecDepth 10000 in
theorem find_spec {F : Nat → Prop} {p : Nat} {s y l : Int} {L : List (List Int)} {q : Nat} {vs : List Value} {w : World} (h : CacheIn w F p s y l L q vs) (n : Int) :
    VRet Try.prog 33 #[ptr p, .int .i64 n] w fun v w' => v = .tuple #[.int .i64 (setOf s y l n), .int .i64 (if 0 ≤ n then idxI (L.getD (setOf s y l n).toNat []) n else -1)] ∧ Ext w w' := by
  refine VRet_start T.mo ok33 rfl fun Ψ hΨ => ?_; simp only [vc33, rs33]
  have hobj := h.obj
  simp only [VS, VD, SV, SL, T, Nat.reduceEqDiff, Nat.reduceAdd, Nat.reduceSub, Nat.reduceMul, Nat.reduceLeDiff, Nat.reduceLT, reduceIte, hobj]
  refine (Set_spec s y l n w).mono ?_
  rintro _ w1 ⟨rfl, hE⟩
  simp only [VS, VD, SV, SL, T, Nat.reduceEqDiff, Nat.reduceAdd, Nat.reduceSub, Nat.reduceMul, Nat.reduceLeDiff, Nat.reduceLT, reduceIte]
  refine cnd_d (fun hq => ?_) (fun hq => ?_)
  · simp only [VS, VD, SV, SL, T, Nat.reduceEqDiff, Nat.reduceAdd, Nat.reduceSub, Nat.reduceMul, Nat.reduceLeDiff, Nat.reduceLT, reduceIte]
    have hn : ¬ (0 ≤ n) := by
      intro hn
      obtain ⟨i, hi, _⟩ := setOf_lt h.geo hn
      omega
    exact hΨ _ _ ⟨by rw [if_neg hn], hE⟩
  · have hn : 0 ≤ n := by
      apply Int.not_lt.1
      intro hn
      apply hq
      simp only [setOf]
      rw [if_neg (by omega)]
      omega
    obtain ⟨i, hi, hlt⟩ := setOf_lt h.geo hn
    obtain ⟨v, li, hv, hva, hL, ho, hw, hw8⟩ := (h.ext hE).at hlt
    have hobj1 := (h.ext hE).obj
    have hrow1 := (h.ext hE).row
    rw [hi]
    have hi63 : (i : Int) < s.toNat := by omega
    have hi0 : (0 : Int) ≤ i := by omega
    simp only [VS, VD, SV, SL, T, Nat.reduceEqDiff, Nat.reduceAdd, Nat.reduceSub, Nat.reduceMul, Nat.reduceLeDiff, Nat.reduceLT, reduceIte, hobj1, hrow1, Int.toNat_natCast, hva, hi63, hi0, Nat.zero_add, Nat.mul_one, and_self]
    refine (Index_spec v li (by omega) n _ (own_ints ho)).mono ?_
    rintro _ w2 ⟨rfl, hE2⟩
    simp only [VS, VD, SV, SL, T, Nat.reduceEqDiff, Nat.reduceAdd, Nat.reduceSub, Nat.reduceMul, Nat.reduceLeDiff, Nat.reduceLT, reduceIte]
    refine hΨ _ _ ⟨?_, hE.trans hE2⟩
    rw [if_pos hn, hi, Int.toNat_natCast, List.getD_eq_getElem?_getD, hL]
    rfl
/-- what Access does to the lines of the sets -/
def accL (y : Int) (cur : List Int) (n : Int) : List Int := n :: (if n ∈ cur then cur.eraseIdx (idxI cur n).toNat else if cur.length = y.toNat then cur.dropLast else cur)
end Go.Proofs.Ytblogcihkjhgkaa
