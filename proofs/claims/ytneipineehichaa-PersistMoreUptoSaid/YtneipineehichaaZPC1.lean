/-
  persist: collect.
-/
import Derived.Test.YtneipineehichaaZPS1
import Derived.Test.YtneipineehichaaZIA
import Derived.Test.YtneipineehichaaZCA
import Derived.Test.YtneipineehichaaZU
set_option linter.unusedSimpArgs false
set_option linter.unusedVariables false
namespace Go.Proofs.Ytneipineehichaa
open Go.W Go.RowKit
/-- a block of integers -/
def IB (w : World) (b n : Nat) (g : Nat → Int) : Prop := ∃ cs : Array Value, w.heap[b]? = some (.cells cs 3 (0, 0)) ∧ cs.size = n ∧ ∀ i, i < n → cs[i]? = some (.int .i64 (g i))
theorem IB.heap {w w' : World} {b n : Nat} {g : Nat → Int} (h : IB w b n g) (e : w'.heap[b]? = w.heap[b]?) : IB w' b n g := by
  obtain ⟨cs, h1, h2⟩ := h
  exact ⟨cs, e.trans h1, h2⟩
theorem IB.ext {w w' : World} {b n : Nat} {g : Nat → Int} (h : IB w b n g) (hE : Ext w w') : IB w' b n g := by
  obtain ⟨cs, h1, h2⟩ := h
  exact ⟨cs, hE.obj h1, h2⟩
theorem IB.lt {w : World} {b n : Nat} {g : Nat → Int} (h : IB w b n g) : b < w.heap.size := by
  obtain ⟨cs, h1, h2⟩ := h
  exact get_lt h1
theorem IB.congr {w : World} {b n : Nat} {g g' : Nat → Int} (h : IB w b n g) (e : ∀ i, i < n → g i = g' i) : IB w b n g' := by
  obtain ⟨cs, h1, h2, h3⟩ := h
  exact ⟨cs, h1, h2, fun i hi => by rw [h3 i hi, e i hi]⟩
theorem IB.set {w : World} {b n : Nat} {g : Nat → Int} {cs : Array Value} (h1 : b < w.heap.size) (h2 : cs.size = n) (h3 : ∀ i, i < n → cs[i]? = some (.int .i64 (g i))) (i : Nat) (x : Int) :
    IB (w.putb b (.cells (cs.setIfInBounds i (.int .i64 x)) 3 (0, 0))) b n (fun j => if j = i then x else g j) := by
  refine ⟨_, by rw [get_putb _ _ _ _ h1, if_pos rfl], ?_, ?_⟩
  · simp [h2]
  · intro j hj
    rw [Array.getElem?_setIfInBounds]
    by_cases e : j = i
    · subst e; simp [h2, hj]
    · rw [if_neg (fun q => e q.symm), h3 j hj]; simp [e]
theorem IB.new {w : World} {n : Nat} : IB (w.alloc (.cells (Array.replicate n (.int .i64 0)) 3)) w.heap.size n (fun _ => 0) := by
  refine ⟨_, alloc_get_new _ _, by simp, ?_⟩
  intro i hi
  simp [hi]
def refR (r : Int × Int) : List Value := [.int .i64 r.1, .int .i64 r.2]
def RefsAt (w : World) (v : Value) (L : List (Int × Int)) : Prop := SlAt w v 2 (L.map refR)
theorem RefsAt.ext {w w' : World} {v : Value} {L : List (Int × Int)} (h : RefsAt w v L) (hE : Ext w w') : RefsAt w' v L := SlAt.ext h hE
theorem RefsAt.form {w : World} {v : Value} {L : List (Int × Int)} (h : RefsAt w v L) : ∃ a c, v = .slice a L.length c := by
  obtain ⟨a, c, h⟩ := SlAt.form h; exact ⟨a, c, by rw [h]; simp⟩
theorem RefsAt.get {w : World} {L : List (Int × Int)} {a : Option Addr} {n c : Nat} (h : RefsAt w (.slice a n c) L) {i : Nat} (hi : i < L.length) :
    ∃ b off cs e fz, a = some ⟨b, off, none⟩ ∧ w.heap[b]? = some (.cells cs e fz) ∧ off + (i * 2 + 2) ≤ cs.size ∧ cs.extract (off + i * 2) (off + (i * 2 + 2)) = #[.int .i64 L[i].1, .int .i64 L[i].2] := by
  obtain ⟨b, off, cs, e, fz, h1, _, h3, h4, h5⟩ := SlAt.get h (i := i) (r := refR L[i]) (by simp [hi])
  exact ⟨b, off, cs, e, fz, h1, h3, h4, h5⟩
/-- the sets of collect: maps that hold lines -/
def MB (w : World) (r : Nat) (K : List Int) : Prop := ∃ l c, w.heap[r]? = some (.map (mk l) c) ∧ MWF l c ∧ ∀ k, mget l k = if k ∈ K then some (.bool true) else none
theorem MB.heap {w w' : World} {r : Nat} {K : List Int} (h : MB w r K) (e : w'.heap[r]? = w.heap[r]?) : MB w' r K := by
  obtain ⟨l, c, h1, h2⟩ := h
  exact ⟨l, c, e.trans h1, h2⟩
theorem MB.ext {w w' : World} {r : Nat} {K : List Int} (h : MB w r K) (hE : Ext w w') : MB w' r K := by
  obtain ⟨l, c, h1, h2⟩ := h
  exact ⟨l, c, hE.obj h1, h2⟩
theorem MB.lt {w : World} {r : Nat} {K : List Int} (h : MB w r K) : r < w.heap.size := by
  obtain ⟨l, c, h1, h2⟩ := h
  exact get_lt h1
theorem MB.congr {w : World} {r : Nat} {K K' : List Int} (h : MB w r K) (e : ∀ k, k ∈ K ↔ k ∈ K') : MB w r K' := by
  obtain ⟨l, c, h1, h2, h3⟩ := h
  exact ⟨l, c, h1, h2, fun k => by rw [h3 k]; simp only [e k]⟩
/-- a slice of such maps -/
def SetsAt (w : World) (v : Value) (n : Nat) (K : Nat → List Int) : Prop :=
  ∃ b cap cs e fz, v = .slice (some ⟨b, 0, none⟩) n cap ∧ w.heap[b]? = some (.cells cs e fz) ∧ cs.size = n ∧ ∀ i, i < n → ∃ r, cs[i]? = some (.map (some r)) ∧ MB w r (K i)
theorem SetsAt.ext {w w' : World} {v : Value} {n : Nat} {K : Nat → List Int} (h : SetsAt w v n K) (hE : Ext w w') : SetsAt w' v n K := by
  obtain ⟨b, cap, cs, e, fz, h1, h2, h3, h4⟩ := h
  exact ⟨b, cap, cs, e, fz, h1, hE.obj h2, h3, fun i hi => let ⟨r, q1, q2⟩ := h4 i hi; ⟨r, q1, q2.ext hE⟩⟩
set_option maxRecDepth 10000 in
theorem collect_spec (s y l : Int) (hg : Geo s y l = true) (lv : Value) (L : List (Int × Int)) (hL : L.length ≤ 1000000) (w : World) (h : RefsAt w lv L) :
    VRet Try.prog 31 #[cfgV s y l, lv] w fun v w' => SetsAt w' v s.toNat (fun i => lns L s i MX) ∧ Ext w w' := by
  obtain ⟨la, lc, rfl⟩ := h.form
  have hp := Geo_spec hg
  have z0 : #[Value.int IntKind.i64 0][0]! = Value.int .i64 0 := rfl
  have z1 : #[Value.map none][0]! = Value.map none := rfl
  have t1 : (65537 : Int).toNat = 65537 := rfl
  refine VRet_start T.mo ok31 rfl fun Ψ hΨ => ?_; simp only [vc31, rs31]
  simp only [VS, VD, SV, SL, T, Nat.reduceEqDiff, Nat.reduceAdd, Nat.reduceSub, Nat.reduceMul, Nat.reduceLeDiff, Nat.reduceLT, reduceIte, cfgV, z0, t1]
  refine ⟨by omega, ?_⟩
  have hn0 : ∀ r : Nat, r < w.heap.size → ¬ r = w.heap.size + 1 := fun r hr => by omega
  refine loop_cB (fun f' w' => f' 2 = .agg #[.int .i64 s, .int .i64 y, .int .i64 l] ∧ f' 5 = .slice (some ⟨w.heap.size + 1, 0, none⟩) 65537 65537 ∧ IB w' (w.heap.size + 1) 65537 (fun n => chg L n) ∧ Ext w w') ?_ ?_
  · refine LoopP_intro (α := Nat) (fun i f' w' => f' 2 = .agg #[.int .i64 s, .int .i64 y, .int .i64 l] ∧ f' 5 = .slice (some ⟨w.heap.size + 1, 0, none⟩) 65537 65537 ∧ f' 15 = .slice la L.length lc ∧ f' 16 = .int .i64 L.length ∧ f' 17 = .int .i64 i ∧ i ≤ L.length ∧ IB w' (w.heap.size + 1) 65537 (fun n => chg (L.take i) n) ∧ Ext w w') (fun i => L.length - i) 0 ?_ ?_
    · simp only [VS, VD, SV, SL, T, Nat.reduceEqDiff, Nat.reduceAdd, Nat.reduceSub, Nat.reduceMul, Nat.reduceLeDiff, Nat.reduceLT, reduceIte]
      exact ⟨rfl, by omega, by have := IB.new (w := w.alloc tomb) (n := 65537); rw [alloc_size] at this; exact this.congr (fun i _ => rfl), ((Ext.refl w).alloc _).alloc _⟩
    · rintro i f' w' ⟨f2, f5, f15, f16, f17, hi, hI, hE⟩
      simp only [VS, VD, SV, SL, T, Nat.reduceEqDiff, Nat.reduceAdd, Nat.reduceSub, Nat.reduceMul, Nat.reduceLeDiff, Nat.reduceLT, reduceIte, f16, f17]
      by_cases hlt : (i : Int) < L.length
      · rw [decide_eq_true hlt]
        have hlt' : i < L.length := by omega
        obtain ⟨b, off, cs, e, fz, rfl, hb, hsz, hcs⟩ := (h.ext hE).get hlt'
        simp only [VS, VD, SV, SL, T, Nat.reduceEqDiff, Nat.reduceAdd, Nat.reduceSub, Nat.reduceMul, Nat.reduceLeDiff, Nat.reduceLT, reduceIte, f15, f17, Int.toNat_natCast, hb, hsz, hcs]
        refine ⟨by omega, ?_⟩
        refine DW_intro (fun _ _ _ _ => True) ?_
        simp only [VS, VD, SV, SL, T, Nat.reduceEqDiff, Nat.reduceAdd, Nat.reduceSub, Nat.reduceMul, Nat.reduceLeDiff, Nat.reduceLT, reduceIte]
        intro w2 hE2 _
        simp only [VS, VD, SV, SL, T, Nat.reduceEqDiff, Nat.reduceAdd, Nat.reduceSub, Nat.reduceMul, Nat.reduceLeDiff, Nat.reduceLT, reduceIte]
        have hE3 := hE.trans (((Ext.refl w').alloc tomb).trans hE2)
        replace hI := hI.ext (((Ext.refl w').alloc tomb).trans hE2)
        have htk : L.take (i + 1) = L.take i ++ [L[i]] := by rw [List.take_add_one, List.getElem?_eq_getElem hlt']; rfl
        have hbd := chg_bd (L.take i)
        have hlen : (L.take i).length = i := by rw [List.length_take]; omega
        have hch : ∀ n, chg (L.take (i + 1)) n = chg (L.take i) n + (if max L[i].1 0 ≤ min L[i].2 65535 then (if n = max L[i].1 0 then 1 else 0) - (if n = min L[i].2 65535 + 1 then 1 else 0) else 0) := by
          intro n
          rw [htk, chg_append]
          simp [chg]
        rw [hlen] at hbd
        generalize hlo : max L[i].1 0 = lo at *
        generalize hhi : min L[i].2 65535 = hi' at *
        by_cases hle : lo ≤ hi'
        · rw [decide_eq_true hle]
          simp only [hle, if_true] at hch
          obtain ⟨a, rfl⟩ := Int.eq_ofNat_of_zero_le (show 0 ≤ lo by omega)
          obtain ⟨z, rfl⟩ := Int.eq_ofNat_of_zero_le (show 0 ≤ hi' by omega)
          obtain ⟨cs1, hb1, hs1, hc1⟩ := hI
          have hl1 := get_lt hb1
          have b1 := hbd a
          have ha1 := hc1 a (by omega)
          simp only [VS, VD, SV, SL, T, Nat.reduceEqDiff, Nat.reduceAdd, Nat.reduceSub, Nat.reduceMul, Nat.reduceLeDiff, Nat.reduceLT, reduceIte, f5, Int.toNat_natCast, hb1, ha1]
          refine ⟨by omega, by omega, by omega, by omega, by omega, ?_⟩
          obtain ⟨cs2, hb2, hs2, hc2⟩ := IB.set (g := fun n => chg (L.take i) n) hl1 hs1 hc1 a (chg (L.take i) a + 1)
          have hE4 := hE3.putb (b := w.heap.size + 1) (by omega) (.cells (cs1.setIfInBounds a (.int .i64 (chg (L.take i) a + 1))) 3 (0, 0))
          have hl2 := get_lt hb2
          have e1 : ((z : Int) + 1).toNat = z + 1 := by omega
          have b2 := hbd ((z + 1 : Nat) : Int)
          have ha2 := hc2 (z + 1) (by omega)
          rw [get_putb _ _ _ _ hl1, if_pos rfl] at hb2
          simp only [Option.some.injEq, Obj.cells.injEq, and_true] at hb2
          subst hb2
          simp only [] at ha2
          have hza : ¬ z + 1 = a := by omega
          rw [if_neg hza] at ha2
          simp only [VS, VD, SV, SL, T, Nat.reduceEqDiff, Nat.reduceAdd, Nat.reduceSub, Nat.reduceMul, Nat.reduceLeDiff, Nat.reduceLT, reduceIte, e1, ha2, hl1, f2, f5, f15, f16, f17]
          refine ⟨by omega, by omega, by omega, by rw [hs2]; omega, by omega, i + 1, ⟨by simp, by omega, ?_, hE3.putb (by omega) _⟩, by omega⟩
          refine (IB.set hl1 hs2 hc2 (z + 1) _).congr fun n _ => ?_
          simp only [hch]
          by_cases hz : n = z + 1
          · subst hz
            rw [if_pos rfl, if_neg (by omega), if_pos (by omega)]
            omega
          · rw [if_neg hz]
            by_cases ha : n = a
            · subst ha
              rw [if_pos rfl, if_pos rfl, if_neg (by omega)]
              omega
            · rw [if_neg ha, if_neg (by omega), if_neg (by omega)]
              omega
        · rw [decide_eq_false hle]
          simp only [VS, VD, SV, SL, T, Nat.reduceEqDiff, Nat.reduceAdd, Nat.reduceSub, Nat.reduceMul, Nat.reduceLeDiff, Nat.reduceLT, reduceIte, f2, f5, f15, f16, f17]
          refine ⟨by omega, i + 1, ⟨by simp, by omega, hI.congr (fun n _ => ?_), hE3⟩, by omega⟩
          rw [hch, if_neg hle, Int.add_zero]
      · rw [decide_eq_false hlt]
        obtain rfl : i = L.length := by omega
        simp only [VS, VD, SV, SL, T, Nat.reduceEqDiff, Nat.reduceAdd, Nat.reduceSub, Nat.reduceMul, Nat.reduceLeDiff, Nat.reduceLT, reduceIte, f2, f5]
        rw [List.take_length] at hI
        exact ⟨hI, hE⟩
  · rintro f2 w2 ⟨f22, f25, hI, hE⟩
    simp only [VS, VD, SV, SL, T, Nat.reduceEqDiff, Nat.reduceAdd, Nat.reduceSub, Nat.reduceMul, Nat.reduceLeDiff, Nat.reduceLT, reduceIte, f22, z1]
    refine ⟨by omega, ?_⟩
    refine loop_cB (fun f' w' => f' 2 = .agg #[.int .i64 s, .int .i64 y, .int .i64 l] ∧ f' 5 = .slice (some ⟨w.heap.size + 1, 0, none⟩) 65537 65537 ∧ f' 10 = .slice (some ⟨w2.heap.size, 0, none⟩) s.toNat s.toNat ∧ Ext w2 w' ∧
      (∃ cs : Array Value, w'.heap[w2.heap.size]? = some (.cells cs 59 (0, 0)) ∧ cs.size = s.toNat ∧ ∀ j, j < s.toNat → cs[j]? = some (.map (some (w2.heap.size + (1 + j))))) ∧ ∀ j, j < s.toNat → MB w' (w2.heap.size + (1 + j)) []) ?_ ?_
    · refine LoopP_intro (α := Nat) (fun i f' w' => f' 2 = .agg #[.int .i64 s, .int .i64 y, .int .i64 l] ∧ f' 5 = .slice (some ⟨w.heap.size + 1, 0, none⟩) 65537 65537 ∧ f' 10 = .slice (some ⟨w2.heap.size, 0, none⟩) s.toNat s.toNat ∧ f' 48 = .int .i64 s.toNat ∧ f' 49 = .int .i64 i ∧ i ≤ s.toNat ∧ w'.heap.size = w2.heap.size + (1 + i) ∧ Ext w2 w' ∧
        (∃ cs : Array Value, w'.heap[w2.heap.size]? = some (.cells cs 59 (0, 0)) ∧ cs.size = s.toNat ∧ ∀ j, j < i → cs[j]? = some (.map (some (w2.heap.size + (1 + j))))) ∧ ∀ j, j < i → MB w' (w2.heap.size + (1 + j)) []) (fun i => s.toNat - i) 0 ?_ ?_
      · simp only [VS, VD, SV, SL, T, Nat.reduceEqDiff, Nat.reduceAdd, Nat.reduceSub, Nat.reduceMul, Nat.reduceLeDiff, Nat.reduceLT, reduceIte, f22, f25]
        exact ⟨rfl, by omega, (Ext.refl w2).alloc _, ⟨_, rfl, by simp, fun j hj => by omega⟩, fun j hj => by omega⟩
      · rintro i f' w' ⟨f2, f5, f10, f48, f49, hi, hsz, hE2, ⟨cs, hb, hcs, hm⟩, hM⟩
        simp only [VS, VD, SV, SL, T, Nat.reduceEqDiff, Nat.reduceAdd, Nat.reduceSub, Nat.reduceMul, Nat.reduceLeDiff, Nat.reduceLT, reduceIte, f48, f49]
        by_cases hlt : (i : Int) < s.toNat
        · rw [decide_eq_true hlt]
          have hne : ¬ w2.heap.size = w'.heap.size := by omega
          simp only [VS, VD, SV, SL, T, Nat.reduceEqDiff, Nat.reduceAdd, Nat.reduceSub, Nat.reduceMul, Nat.reduceLeDiff, Nat.reduceLT, reduceIte, f2, f5, f10, f48, f49, hb, hne, Int.toNat_natCast]
          have hnew : (w'.alloc (Obj.map #[] 0)).heap[w'.heap.size]? = some (.map #[] 0) := alloc_get_new _ _
          refine ⟨by omega, by omega, by omega, i + 1, ⟨by simp, by omega, by omega, (hE2.alloc _).putb (by omega) _, ⟨_, if_pos (by omega), by simp [hcs], fun j hj => ?_⟩, fun j hj => ?_⟩, by omega⟩
          · rw [Array.getElem?_setIfInBounds]
            by_cases e : i = j
            · subst e; rw [if_pos rfl, if_pos (by omega), hsz]
            · rw [if_neg e, hm j (by omega)]
          · by_cases e : j = i
            · subst e
              rw [hsz] at hnew
              exact ⟨[], 0, by rw [putb_get_ne (by omega)]; exact hnew, MWF_nil, fun k => by simp [mget_nil]⟩
            · refine (hM j (by omega)).heap ?_
              rw [putb_get_ne (by omega), alloc_get_lt (by omega)]
        · rw [decide_eq_false hlt]
          obtain rfl : i = s.toNat := by omega
          simp only [VS, VD, SV, SL, T, Nat.reduceEqDiff, Nat.reduceAdd, Nat.reduceSub, Nat.reduceMul, Nat.reduceLeDiff, Nat.reduceLT, reduceIte, f2, f5, f10]
          exact ⟨hE2, ⟨cs, hb, hcs, hm⟩, hM⟩
    · rintro f3 w3 ⟨f32, f35, f310, hE2, ⟨cs, hb, hcs, hm⟩, hM⟩
      simp only [VS, VD, SV, SL, T, Nat.reduceEqDiff, Nat.reduceAdd, Nat.reduceSub, Nat.reduceMul, Nat.reduceLeDiff, Nat.reduceLT, reduceIte]
      have hI3 := hI.ext hE2
      obtain ⟨ch, hcb, hcsz, hcv⟩ := hI3
      have hI0 := hI.lt
      have hgl := fun j hj => (hM j hj).lt
      refine LoopP_intro (α := Nat) (fun i f' w' => f' 2 = .agg #[.int .i64 s, .int .i64 y, .int .i64 l] ∧ f' 5 = .slice (some ⟨w.heap.size + 1, 0, none⟩) 65537 65537 ∧ f' 10 = .slice (some ⟨w2.heap.size, 0, none⟩) s.toNat s.toNat ∧ f' 57 = .int .i64 i ∧ f' 12 = .int .i64 (opn L (i - 1)) ∧ i ≤ MX ∧ Ext w2 w' ∧
        w'.heap[w2.heap.size]? = some (.cells cs 59 (0, 0)) ∧ ∀ j, j < s.toNat → MB w' (w2.heap.size + (1 + j)) (lns L s j i)) (fun i => MX - i) 0 ?_ ?_
      · simp only [VS, VD, SV, SL, T, Nat.reduceEqDiff, Nat.reduceAdd, Nat.reduceSub, Nat.reduceMul, Nat.reduceLeDiff, Nat.reduceLT, reduceIte, f32, f35, f310]
        exact ⟨rfl, by rw [show ((0 : Nat) : Int) - 1 = -1 by rfl, opn_neg], by omega, hE2, hb, fun j hj => (hM j hj).congr fun k => by simp [lns]⟩
      · rintro i f' w' ⟨f2, f5, f10, f57, f12, hi, hE', hb', hM'⟩
        simp only [VS, VD, SV, SL, T, Nat.reduceEqDiff, Nat.reduceAdd, Nat.reduceSub, Nat.reduceMul, Nat.reduceLeDiff, Nat.reduceLT, reduceIte, f57]
        by_cases hlt : (i : Int) < 65536
        · rw [decide_eq_true hlt]
          have hi2 : i < MX := by have := MX_eq; omega
          have hcb' := hE'.obj (b := w.heap.size + 1) (o := .cells ch 3 (0, 0)) (by rw [← hE2.get _ hI0]; exact hcb)
          have hcv' := hcv i (by omega)
          simp only [] at hcv'
          have o1 := opn_step L i
          have o2 := opn_bd L i
          have o3 := opn_bd L (i - 1)
          simp only [VS, VD, SV, SL, T, Nat.reduceEqDiff, Nat.reduceAdd, Nat.reduceSub, Nat.reduceMul, Nat.reduceLeDiff, Nat.reduceLT, reduceIte, f2, f5, f10, f12, f57, hcb', hcv', Int.toNat_natCast]
          refine ⟨by omega, by omega, ?_⟩
          rw [← o1]
          by_cases hpos : 0 < opn L i
          · rw [decide_eq_true hpos]
            simp only [VS, VD, SV, SL, T, Nat.reduceEqDiff, Nat.reduceAdd, Nat.reduceSub, Nat.reduceMul, Nat.reduceLeDiff, Nat.reduceLT, reduceIte, f2, f10]
            refine (Set_spec s y l i w').mono ?_
            rintro _ w5 ⟨rfl, hE5⟩
            have hs : setOf s y l i = (i : Int) % s := by simp [setOf, hg]
            have hm0 : 0 ≤ (i : Int) % s := Int.emod_nonneg _ (by omega)
            have hm1 : (i : Int) % s < s := Int.emod_lt_of_pos _ (by omega)
            rw [hs]
            obtain ⟨q, hq⟩ := Int.eq_ofNat_of_zero_le hm0
            have hqs : q < s.toNat := by omega
            have hb5 := hE5.obj hb'
            have hq5 := hm q hqs
            rw [hq]
            simp only [VS, VD, SV, SL, T, Nat.reduceEqDiff, Nat.reduceAdd, Nat.reduceSub, Nat.reduceMul, Nat.reduceLeDiff, Nat.reduceLT, reduceIte, f10, hb5, hq5, Int.toNat_natCast]
            refine ⟨by omega, ?_⟩
            obtain ⟨lm, cm, hr, hwf, hgt⟩ := (hM' q hqs).ext hE5
            have hrl := get_lt hr
            refine rV_update T.me59 hr hwf.keys ?_
            simp only [VS, VD, SV, SL, T, Nat.reduceEqDiff, Nat.reduceAdd, Nat.reduceSub, Nat.reduceMul, Nat.reduceLeDiff, Nat.reduceLT, reduceIte, f2, f5, f10, f57]
            have hone : ¬ (w2.heap.size = w2.heap.size + (1 + q)) := by omega
            refine ⟨by omega, i + 1, ⟨by simp, by simp, by omega, (hE'.trans hE5).putb (by omega) _, by rw [if_neg hone]; exact hb5, fun j hj => ?_⟩, by omega⟩
            have hacd : acd L i = true := opn_pos.1 hpos
            by_cases e : j = q
            · subst e
              refine ⟨_, _, by rw [get_putb _ _ _ _ hrl, if_pos rfl], hwf.set _ _, fun k => ?_⟩
              have hl : lns L s j (i + 1) = lns L s j i ++ [(i : Int)] := by rw [lns_succ, if_pos ⟨hacd, by omega⟩]
              rw [mget_mset, hgt, hl]
              by_cases hk : k = i
              · subst hk; simp
              · rw [if_neg hk]; simp [hk]
            · refine (((hM' j hj).ext hE5).heap (by rw [putb_get_ne (by omega)])).congr fun k => ?_
              rw [lns_succ, if_neg (by omega), List.append_nil]
          · rw [decide_eq_false hpos]
            simp only [VS, VD, SV, SL, T, Nat.reduceEqDiff, Nat.reduceAdd, Nat.reduceSub, Nat.reduceMul, Nat.reduceLeDiff, Nat.reduceLT, reduceIte, f2, f5, f10, f57]
            have hacd : ¬ acd L i = true := fun q => hpos (opn_pos.2 q)
            refine ⟨by omega, i + 1, ⟨by simp, by simp, by omega, hE', hb', fun j hj => (hM' j hj).congr fun k => ?_⟩, by omega⟩
            rw [lns_succ, if_neg (fun q => hacd q.1), List.append_nil]
        · rw [decide_eq_false hlt]
          obtain rfl : i = MX := by have := MX_eq; omega
          simp only [VS, VD, SV, SL, T, Nat.reduceEqDiff, Nat.reduceAdd, Nat.reduceSub, Nat.reduceMul, Nat.reduceLeDiff, Nat.reduceLT, reduceIte, f10]
          exact hΨ _ _ ⟨⟨_, _, cs, _, _, rfl, hb', hcs, fun j hj => ⟨_, hm j hj, hM' j hj⟩⟩, hE.trans hE'⟩
end Go.Proofs.Ytneipineehichaa
