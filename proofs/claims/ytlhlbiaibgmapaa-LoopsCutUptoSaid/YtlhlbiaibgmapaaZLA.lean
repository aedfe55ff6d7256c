/-
  Lists of edges; cfg's Edges.
-/
import Derived.Test.YtlhlbiaibgmapaaZGA7
import Derived.Test.YtlhlbiaibgmapaaZGD6
set_option linter.unusedSimpArgs false
set_option linter.unusedVariables false
namespace Go.Proofs.Ytlhlbiaibgmapaa
open Go.W Go.RowKit
section
variable (P : Program) (f : Fr) (w : World) (ty : TypeId) (κ : Value → World → Prop)
theorem oV_insert (t : TypeId) (m k v : Operand) : opV P (.insert t m k v) ty f w κ = RunU P w κ (Instr.mapUpdate t (ev f m) (ev f k) (ev f v)) := by
  exact forall_congr fun T => forall_congr fun wa => forall_congr fun _ => forall_congr fun _ => raw_XU _
end
abbrev prR (x : Int × Int) : List Value := [.int .i64 x.1, .int .i64 x.2]
/-- a list of edges in memory -/
def PrAt (w : World) (v : Value) (L : List (Int × Int)) : Prop := SlAt w v 2 (L.map prR)
abbrev PrO (base : Nat) (w : World) (v : Value) (L : List (Int × Int)) : Prop := OwnL prR base 48 2 w v L
theorem PrO.at {base : Nat} {w : World} {v : Value} {L : List (Int × Int)} (h : PrO base w v L) : PrAt w v L := h.sl (fun _ => rfl)
theorem PrAt.ext {w w' : World} {v : Value} {L : List (Int × Int)} (h : PrAt w v L) (hE : Ext w w') : PrAt w' v L := SlAt.ext h hE
theorem PrAt.form {w : World} {v : Value} {L : List (Int × Int)} (h : PrAt w v L) : ∃ a c, v = .slice a L.length c := by
  obtain ⟨a, c, e⟩ := SlAt.form h
  exact ⟨a, c, by rw [e, List.length_map]⟩
theorem PrAt.get {w : World} {L : List (Int × Int)} {a : Option Addr} {n c : Nat} (h : PrAt w (.slice a n c) L) {i : Nat} (hi : i < L.length) :
    ∃ b off cs e fz, a = some ⟨b, off, none⟩ ∧ w.heap[b]? = some (.cells cs e fz) ∧ off + (i * 2 + 2) ≤ cs.size ∧ cs.extract (off + i * 2) (off + (i * 2 + 2)) = #[.int .i64 L[i].1, .int .i64 L[i].2] := by
  rcases h with ⟨_, h'⟩ | ⟨b, off, cap, h1, h2⟩
  · have : L = [] := by simpa using h'
    subst this; simp at hi
  · simp only [Value.slice.injEq] at h1
    obtain ⟨rfl, _, _⟩ := h1
    have := h2 i (prR L[i]) (by simp [hi])
    obtain ⟨cs, e, fz, h3, h4, h5⟩ := rd_obj this
    exact ⟨b, off, cs, e, fz, rfl, h3, by omega, by rw [← Nat.add_assoc]; exact h5⟩
set_option maxRecDepth 10000 in
theorem app_pair {w : World} {κ : Value → World → Prop} {base : Nat} {v : Value} {L : List (Int × Int)} (hown : PrO base w v L) (hn : L.length + 1 ≤ 100000000) (hb : base ≤ w.heap.size) (x y : Int)
    (h : ∀ v' w', PrO base w' v' (L ++ [(x, y)]) → (∀ w0, Ext w0 w → w0.heap.size ≤ base → Ext w0 w') → w.grownBy w' v.ownBlock → (∀ b, v'.ownBlock = some b → v.ownBlock = some b ∨ w.heap.size ≤ b) → κ v' w') :
    RunV Try.prog (w.alloc (.cells #[.int .i64 x, .int .i64 y] 48 (0, 0))) κ (Builtin.append_ #[53, 53] 53 #[v, .slice (some ⟨w.heap.size, 0, none⟩) 1 1]) := by
  refine OwnL.appA (R := prR) T.el53 T.sz48 T.by48 T.zr48 rfl (by omega) (hown.alloc (.cells #[.int .i64 x, .int .i64 y] 48 (0, 0))) (x, y) rfl rfl hn (by omega) (by rw [alloc_size]; omega) ?_ ?_
  · intro j u hu
    rw [add_mk, cell_mk, alloc_get_new]
    simpa using hu
  · intro v' w' ho hx hg hnew
    refine h v' w' ho (fun w0 hE h0 => hx w0 (hE.alloc _) h0) (grown_trans (World.grownBy_alloc w _ _) hg) fun b hb => ?_
    rcases hnew b hb with e | e
    · exact .inl e
    · rw [alloc_size] at e; exact .inr (by omega)
/-- the edges from block number k on -/
def edg : Nat → List (List Int) → List (Int × Int)
  | _, [] => []
  | k, l :: N => l.map (fun n => ((k : Int), n)) ++ edg (k + 1) N
theorem edg_snoc (l : List Int) : ∀ (N : List (List Int)) (k : Nat), edg k (N ++ [l]) = edg k N ++ l.map (fun n => (((k + N.length : Nat) : Int), n))
  | [], k => by simp [edg]
  | m :: N, k => by
    rw [List.cons_append, edg, edg, edg_snoc l N, List.append_assoc, List.length_cons]
    congr 3
    funext n
    congr 2
    omega
theorem edg_mem : ∀ (N : List (List Int)) (k : Nat) (x : Int × Int), x ∈ edg k N ↔ ∃ i : Nat, i < N.length ∧ x.1 = ((k + i : Nat) : Int) ∧ x.2 ∈ N.getD i []
  | [], k, x => by simp [edg]
  | l :: N, k, x => by
    rw [edg, List.mem_append, edg_mem N (k + 1) x]
    constructor
    · rintro (h | ⟨i, h1, h2, h3⟩)
      · obtain ⟨n, hn, rfl⟩ := List.mem_map.1 h
        exact ⟨0, by simp, rfl, by simpa using hn⟩
      · exact ⟨i + 1, by simp; omega, by rw [h2]; congr 1; omega, by simpa using h3⟩
    · rintro ⟨i, h1, h2, h3⟩
      cases i with
      | zero =>
        left
        refine List.mem_map.2 ⟨x.2, by simpa using h3, ?_⟩
        obtain ⟨x1, x2⟩ := x
        simp only [] at h2
        rw [h2]
        rfl
      | succ i => exact .inr ⟨i, by simp at h1; omega, by rw [h2]; congr 1; omega, by simpa using h3⟩
theorem edg_take_le : ∀ (N : List (List Int)) (k i : Nat), (edg k (N.take i)).length ≤ (edg k N).length
  | [], k, i => by simp
  | l :: N, k, 0 => by simp [edg]
  | l :: N, k, i + 1 => by
    rw [List.take_succ_cons, edg, edg, List.length_append, List.length_append]
    have := edg_take_le N (k + 1) i
    omega
theorem sc_nx {B : List Blk} {i : Nat} (hi : i < B.length) : sc (nx B) i = B[i].2.2 := by
  unfold sc nx
  rw [List.getD_eq_getElem?_getD]
  simp [hi]
set_option maxRecDepth 10000 in
theorem Edges_spec (gv : Value) (B : List Blk) (PV : List (List Int)) (hB : B.length ≤ 2000000) (hl : (edg 0 (nx B)).length ≤ 50000000) (hr : ∀ l ∈ nx B, l.length ≤ 50000000) (w : World) (h : GrAt w gv B PV) :
    VRet Try.prog 27 #[gv] w fun v w' => PrO w.heap.size w' v (edg 0 (nx B)) ∧ Ext w w' := by
  obtain ⟨bs, pv, rfl, hb0, hp0⟩ := h
  obtain ⟨ba, bc, rfl⟩ := hb0.form
  obtain ⟨pa, pc, rfl⟩ := hp0.form'
  refine VRet_start T.mo ok27 rfl fun Ψ hΨ => ?_; simp only [vc27, rs27]
  simp only [VS, VD, SV, SL, T, Nat.reduceEqDiff, Nat.reduceAdd, Nat.reduceSub, Nat.reduceMul, Nat.reduceLeDiff, Nat.reduceLT, reduceIte]
  have hE0 := (Ext.refl w).alloc tomb
  have hs0 : w.heap.size ≤ (w.alloc tomb).heap.size := by rw [alloc_size]; omega
  generalize w.alloc tomb = w1 at *
  refine LoopP_intro (α := Nat) (fun i g w' => g 1 = .agg #[.slice ba B.length bc, .slice pa PV.length pc] ∧ g 9 = .slice ba B.length bc ∧ g 10 = .int .i64 B.length ∧ g 11 = .int .i64 i ∧ i ≤ B.length ∧ Ext w w' ∧ w.heap.size ≤ w'.heap.size ∧ PrO w.heap.size w' (g 3) (edg 0 (nx (B.take i)))) (fun i => B.length - i) 0 ?_ ?_
  · simp only [VS, VD, SV, SL, T, Nat.reduceEqDiff, Nat.reduceAdd, Nat.reduceSub, Nat.reduceMul, Nat.reduceLeDiff, Nat.reduceLT, reduceIte]
    exact ⟨rfl, Nat.zero_le _, hE0, hs0, OwnL.nil _ _ _ _ _⟩
  · rintro i g w' ⟨g1, g9, g10, g11, hi, hE, hsz, hO⟩
    simp only [VS, VD, SV, SL, T, Nat.reduceEqDiff, Nat.reduceAdd, Nat.reduceSub, Nat.reduceMul, Nat.reduceLeDiff, Nat.reduceLT, reduceIte, g10, g11]
    by_cases hlt : (i : Int) < B.length
    · rw [decide_eq_true hlt]
      have hi' : i < B.length := by omega
      obtain ⟨b, off, cs, et, fz, u, rfl, hb, hsz', hcs, hcu, hu⟩ := hb0.get hi'
      replace hb := hE.obj hb
      have htk : B.take (i + 1) = B.take i ++ [B[i]] := List.take_succ_eq_append_getElem hi'
      have hnx : edg 0 (nx (B.take (i + 1))) = edg 0 (nx (B.take i)) ++ B[i].2.2.map (fun n => ((i : Int), n)) := by
        rw [htk]
        unfold nx
        rw [List.map_append]
        show edg 0 (_ ++ [B[i].2.2]) = _
        rw [edg_snoc, List.length_map, List.length_take]
        congr 3
        funext n
        congr 2
        omega
      have hlen : (edg 0 (nx (B.take (i + 1)))).length ≤ 50000000 := by
        have := edg_take_le (nx B) 0 (i + 1)
        rw [← nx_take] at this
        omega
      have hlr : B[i].2.2.length ≤ 50000000 := hr _ (by rw [← sc_nx hi']; exact NV.mem (by unfold nx; rw [List.length_map]; exact hi'))
      rw [hnx, List.length_append, List.length_map] at hlen
      obtain ⟨ua, uc, rfl⟩ := hu.form
      generalize hBi : B[i] = blk at *
      obtain ⟨x, y, l⟩ := blk
      simp only [] at hu hcs hnx hlen hlr
      have hOt : PrO w.heap.size (w'.alloc tomb) (g 3) (edg 0 (nx (B.take i))) := hO.alloc _
      simp only [VS, VD, SV, SL, T, Nat.reduceEqDiff, Nat.reduceAdd, Nat.reduceSub, Nat.reduceMul, Nat.reduceLeDiff, Nat.reduceLT, reduceIte, g1, g9, g11, hb, hsz', hcs, Int.toNat_natCast]
      refine ⟨by omega, ?_⟩
      have hEt := hE.alloc tomb
      have hszt : w.heap.size ≤ (w'.alloc tomb).heap.size := by rw [alloc_size]; omega
      generalize w'.alloc tomb = w2 at *
      refine LoopP_intro (α := Nat) (fun j g2 w3 => g2 1 = .agg #[.slice (some ⟨b, off, none⟩) B.length bc, .slice pa PV.length pc] ∧ g2 4 = .int .i64 i ∧ g2 9 = .slice (some ⟨b, off, none⟩) B.length bc ∧ g2 10 = .int .i64 B.length ∧ g2 11 = .int .i64 i ∧ g2 17 = .slice ua l.length uc ∧ g2 18 = .int .i64 l.length ∧ g2 19 = .int .i64 j ∧ j ≤ l.length ∧ Ext w w3 ∧ w.heap.size ≤ w3.heap.size ∧ PrO w.heap.size w3 (g2 3) (edg 0 (nx (B.take i)) ++ (l.take j).map (fun n => ((i : Int), n)))) (fun j => l.length - j) 0 ?_ ?_
      · simp only [VS, VD, SV, SL, T, Nat.reduceEqDiff, Nat.reduceAdd, Nat.reduceSub, Nat.reduceMul, Nat.reduceLeDiff, Nat.reduceLT, reduceIte, g9, g10, g11]
        refine ⟨g1, rfl, Nat.zero_le _, hEt, hszt, by simpa using hOt⟩
      · clear g1 g9 g10 g11 hO hOt hEt hszt g
        rintro j g w3 ⟨g1, g4, g9, g10, g11, g17, g18, g19, hj, hE3, hsz3, hO⟩
        simp only [VS, VD, SV, SL, T, Nat.reduceEqDiff, Nat.reduceAdd, Nat.reduceSub, Nat.reduceMul, Nat.reduceLeDiff, Nat.reduceLT, reduceIte, g18, g19]
        by_cases hjl : (j : Int) < l.length
        · rw [decide_eq_true hjl]
          have hj' : j < l.length := by omega
          obtain ⟨bu, ou, cu, eu, fu, rfl, _, hbu, hcu'⟩ := (hu.ext hE3).get (i := j) (x := l[j]) (by simp [hj'])
          have htl : l.take (j + 1) = l.take j ++ [l[j]] := List.take_succ_eq_append_getElem hj'
          obtain ⟨oa, oc, ho3⟩ := hO.form
          simp only [VS, VD, SV, SL, T, Nat.reduceEqDiff, Nat.reduceAdd, Nat.reduceSub, Nat.reduceMul, Nat.reduceLeDiff, Nat.reduceLT, reduceIte, g4, g17, g19, hbu, hcu', Int.toNat_natCast]
          refine ⟨by omega, ?_⟩
          refine app_pair hO (by simp; omega) hsz3 i l[j] ?_
          intro v' w4 ho4 hx4 hg4 hn4
          simp only [VS, VD, SV, SL, T, Nat.reduceEqDiff, Nat.reduceAdd, Nat.reduceSub, Nat.reduceMul, Nat.reduceLeDiff, Nat.reduceLT, reduceIte, g1, g4, g9, g10, g11, g17, g18, g19]
          refine ⟨by omega, j + 1, ⟨by simp, by omega, hx4 w hE3 (Nat.le_refl _), by have := hg4.size; omega, ?_⟩, by omega⟩
          rw [htl, List.map_append, ← List.append_assoc]
          exact ho4
        · rw [decide_eq_false hjl]
          rw [show l.take j = l from List.take_of_length_le (by omega)] at hO
          simp only [VS, VD, SV, SL, T, Nat.reduceEqDiff, Nat.reduceAdd, Nat.reduceSub, Nat.reduceMul, Nat.reduceLeDiff, Nat.reduceLT, reduceIte, g1, g9, g10, g11]
          exact ⟨by omega, i + 1, ⟨by simp, by omega, hE3, hsz3, by rw [hnx]; exact hO⟩, by omega⟩
    · rw [decide_eq_false hlt]
      rw [List.take_of_length_le (by omega)] at hO
      simp only [VS, VD, SV, SL, T, Nat.reduceEqDiff, Nat.reduceAdd, Nat.reduceSub, Nat.reduceMul, Nat.reduceLeDiff, Nat.reduceLT, reduceIte]
      exact hΨ _ _ ⟨hO, hE⟩
end Go.Proofs.Ytlhlbiaibgmapaa
set_option linter.unusedSimpArgs false
set_option linter.unusedVariables false
namespace Go.Proofs.Ytlhlbiaibgmapaa
open Go.W Go.RowKit
/-- a loop: header, blocks, latches, parent -/
abbrev Lp := Int × List Int × List Int × Int
def LpV (w : World) (v : Value) (x : Lp) : Prop := ∃ u u', v = .agg #[.int .i64 x.1, u, u', .int .i64 x.2.2.2] ∧ IntsAt w u x.2.1 ∧ IntsAt w u' x.2.2.1
theorem LpV.ext {w w' : World} {v : Value} {x : Lp} (h : LpV w v x) (hE : Ext w w') : LpV w' v x := by
  obtain ⟨u, u', h1, h2, h3⟩ := h
  exact ⟨u, u', h1, h2.ext hE, h3.ext hE⟩
def LpsAt (w : World) (v : Value) (L : List Lp) : Prop :=
  ((∃ a c, v = .slice a 0 c) ∧ L = []) ∨ ∃ b off cap, v = .slice (some ⟨b, off, none⟩) L.length cap ∧ ∀ i x, L[i]? = some x → ∃ u u', rd w ⟨b, off + i * 4, none⟩ 4 = some #[.int .i64 x.1, u, u', .int .i64 x.2.2.2] ∧ IntsAt w u x.2.1 ∧ IntsAt w u' x.2.2.1
theorem LpsAt.ext {w w' : World} {v : Value} {L : List Lp} (h : LpsAt w v L) (hE : Ext w w') : LpsAt w' v L := by
  rcases h with h | ⟨b, off, cap, h1, h2⟩
  · exact .inl h
  · exact .inr ⟨b, off, cap, h1, fun i x hx => let ⟨u, u', q1, q2, q3⟩ := h2 i x hx; ⟨u, u', rd_ext hE q1, q2.ext hE, q3.ext hE⟩⟩
theorem LpsAt.form {w : World} {v : Value} {L : List Lp} (h : LpsAt w v L) : ∃ a c, v = .slice a L.length c := by
  rcases h with ⟨⟨a, c, h⟩, h'⟩ | ⟨b, off, cap, h1, h2⟩
  · exact ⟨a, c, by rw [h, h']; rfl⟩
  · exact ⟨_, _, h1⟩
theorem LpsAt.get {w : World} {L : List Lp} {a : Option Addr} {n c : Nat} (h : LpsAt w (.slice a n c) L) {i : Nat} (hi : i < L.length) :
    ∃ b off cs e fz u u', a = some ⟨b, off, none⟩ ∧ w.heap[b]? = some (.cells cs e fz) ∧ off + (i * 4 + 4) ≤ cs.size ∧ cs.extract (off + i * 4) (off + (i * 4 + 4)) = #[.int .i64 L[i].1, u, u', .int .i64 L[i].2.2.2] ∧
      (cs[off + i * 4]? = some (.int .i64 L[i].1) ∧ cs[off + (i * 4 + 1)]? = some u ∧ cs[off + (i * 4 + 2)]? = some u' ∧ cs[off + (i * 4 + 3)]? = some (.int .i64 L[i].2.2.2)) ∧ IntsAt w u L[i].2.1 ∧ IntsAt w u' L[i].2.2.1 := by
  rcases h with ⟨_, h'⟩ | ⟨b, off, cap, h1, h2⟩
  · subst h'; simp at hi
  · simp only [Value.slice.injEq] at h1
    obtain ⟨rfl, rfl, rfl⟩ := h1
    obtain ⟨u, u', q1, q2, q3⟩ := h2 i L[i] (by simp)
    obtain ⟨cs, e, fz, h3, h4, h5⟩ := rd_obj q1
    have key : ∀ k, k < 4 → cs[off + (i * 4 + k)]? = (#[Value.int .i64 L[i].1, u, u', .int .i64 L[i].2.2.2] : Array Value)[k]? := fun k hk => by
      have h6 := congrArg (fun a : Array Value => a[k]?) h5
      simp only [Array.getElem?_extract] at h6
      rw [if_pos (by omega)] at h6
      rw [← h6, ← Nat.add_assoc]
    refine ⟨b, off, cs, e, fz, u, u', rfl, h3, by omega, by rw [← Nat.add_assoc]; exact h5, ⟨?_, ?_, ?_, ?_⟩, q2, q3⟩
    · simpa using key 0 (by omega)
    · simpa using key 1 (by omega)
    · simpa using key 2 (by omega)
    · simpa using key 3 (by omega)
/-- a set of integers, as a map to true -/
def SetM (w : World) (r : Nat) (S : Int → Bool) : Prop := ∃ l c, w.heap[r]? = some (.map (mk l) c) ∧ MWF l c ∧ ∀ k, mget l k = if S k = true then some (.bool true) else none
theorem SetM.heap {w w' : World} {r : Nat} {S : Int → Bool} (h : SetM w r S) (e : w'.heap[r]? = w.heap[r]?) : SetM w' r S := by
  obtain ⟨l, c, h1, h2⟩ := h
  exact ⟨l, c, e.trans h1, h2⟩
theorem SetM.ext {w w' : World} {r : Nat} {S : Int → Bool} (h : SetM w r S) (hE : Ext w w') : SetM w' r S := by
  obtain ⟨l, c, h1, h2⟩ := h
  exact ⟨l, c, hE.obj h1, h2⟩
theorem SetM.lt {w : World} {r : Nat} {S : Int → Bool} (h : SetM w r S) : r < w.heap.size := by
  obtain ⟨l, c, h1, h2⟩ := h
  exact get_lt h1
def setI (S : Int → Bool) (k : Int) : Int → Bool := fun j => if j = k then true else S j
theorem SetM.new (w : World) : SetM (w.alloc (.map #[] 0)) w.heap.size (fun _ => false) := ⟨[], 0, by rw [alloc_get_new]; rfl, ⟨by simp, by simp, by simp⟩, fun k => by simp [mget_nil]⟩
set_option maxRecDepth 10000 in
theorem SetM.look {w : World} {r : Nat} {S : Int → Bool} (h : SetM w r S) {κ : Value → World → Prop} (k : Int) (hk : κ (.bool (S k)) w) : RunV Try.prog w κ (Instr.lookup 52 (.map (some r)) (.int .i64 k) false) := by
  obtain ⟨l, c, h1, h2, h3⟩ := h
  refine rV_lookup T.me52 T.zr4 h1 ?_
  rw [h3]
  cases hS : S k <;> simpa [hS] using hk
set_option maxRecDepth 10000 in
theorem SetM.put {w : World} {r : Nat} {S : Int → Bool} (h : SetM w r S) {κ : Value → World → Prop} (k : Int) (hk : ∀ w', (∃ o, w' = w.putb r o) → SetM w' r (setI S k) → κ undef w') : RunU Try.prog w κ (Instr.mapUpdate 52 (.map (some r)) (.int .i64 k) (.bool true)) := by
  obtain ⟨l, c, h1, h2, h3⟩ := h
  refine rV_update T.me52 h1 h2.1 ?_
  refine hk _ ⟨_, rfl⟩ ⟨_, _, by rw [get_putb _ _ _ _ (get_lt h1), if_pos rfl], h2.set k _, fun j => ?_⟩
  rw [mget_mset, h3]
  unfold setI
  by_cases e : j = k <;> simp [e]
set_option maxRecDepth 10000 in
theorem in_spec (lv : Value) (l : List Int) (hl : l.length ≤ 100000000) (n : Int) (w : World) (h : IntsAt w lv l) : VRet Try.prog 20 #[lv, .int .i64 n] w fun v w' => v = .bool (decide (n ∈ l)) ∧ Ext w w' := by
  obtain ⟨la, lc, rfl⟩ := h.form
  refine VRet_start T.mo ok20 rfl fun Ψ hΨ => ?_; simp only [vc20, rs20]
  simp only [VS, VD, SV, SL, T, Nat.reduceEqDiff, Nat.reduceAdd, Nat.reduceSub, Nat.reduceMul, Nat.reduceLeDiff, Nat.reduceLT, reduceIte]
  refine LoopP_intro (α := Nat) (fun i g w' => g 1 = .int .i64 n ∧ g 7 = .slice la l.length lc ∧ g 8 = .int .i64 l.length ∧ g 9 = .int .i64 i ∧ i ≤ l.length ∧ Ext w w' ∧ n ∉ l.take i) (fun i => l.length - i) 0 ?_ ?_
  · simp only [VS, VD, SV, SL, T, Nat.reduceEqDiff, Nat.reduceAdd, Nat.reduceSub, Nat.reduceMul, Nat.reduceLeDiff, Nat.reduceLT, reduceIte]
    exact ⟨rfl, Nat.zero_le _, Ext.refl w, fun h => by cases h⟩
  · rintro i g w' ⟨g1, g7, g8, g9, hi, hE, hni⟩
    simp only [VS, VD, SV, SL, T, Nat.reduceEqDiff, Nat.reduceAdd, Nat.reduceSub, Nat.reduceMul, Nat.reduceLeDiff, Nat.reduceLT, reduceIte, g8, g9]
    by_cases hlt : (i : Int) < l.length
    · rw [decide_eq_true hlt]
      have hi' : i < l.length := by omega
      obtain ⟨bb, bo, bcs, be, bfz, rfl, _, hbb, hbc⟩ := (h.ext hE).get (i := i) (x := l[i]) (by simp)
      simp only [VS, VD, SV, SL, T, Nat.reduceEqDiff, Nat.reduceAdd, Nat.reduceSub, Nat.reduceMul, Nat.reduceLeDiff, Nat.reduceLT, reduceIte, g1, g7, g9, hbb, hbc, Int.toNat_natCast]
      refine ⟨by omega, ?_⟩
      by_cases he : l[i] = n
      · rw [decide_eq_true he]
        simp only [VS, VD, SV, SL, T, Nat.reduceEqDiff, Nat.reduceAdd, Nat.reduceSub, Nat.reduceMul, Nat.reduceLeDiff, Nat.reduceLT, reduceIte]
        exact hΨ _ _ ⟨by rw [decide_eq_true (he ▸ List.getElem_mem hi')], hE⟩
      · rw [decide_eq_false he]
        simp only [VS, VD, SV, SL, T, Nat.reduceEqDiff, Nat.reduceAdd, Nat.reduceSub, Nat.reduceMul, Nat.reduceLeDiff, Nat.reduceLT, reduceIte, g1, g7, g8, g9]
        refine ⟨by omega, i + 1, ⟨by simp, by omega, hE, fun hm => ?_⟩, by omega⟩
        rw [List.take_succ_eq_append_getElem hi'] at hm
        rcases List.mem_append.1 hm with hm | hm
        · exact hni hm
        · simp only [List.mem_singleton] at hm
          exact he hm.symm
    · rw [decide_eq_false hlt]
      rw [List.take_of_length_le (by omega)] at hni
      simp only [VS, VD, SV, SL, T, Nat.reduceEqDiff, Nat.reduceAdd, Nat.reduceSub, Nat.reduceMul, Nat.reduceLeDiff, Nat.reduceLT, reduceIte]
      exact hΨ _ _ ⟨by rw [decide_eq_false hni], hE⟩
/-- the place of a number in a list, or -1 -/
def psn (l : List Int) (n : Int) : Int := if n ∈ l then (l.idxOf n : Int) else -1
theorem psn_at {l : List Int} {n : Int} {i : Nat} (hi : i < l.length) (hn : n ∉ l.take i) (he : l[i] = n) : psn l n = i := by
  have hm : n ∈ l := he ▸ List.getElem_mem hi
  unfold psn
  rw [if_pos hm]
  have e : l = l.take i ++ n :: l.drop (i + 1) := by
    rw [← he]
    conv => lhs; rw [← List.take_append_drop i l, List.drop_eq_getElem_cons hi]
  have hlen : (l.take i).length = i := by rw [List.length_take]; omega
  congr 1
  rw [e, List.idxOf_append, if_neg hn, List.idxOf_cons]
  simp [hlen]
theorem psn_neg {l : List Int} {n : Int} : psn l n < 0 ↔ n ∉ l := by
  unfold psn
  split
  · rename_i h; simp [h]
  · rename_i h; simp [h]
set_option maxRecDepth 10000 in
theorem position_spec (lv : Value) (l : List Int) (hl : l.length ≤ 100000000) (n : Int) (w : World) (h : IntsAt w lv l) : VRet Try.prog 36 #[lv, .int .i64 n] w fun v w' => v = .int .i64 (psn l n) ∧ Ext w w' := by
  obtain ⟨la, lc, rfl⟩ := h.form
  refine VRet_start T.mo ok36 rfl fun Ψ hΨ => ?_; simp only [vc36, rs36]
  simp only [VS, VD, SV, SL, T, Nat.reduceEqDiff, Nat.reduceAdd, Nat.reduceSub, Nat.reduceMul, Nat.reduceLeDiff, Nat.reduceLT, reduceIte]
  refine LoopP_intro (α := Nat) (fun i g w' => g 0 = .slice la l.length lc ∧ g 1 = .int .i64 n ∧ g 5 = .int .i64 i ∧ i ≤ l.length ∧ Ext w w' ∧ n ∉ l.take i) (fun i => l.length - i) 0 ?_ ?_
  · simp only [VS, VD, SV, SL, T, Nat.reduceEqDiff, Nat.reduceAdd, Nat.reduceSub, Nat.reduceMul, Nat.reduceLeDiff, Nat.reduceLT, reduceIte]
    exact ⟨rfl, Nat.zero_le _, Ext.refl w, fun h => by cases h⟩
  · rintro i g w' ⟨g0, g1, g5, hi, hE, hni⟩
    simp only [VS, VD, SV, SL, T, Nat.reduceEqDiff, Nat.reduceAdd, Nat.reduceSub, Nat.reduceMul, Nat.reduceLeDiff, Nat.reduceLT, reduceIte, g0, g5]
    by_cases hlt : (i : Int) < l.length
    · rw [decide_eq_true hlt]
      have hi' : i < l.length := by omega
      obtain ⟨bb, bo, bcs, be, bfz, rfl, _, hbb, hbc⟩ := (h.ext hE).get (i := i) (x := l[i]) (by simp)
      simp only [VS, VD, SV, SL, T, Nat.reduceEqDiff, Nat.reduceAdd, Nat.reduceSub, Nat.reduceMul, Nat.reduceLeDiff, Nat.reduceLT, reduceIte, g0, g1, g5, hbb, hbc, Int.toNat_natCast]
      refine ⟨by omega, ?_⟩
      by_cases he : l[i] = n
      · rw [decide_eq_true he]
        simp only [VS, VD, SV, SL, T, Nat.reduceEqDiff, Nat.reduceAdd, Nat.reduceSub, Nat.reduceMul, Nat.reduceLeDiff, Nat.reduceLT, reduceIte, g5]
        exact hΨ _ _ ⟨by rw [psn_at hi' hni he], hE⟩
      · rw [decide_eq_false he]
        simp only [VS, VD, SV, SL, T, Nat.reduceEqDiff, Nat.reduceAdd, Nat.reduceSub, Nat.reduceMul, Nat.reduceLeDiff, Nat.reduceLT, reduceIte, g0, g1, g5]
        refine ⟨by omega, i + 1, ⟨by simp, by omega, hE, fun hm => ?_⟩, by omega⟩
        rw [List.take_succ_eq_append_getElem hi'] at hm
        rcases List.mem_append.1 hm with hm | hm
        · exact hni hm
        · simp only [List.mem_singleton] at hm
          exact he hm.symm
    · rw [decide_eq_false hlt]
      rw [List.take_of_length_le (by omega)] at hni
      simp only [VS, VD, SV, SL, T, Nat.reduceEqDiff, Nat.reduceAdd, Nat.reduceSub, Nat.reduceMul, Nat.reduceLeDiff, Nat.reduceLT, reduceIte]
      exact hΨ _ _ ⟨by unfold psn; rw [if_neg hni], hE⟩
set_option maxRecDepth 10000 in
theorem Index_spec (lv : Value) (l : List Int) (hl : l.length ≤ 100000000) (n : Int) (w : World) (h : IntsAt w lv l) : VRet Try.prog 54 #[lv, .int .i64 n] w fun v w' => v = .int .i64 (psn l n) ∧ Ext w w' := by
  obtain ⟨la, lc, rfl⟩ := h.form
  refine VRet_start T.mo ok54 rfl fun Ψ hΨ => ?_; simp only [vc54, rs54]
  simp only [VS, VD, SV, SL, T, Nat.reduceEqDiff, Nat.reduceAdd, Nat.reduceSub, Nat.reduceMul, Nat.reduceLeDiff, Nat.reduceLT, reduceIte]
  refine LoopP_intro (α := Nat) (fun i g w' => g 0 = .slice la l.length lc ∧ g 1 = .int .i64 n ∧ g 7 = .int .i64 l.length ∧ g 8 = .int .i64 i ∧ i ≤ l.length ∧ Ext w w' ∧ n ∉ l.take i) (fun i => l.length - i) 0 ?_ ?_
  · simp only [VS, VD, SV, SL, T, Nat.reduceEqDiff, Nat.reduceAdd, Nat.reduceSub, Nat.reduceMul, Nat.reduceLeDiff, Nat.reduceLT, reduceIte]
    exact ⟨rfl, Nat.zero_le _, Ext.refl w, fun h => by cases h⟩
  · rintro i g w' ⟨g0, g1, g7, g8, hi, hE, hni⟩
    simp only [VS, VD, SV, SL, T, Nat.reduceEqDiff, Nat.reduceAdd, Nat.reduceSub, Nat.reduceMul, Nat.reduceLeDiff, Nat.reduceLT, reduceIte, g7, g8]
    by_cases hlt : (i : Int) < l.length
    · rw [decide_eq_true hlt]
      have hi' : i < l.length := by omega
      obtain ⟨bb, bo, bcs, be, bfz, rfl, _, hbb, hbc⟩ := (h.ext hE).get (i := i) (x := l[i]) (by simp)
      simp only [VS, VD, SV, SL, T, Nat.reduceEqDiff, Nat.reduceAdd, Nat.reduceSub, Nat.reduceMul, Nat.reduceLeDiff, Nat.reduceLT, reduceIte, g0, g1, g8, hbb, hbc, Int.toNat_natCast]
      refine ⟨by omega, ?_⟩
      by_cases he : n = l[i]
      · rw [decide_eq_true he]
        simp only [VS, VD, SV, SL, T, Nat.reduceEqDiff, Nat.reduceAdd, Nat.reduceSub, Nat.reduceMul, Nat.reduceLeDiff, Nat.reduceLT, reduceIte, g8]
        exact hΨ _ _ ⟨by rw [psn_at hi' hni he.symm], hE⟩
      · rw [decide_eq_false he]
        simp only [VS, VD, SV, SL, T, Nat.reduceEqDiff, Nat.reduceAdd, Nat.reduceSub, Nat.reduceMul, Nat.reduceLeDiff, Nat.reduceLT, reduceIte, g0, g1, g7, g8]
        refine ⟨by omega, i + 1, ⟨by simp, by omega, hE, fun hm => ?_⟩, by omega⟩
        rw [List.take_succ_eq_append_getElem hi'] at hm
        rcases List.mem_append.1 hm with hm | hm
        · exact hni hm
        · simp only [List.mem_singleton] at hm
          exact he hm
    · rw [decide_eq_false hlt]
      rw [List.take_of_length_le (by omega)] at hni
      simp only [VS, VD, SV, SL, T, Nat.reduceEqDiff, Nat.reduceAdd, Nat.reduceSub, Nat.reduceMul, Nat.reduceLeDiff, Nat.reduceLT, reduceIte]
      exact hΨ _ _ ⟨by unfold psn; rw [if_neg hni], hE⟩
set_option maxRecDepth 10000 in
theorem Contains_spec (lv : Value) (l : List Int) (hl : l.length ≤ 100000000) (n : Int) (w : World) (h : IntsAt w lv l) : VRet Try.prog 44 #[lv, .int .i64 n] w fun v w' => v = .bool (decide (n ∈ l)) ∧ Ext w w' := by
  refine VRet_start T.mo ok44 rfl fun Ψ hΨ => ?_; simp only [vc44, rs44]
  simp only [VS, VD, SV, SL, T, Nat.reduceEqDiff, Nat.reduceAdd, Nat.reduceSub, Nat.reduceMul, Nat.reduceLeDiff, Nat.reduceLT, reduceIte]
  refine (Index_spec lv l hl n w h).mono ?_
  rintro _ w1 ⟨rfl, hE1⟩
  simp only [VS, VD, SV, SL, T, Nat.reduceEqDiff, Nat.reduceAdd, Nat.reduceSub, Nat.reduceMul, Nat.reduceLeDiff, Nat.reduceLT, reduceIte]
  refine hΨ _ _ ⟨?_, hE1⟩
  congr 1
  have := @psn_neg l n
  by_cases hm : n ∈ l
  · rw [decide_eq_true hm]
    exact decide_eq_true (by apply Int.not_lt.1; intro h; exact this.1 h hm)
  · rw [decide_eq_false hm]
    exact decide_eq_false (by have := this.2 hm; omega)
set_option maxRecDepth 10000 in
theorem members_spec (lv : Value) (x : Lp) (hl : x.2.1.length ≤ 100000000) (w : World) (h : LpV w lv x) : VRet Try.prog 43 #[lv] w fun v w' => (∃ r, v = .map (some r) ∧ SetM w' r (fun k => decide (k ∈ x.2.1))) ∧ Ext w w' := by
  obtain ⟨u, u', rfl, hu, hu'⟩ := h
  obtain ⟨ua, uc, rfl⟩ := hu.form
  obtain ⟨ua', uc', rfl⟩ := hu'.form
  obtain ⟨hd, l, la, pr⟩ := x
  simp only [] at hu hl ⊢
  refine VRet_start T.mo ok43 rfl fun Ψ hΨ => ?_; simp only [vc43, rs43]
  simp only [VS, VD, SV, SL, T, Nat.reduceEqDiff, Nat.reduceAdd, Nat.reduceSub, Nat.reduceMul, Nat.reduceLeDiff, Nat.reduceLT, reduceIte]
  have hE1 := (Ext.refl w).alloc tomb
  have hws : w.heap.size + 1 = (w.alloc tomb).heap.size := (alloc_size _ _).symm
  generalize w.alloc tomb = w1 at *
  have hS := SetM.new w1
  have hE2 := hE1.alloc (.map #[] 0)
  have hs1 := hE1.size
  refine LoopP_intro (α := Nat) (fun i g w' => g 3 = .map (some w1.heap.size) ∧ g 8 = .slice ua l.length uc ∧ g 9 = .int .i64 l.length ∧ g 10 = .int .i64 i ∧ i ≤ l.length ∧ Ext w w' ∧ SetM w' w1.heap.size (fun k => decide (k ∈ l.take i))) (fun i => l.length - i) 0 ?_ ?_
  · simp only [VS, VD, SV, SL, T, Nat.reduceEqDiff, Nat.reduceAdd, Nat.reduceSub, Nat.reduceMul, Nat.reduceLeDiff, Nat.reduceLT, reduceIte]
    exact ⟨by rw [hws], rfl, Nat.zero_le _, hE2, by simpa using hS⟩
  · rintro i g w' ⟨g3, g8, g9, g10, hi, hE, hS⟩
    simp only [VS, VD, SV, SL, T, Nat.reduceEqDiff, Nat.reduceAdd, Nat.reduceSub, Nat.reduceMul, Nat.reduceLeDiff, Nat.reduceLT, reduceIte, g9, g10]
    by_cases hlt : (i : Int) < l.length
    · rw [decide_eq_true hlt]
      have hi' : i < l.length := by omega
      obtain ⟨bb, bo, bcs, be, bfz, rfl, _, hbb, hbc⟩ := (hu.ext hE).get (i := i) (x := l[i]) (by simp)
      simp only [VS, VD, SV, SL, T, Nat.reduceEqDiff, Nat.reduceAdd, Nat.reduceSub, Nat.reduceMul, Nat.reduceLeDiff, Nat.reduceLT, reduceIte, g3, g8, g10, hbb, hbc, Int.toNat_natCast]
      refine ⟨by omega, ?_⟩
      refine hS.put l[i] ?_
      rintro w2 ⟨o, rfl⟩ hS2
      simp only [VS, VD, SV, SL, T, Nat.reduceEqDiff, Nat.reduceAdd, Nat.reduceSub, Nat.reduceMul, Nat.reduceLeDiff, Nat.reduceLT, reduceIte, g3, g8, g9, g10]
      refine ⟨by omega, i + 1, ⟨by simp, by omega, hE.putb hs1 _, ?_⟩, by omega⟩
      have e : setI (fun k => decide (k ∈ l.take i)) l[i] = fun k => decide (k ∈ l.take (i + 1)) := by
        have hm : ∀ k, k ∈ l.take (i + 1) ↔ k ∈ l.take i ∨ k = l[i] := fun k => by rw [List.take_succ_eq_append_getElem hi', List.mem_append, List.mem_singleton]
        funext k
        unfold setI
        by_cases e : k = l[i]
        · rw [if_pos e]; exact (decide_eq_true ((hm k).2 (.inr e))).symm
        · rw [if_neg e]; exact decide_eq_decide.2 ⟨fun h => (hm k).2 (.inl h), fun h => ((hm k).1 h).resolve_right e⟩
      rw [← e]
      exact hS2
    · rw [decide_eq_false hlt]
      rw [List.take_of_length_le (by omega)] at hS
      simp only [VS, VD, SV, SL, T, Nat.reduceEqDiff, Nat.reduceAdd, Nat.reduceSub, Nat.reduceMul, Nat.reduceLeDiff, Nat.reduceLT, reduceIte, g3]
      exact hΨ _ _ ⟨⟨_, rfl, hS⟩, hE⟩
end Go.Proofs.Ytlhlbiaibgmapaa
set_option linter.unusedSimpArgs false
set_option linter.unusedVariables false
namespace Go.Proofs.Ytlhlbiaibgmapaa
open Go.W Go.RowKit
/-- an index into a pair -/
theorem AX : (∀ (a : Nat × Nat) (f : Nat × Nat → Option (Value × World)), (some a).bind f = f a) ∧ (0 : Int) ≤ 0 ∧ (0 : Int) < ((2 : Nat) : Int) ∧ (0 : Int) ≤ 1 ∧ (1 : Int) < ((2 : Nat) : Int) ∧ (0 : Int).toNat = 0 ∧ (1 : Int).toNat = 1 := ⟨fun _ _ => rfl, by decide, by decide, by decide, by decide, rfl, rfl⟩
def entB (x : Lp) (e : Int × Int) : Bool := !decide (e.1 ∈ x.2.1) && decide (e.2 = x.1)
def exiB (x : Lp) (e : Int × Int) : Bool := decide (e.1 ∈ x.2.1) && !decide (e.2 ∈ x.2.1)
theorem filter_snoc {α : Type} (p : α → Bool) (l : List α) (x : α) : (l ++ [x]).filter p = l.filter p ++ if p x = true then [x] else [] := by
  rw [List.filter_append]
  congr 1
  cases h : p x <;> simp [h]
set_option maxRecDepth 10000 in
theorem Entries_spec (gv : Value) (B : List Blk) (PV : List (List Int)) (hB : B.length ≤ 2000000) (hl : (edg 0 (nx B)).length ≤ 50000000) (hr : ∀ l ∈ nx B, l.length ≤ 50000000) (lv : Value) (x : Lp) (hx : x.2.1.length ≤ 100000000) (w : World) (h : GrAt w gv B PV) (hL : LpV w lv x) :
    VRet Try.prog 23 #[gv, lv] w fun v w' => PrAt w' v ((edg 0 (nx B)).filter (entB x)) ∧ Ext w w' := by
  obtain ⟨bs, pv, rfl, hb0, hp0⟩ := h
  obtain ⟨ba, bc, rfl⟩ := hb0.form
  obtain ⟨pa, pc, rfl⟩ := hp0.form'
  obtain ⟨u, u', rfl, hu, hu'⟩ := hL
  obtain ⟨ua, uc, rfl⟩ := hu.form
  obtain ⟨ua', uc', rfl⟩ := hu'.form
  obtain ⟨hd, l, la, pr⟩ := x
  simp only [] at hu hu' hx ⊢
  refine VRet_start T.mo ok23 rfl fun Ψ hΨ => ?_; simp only [vc23, rs23]
  simp only [VS, VD, SV, SL, T, Nat.reduceEqDiff, Nat.reduceAdd, Nat.reduceSub, Nat.reduceMul, Nat.reduceLeDiff, Nat.reduceLT, reduceIte]
  have hE1 := ((Ext.refl w).alloc tomb).alloc tomb
  generalize (w.alloc tomb).alloc tomb = w1 at *
  refine (members_spec _ (hd, l, la, pr) hx w1 ⟨_, _, rfl, hu.ext hE1, hu'.ext hE1⟩).mono ?_
  rintro _ w2 ⟨⟨r, rfl, hS⟩, hE2⟩
  replace hE2 := hE1.trans hE2
  simp only [VS, VD, SV, SL, T, Nat.reduceEqDiff, Nat.reduceAdd, Nat.reduceSub, Nat.reduceMul, Nat.reduceLeDiff, Nat.reduceLT, reduceIte]
  refine (Edges_spec _ B PV hB hl hr w2 ⟨_, _, rfl, hb0.ext hE2, hp0.ext hE2⟩).mono ?_
  rintro v3 w3 ⟨hO3, hE3⟩
  replace hS := hS.ext hE3
  replace hE3 := hE2.trans hE3
  have hP3 := hO3.at
  generalize hEE : edg 0 (nx B) = Es at *
  obtain ⟨ea, ec, rfl⟩ := hP3.form
  simp only [VS, VD, SV, SL, T, Nat.reduceEqDiff, Nat.reduceAdd, Nat.reduceSub, Nat.reduceMul, Nat.reduceLeDiff, Nat.reduceLT, reduceIte]
  refine LoopP_intro (α := Nat) (fun i g w' => g 3 = .agg #[.int .i64 hd, .slice ua l.length uc, .slice ua' la.length uc', .int .i64 pr] ∧ g 5 = .map (some r) ∧ g 12 = .slice ea Es.length ec ∧ g 13 = .int .i64 Es.length ∧ g 14 = .int .i64 i ∧ i ≤ Es.length ∧ Ext w3 w' ∧ PrO w3.heap.size w' (g 6) ((Es.take i).filter (entB (hd, l, la, pr)))) (fun i => Es.length - i) 0 ?_ ?_
  · simp only [VS, VD, SV, SL, T, Nat.reduceEqDiff, Nat.reduceAdd, Nat.reduceSub, Nat.reduceMul, Nat.reduceLeDiff, Nat.reduceLT, reduceIte]
    exact ⟨rfl, Nat.zero_le _, Ext.refl _, OwnL.nil _ _ _ _ _⟩
  · rintro i g w' ⟨g3, g5, g12, g13, g14, hi, hE, hO⟩
    simp only [VS, VD, SV, SL, T, Nat.reduceEqDiff, Nat.reduceAdd, Nat.reduceSub, Nat.reduceMul, Nat.reduceLeDiff, Nat.reduceLT, reduceIte, g13, g14]
    by_cases hlt : (i : Int) < Es.length
    · rw [decide_eq_true hlt]
      have hi' : i < Es.length := by omega
      have htk : Es.take (i + 1) = Es.take i ++ [Es[i]] := List.take_succ_eq_append_getElem hi'
      have hfs := filter_snoc (entB (hd, l, la, pr)) (Es.take i) Es[i]
      rw [← htk] at hfs
      have hfl : ((Es.take i).filter (entB (hd, l, la, pr))).length ≤ i := by
        have := List.length_filter_le (entB (hd, l, la, pr)) (Es.take i)
        rw [List.length_take] at this
        omega
      obtain ⟨eb, eo, ecs, ee, efz, rfl, heb, hes, hex⟩ := (hP3.ext hE).get hi'
      generalize Es[i] = e at *
      obtain ⟨e1, e2⟩ := e
      simp only [] at hex
      obtain ⟨oa, oc, ho6⟩ := hO.form
      simp only [VS, VD, SV, SL, T, Nat.reduceEqDiff, Nat.reduceAdd, Nat.reduceSub, Nat.reduceMul, Nat.reduceLeDiff, Nat.reduceLT, reduceIte, g5, g12, g14, heb, hes, hex, AX, Int.toNat_natCast]
      refine ⟨by omega, ?_⟩
      have hE4 := hE.alloc (.cells #[.int .i64 e1, .int .i64 e2] 48)
      have hO4 : PrO w3.heap.size (w'.alloc (.cells #[.int .i64 e1, .int .i64 e2] 48)) (g 6) ((Es.take i).filter (entB (hd, l, la, pr))) := hO.alloc _
      have hcell : (w'.alloc (.cells #[.int .i64 e1, .int .i64 e2] 48)).heap[w'.heap.size]? = some (.cells #[.int .i64 e1, .int .i64 e2] 48 (0, 0)) := alloc_get_new _ _
      generalize w'.alloc (.cells #[.int .i64 e1, .int .i64 e2] 48) = w4 at *
      refine (hS.ext hE4).look e1 ?_
      simp only [VS, VD, SV, SL, T, Nat.reduceEqDiff, Nat.reduceAdd, Nat.reduceSub, Nat.reduceMul, Nat.reduceLeDiff, Nat.reduceLT, reduceIte]
      refine YG_c (fun g' w5 => g' 3 = .agg #[.int .i64 hd, .slice ua l.length uc, .slice ua' la.length uc', .int .i64 pr] ∧ g' 5 = .map (some r) ∧ g' 6 = g 6 ∧ g' 8 = .pointer (some ⟨w'.heap.size, 0, none⟩) ∧ g' 12 = .slice (some ⟨eb, eo, none⟩) Es.length ec ∧ g' 13 = .int .i64 Es.length ∧ g' 14 = .int .i64 i ∧ g' 29 = .bool (entB (hd, l, la, pr) (e1, e2)) ∧ w5 = w4) ?_ ?_
      · by_cases hm : e1 ∈ l
        · rw [decide_eq_true hm]
          simp only [VS, VD, SV, SL, T, Nat.reduceEqDiff, Nat.reduceAdd, Nat.reduceSub, Nat.reduceMul, Nat.reduceLeDiff, Nat.reduceLT, reduceIte, Bool.not_true, g3, g5, g12, g13, g14]
          simp [entB, hm]
        · rw [decide_eq_false hm]
          simp only [VS, VD, SV, SL, T, Nat.reduceEqDiff, Nat.reduceAdd, Nat.reduceSub, Nat.reduceMul, Nat.reduceLeDiff, Nat.reduceLT, reduceIte, Bool.not_false, g3, g5, g12, g13, g14, hcell, AX]
          simp [entB, hm]
      · rintro g' w5 ⟨k3, k5, k6, k8, k12, k13, k14, k29, rfl⟩
        rw [ho6] at k6
        have hO5 : PrO w3.heap.size w5 (.slice oa ((Es.take i).filter (entB (hd, l, la, pr))).length oc) ((Es.take i).filter (entB (hd, l, la, pr))) := by rw [← ho6]; exact hO4
        cases hen : entB (hd, l, la, pr) (e1, e2) with
        | false =>
          rw [hen] at k29 hfs
          simp only [VS, VD, SV, SL, T, Nat.reduceEqDiff, Nat.reduceAdd, Nat.reduceSub, Nat.reduceMul, Nat.reduceLeDiff, Nat.reduceLT, reduceIte, k29, k3, k5, k12, k13, k14]
          refine ⟨by omega, i + 1, ⟨by simp, by omega, hE4, ?_⟩, by omega⟩
          rw [hfs, k6]
          simpa using hO5
        | true =>
          rw [hen] at k29 hfs
          simp only [VS, VD, SV, SL, T, Nat.reduceEqDiff, Nat.reduceAdd, Nat.reduceSub, Nat.reduceMul, Nat.reduceLeDiff, Nat.reduceLT, reduceIte, k29, k6, k8, hcell, AX]
          refine app_pair hO5 (by omega) hE4.size e1 e2 ?_
          intro v' w6 ho6' hx6 hg6 hn6
          simp only [VS, VD, SV, SL, T, Nat.reduceEqDiff, Nat.reduceAdd, Nat.reduceSub, Nat.reduceMul, Nat.reduceLeDiff, Nat.reduceLT, reduceIte, k3, k5, k12, k13, k14]
          refine ⟨by omega, i + 1, ⟨by simp, by omega, hx6 w3 hE4 (Nat.le_refl _), ?_⟩, by omega⟩
          rw [hfs, if_pos rfl]
          exact ho6'
    · rw [decide_eq_false hlt]
      rw [List.take_of_length_le (by omega)] at hO
      simp only [VS, VD, SV, SL, T, Nat.reduceEqDiff, Nat.reduceAdd, Nat.reduceSub, Nat.reduceMul, Nat.reduceLeDiff, Nat.reduceLT, reduceIte]
      exact hΨ _ _ ⟨hO.at, hE3.trans hE⟩
set_option maxRecDepth 10000 in
theorem Exits_spec (gv : Value) (B : List Blk) (PV : List (List Int)) (hB : B.length ≤ 2000000) (hl : (edg 0 (nx B)).length ≤ 50000000) (hr : ∀ l ∈ nx B, l.length ≤ 50000000) (lv : Value) (x : Lp) (hx : x.2.1.length ≤ 100000000) (w : World) (h : GrAt w gv B PV) (hL : LpV w lv x) :
    VRet Try.prog 29 #[gv, lv] w fun v w' => PrAt w' v ((edg 0 (nx B)).filter (exiB x)) ∧ Ext w w' := by
  obtain ⟨bs, pv, rfl, hb0, hp0⟩ := h
  obtain ⟨ba, bc, rfl⟩ := hb0.form
  obtain ⟨pa, pc, rfl⟩ := hp0.form'
  obtain ⟨u, u', rfl, hu, hu'⟩ := hL
  obtain ⟨ua, uc, rfl⟩ := hu.form
  obtain ⟨ua', uc', rfl⟩ := hu'.form
  obtain ⟨hd, l, la, pr⟩ := x
  simp only [] at hu hu' hx ⊢
  refine VRet_start T.mo ok29 rfl fun Ψ hΨ => ?_; simp only [vc29, rs29]
  simp only [VS, VD, SV, SL, T, Nat.reduceEqDiff, Nat.reduceAdd, Nat.reduceSub, Nat.reduceMul, Nat.reduceLeDiff, Nat.reduceLT, reduceIte]
  have hE1 := ((Ext.refl w).alloc tomb).alloc tomb
  generalize (w.alloc tomb).alloc tomb = w1 at *
  refine (members_spec _ (hd, l, la, pr) hx w1 ⟨_, _, rfl, hu.ext hE1, hu'.ext hE1⟩).mono ?_
  rintro _ w2 ⟨⟨r, rfl, hS⟩, hE2⟩
  replace hE2 := hE1.trans hE2
  simp only [VS, VD, SV, SL, T, Nat.reduceEqDiff, Nat.reduceAdd, Nat.reduceSub, Nat.reduceMul, Nat.reduceLeDiff, Nat.reduceLT, reduceIte]
  refine (Edges_spec _ B PV hB hl hr w2 ⟨_, _, rfl, hb0.ext hE2, hp0.ext hE2⟩).mono ?_
  rintro v3 w3 ⟨hO3, hE3⟩
  replace hS := hS.ext hE3
  replace hE3 := hE2.trans hE3
  have hP3 := hO3.at
  generalize hEE : edg 0 (nx B) = Es at *
  obtain ⟨ea, ec, rfl⟩ := hP3.form
  simp only [VS, VD, SV, SL, T, Nat.reduceEqDiff, Nat.reduceAdd, Nat.reduceSub, Nat.reduceMul, Nat.reduceLeDiff, Nat.reduceLT, reduceIte]
  refine LoopP_intro (α := Nat) (fun i g w' => g 3 = .agg #[.int .i64 hd, .slice ua l.length uc, .slice ua' la.length uc', .int .i64 pr] ∧ g 5 = .map (some r) ∧ g 12 = .slice ea Es.length ec ∧ g 13 = .int .i64 Es.length ∧ g 14 = .int .i64 i ∧ i ≤ Es.length ∧ Ext w3 w' ∧ PrO w3.heap.size w' (g 6) ((Es.take i).filter (exiB (hd, l, la, pr)))) (fun i => Es.length - i) 0 ?_ ?_
  · simp only [VS, VD, SV, SL, T, Nat.reduceEqDiff, Nat.reduceAdd, Nat.reduceSub, Nat.reduceMul, Nat.reduceLeDiff, Nat.reduceLT, reduceIte]
    exact ⟨rfl, Nat.zero_le _, Ext.refl _, OwnL.nil _ _ _ _ _⟩
  · rintro i g w' ⟨g3, g5, g12, g13, g14, hi, hE, hO⟩
    simp only [VS, VD, SV, SL, T, Nat.reduceEqDiff, Nat.reduceAdd, Nat.reduceSub, Nat.reduceMul, Nat.reduceLeDiff, Nat.reduceLT, reduceIte, g13, g14]
    by_cases hlt : (i : Int) < Es.length
    · rw [decide_eq_true hlt]
      have hi' : i < Es.length := by omega
      have htk : Es.take (i + 1) = Es.take i ++ [Es[i]] := List.take_succ_eq_append_getElem hi'
      have hfs := filter_snoc (exiB (hd, l, la, pr)) (Es.take i) Es[i]
      rw [← htk] at hfs
      have hfl : ((Es.take i).filter (exiB (hd, l, la, pr))).length ≤ i := by
        have := List.length_filter_le (exiB (hd, l, la, pr)) (Es.take i)
        rw [List.length_take] at this
        omega
      obtain ⟨eb, eo, ecs, ee, efz, rfl, heb, hes, hex⟩ := (hP3.ext hE).get hi'
      generalize Es[i] = e at *
      obtain ⟨e1, e2⟩ := e
      simp only [] at hex
      obtain ⟨oa, oc, ho6⟩ := hO.form
      simp only [VS, VD, SV, SL, T, Nat.reduceEqDiff, Nat.reduceAdd, Nat.reduceSub, Nat.reduceMul, Nat.reduceLeDiff, Nat.reduceLT, reduceIte, g5, g12, g14, heb, hes, hex, AX, Int.toNat_natCast]
      refine ⟨by omega, ?_⟩
      have hE4 := hE.alloc (.cells #[.int .i64 e1, .int .i64 e2] 48)
      have hO4 : PrO w3.heap.size (w'.alloc (.cells #[.int .i64 e1, .int .i64 e2] 48)) (g 6) ((Es.take i).filter (exiB (hd, l, la, pr))) := hO.alloc _
      have hcell : (w'.alloc (.cells #[.int .i64 e1, .int .i64 e2] 48)).heap[w'.heap.size]? = some (.cells #[.int .i64 e1, .int .i64 e2] 48 (0, 0)) := alloc_get_new _ _
      generalize w'.alloc (.cells #[.int .i64 e1, .int .i64 e2] 48) = w4 at *
      refine (hS.ext hE4).look e1 ?_
      simp only [VS, VD, SV, SL, T, Nat.reduceEqDiff, Nat.reduceAdd, Nat.reduceSub, Nat.reduceMul, Nat.reduceLeDiff, Nat.reduceLT, reduceIte]
      refine YG_c (fun g' w5 => g' 3 = .agg #[.int .i64 hd, .slice ua l.length uc, .slice ua' la.length uc', .int .i64 pr] ∧ g' 5 = .map (some r) ∧ g' 6 = g 6 ∧ g' 8 = .pointer (some ⟨w'.heap.size, 0, none⟩) ∧ g' 12 = .slice (some ⟨eb, eo, none⟩) Es.length ec ∧ g' 13 = .int .i64 Es.length ∧ g' 14 = .int .i64 i ∧ g' 28 = .bool (exiB (hd, l, la, pr) (e1, e2)) ∧ w5 = w4) ?_ ?_
      · by_cases hm : e1 ∈ l
        · rw [decide_eq_true hm]
          simp only [VS, VD, SV, SL, T, Nat.reduceEqDiff, Nat.reduceAdd, Nat.reduceSub, Nat.reduceMul, Nat.reduceLeDiff, Nat.reduceLT, reduceIte, g3, g5, g12, g13, g14, hcell, AX]
          refine (hS.ext hE4).look e2 ?_
          simp only [VS, VD, SV, SL, T, Nat.reduceEqDiff, Nat.reduceAdd, Nat.reduceSub, Nat.reduceMul, Nat.reduceLeDiff, Nat.reduceLT, reduceIte, g3, g5, g12, g13, g14]
          simp [exiB, hm]
        · rw [decide_eq_false hm]
          simp only [VS, VD, SV, SL, T, Nat.reduceEqDiff, Nat.reduceAdd, Nat.reduceSub, Nat.reduceMul, Nat.reduceLeDiff, Nat.reduceLT, reduceIte, g3, g5, g12, g13, g14]
          simp [exiB, hm]
      · rintro g' w5 ⟨k3, k5, k6, k8, k12, k13, k14, k28, rfl⟩
        rw [ho6] at k6
        have hO5 : PrO w3.heap.size w5 (.slice oa ((Es.take i).filter (exiB (hd, l, la, pr))).length oc) ((Es.take i).filter (exiB (hd, l, la, pr))) := by rw [← ho6]; exact hO4
        cases hen : exiB (hd, l, la, pr) (e1, e2) with
        | false =>
          rw [hen] at k28 hfs
          simp only [VS, VD, SV, SL, T, Nat.reduceEqDiff, Nat.reduceAdd, Nat.reduceSub, Nat.reduceMul, Nat.reduceLeDiff, Nat.reduceLT, reduceIte, k28, k3, k5, k12, k13, k14]
          refine ⟨by omega, i + 1, ⟨by simp, by omega, hE4, ?_⟩, by omega⟩
          rw [hfs, k6]
          simpa using hO5
        | true =>
          rw [hen] at k28 hfs
          simp only [VS, VD, SV, SL, T, Nat.reduceEqDiff, Nat.reduceAdd, Nat.reduceSub, Nat.reduceMul, Nat.reduceLeDiff, Nat.reduceLT, reduceIte, k28, k6, k8, hcell, AX]
          refine app_pair hO5 (by omega) hE4.size e1 e2 ?_
          intro v' w6 ho6' hx6 hg6 hn6
          simp only [VS, VD, SV, SL, T, Nat.reduceEqDiff, Nat.reduceAdd, Nat.reduceSub, Nat.reduceMul, Nat.reduceLeDiff, Nat.reduceLT, reduceIte, k3, k5, k12, k13, k14]
          refine ⟨by omega, i + 1, ⟨by simp, by omega, hx6 w3 hE4 (Nat.le_refl _), ?_⟩, by omega⟩
          rw [hfs, if_pos rfl]
          exact ho6'
    · rw [decide_eq_false hlt]
      rw [List.take_of_length_le (by omega)] at hO
      simp only [VS, VD, SV, SL, T, Nat.reduceEqDiff, Nat.reduceAdd, Nat.reduceSub, Nat.reduceMul, Nat.reduceLeDiff, Nat.reduceLT, reduceIte]
      exact hΨ _ _ ⟨hO.at, hE3.trans hE⟩
end Go.Proofs.Ytlhlbiaibgmapaa
set_option linter.unusedSimpArgs false
set_option linter.unusedVariables false
namespace Go.Proofs.Ytlhlbiaibgmapaa
open Go.W Go.RowKit
set_option maxRecDepth 10000 in
theorem same_spec (u v : Value) (L M : List (Int × Int)) (hl : L.length ≤ 100000000) (w : World) (hu : PrAt w u L) (hv : PrAt w v M) : VRet Try.prog 28 #[u, v] w fun v w' => v = .bool (decide (L = M)) ∧ Ext w w' := by
  obtain ⟨a, c, rfl⟩ := hu.form
  obtain ⟨a', c', rfl⟩ := hv.form
  refine VRet_start T.mo ok28 rfl fun Ψ hΨ => ?_; simp only [vc28, rs28]
  simp only [VS, VD, SV, SL, T, Nat.reduceEqDiff, Nat.reduceAdd, Nat.reduceSub, Nat.reduceMul, Nat.reduceLeDiff, Nat.reduceLT, reduceIte]
  refine cnd_d (fun hq => ?_) (fun hq => ?_)
  · simp only [VS, VD, SV, SL, T, Nat.reduceEqDiff, Nat.reduceAdd, Nat.reduceSub, Nat.reduceMul, Nat.reduceLeDiff, Nat.reduceLT, reduceIte]
    refine hΨ _ _ ⟨?_, Ext.refl _⟩
    rw [decide_eq_false]
    rintro rfl
    exact hq rfl
  · have hlm : L.length = M.length := by
      apply Classical.byContradiction
      intro hne
      apply hq
      omega
    simp only [VS, VD, SV, SL, T, Nat.reduceEqDiff, Nat.reduceAdd, Nat.reduceSub, Nat.reduceMul, Nat.reduceLeDiff, Nat.reduceLT, reduceIte]
    refine LoopP_intro (α := Nat) (fun i f' w' => f' 0 = .slice a L.length c ∧ f' 1 = .slice a' M.length c' ∧ f' 12 = .int .i64 L.length ∧ f' 13 = .int .i64 i ∧ i ≤ L.length ∧ Ext w w' ∧ L.take i = M.take i) (fun i => L.length - i) 0 ?_ ?_
    · simp only [VS, VD, SV, SL, T, Nat.reduceEqDiff, Nat.reduceAdd, Nat.reduceSub, Nat.reduceMul, Nat.reduceLeDiff, Nat.reduceLT, reduceIte]
      exact ⟨rfl, Nat.zero_le _, Ext.refl _, rfl⟩
    · rintro i f' w' ⟨f0, f1, f12, f13, hi, hE, htk⟩
      simp only [VS, VD, SV, SL, T, Nat.reduceEqDiff, Nat.reduceAdd, Nat.reduceSub, Nat.reduceMul, Nat.reduceLeDiff, Nat.reduceLT, reduceIte, f12, f13]
      by_cases hlt : (i : Int) < L.length
      · rw [decide_eq_true hlt]
        have hi1 : i < L.length := by omega
        have hi2 : i < M.length := by omega
        obtain ⟨eb, eo, ecs, ee, efz, rfl, heb, hes, hex⟩ := (hu.ext hE).get hi1
        obtain ⟨db, dO, dcs, de, dfz, rfl, hdb, hds, hdx⟩ := (hv.ext hE).get hi2
        have h1 := List.take_succ_eq_append_getElem hi1
        have h2 := List.take_succ_eq_append_getElem hi2
        generalize L[i] = e at *
        generalize M[i] = d at *
        obtain ⟨e1, e2⟩ := e
        obtain ⟨d1, d2⟩ := d
        simp only [] at hex hdx
        simp only [VS, VD, SV, SL, T, Nat.reduceEqDiff, Nat.reduceAdd, Nat.reduceSub, Nat.reduceMul, Nat.reduceLeDiff, Nat.reduceLT, reduceIte]
        refine DW_intro (fun _ _ _ _ => True) ?_
        simp only [VS, VD, SV, SL, T, Nat.reduceEqDiff, Nat.reduceAdd, Nat.reduceSub, Nat.reduceMul, Nat.reduceLeDiff, Nat.reduceLT, reduceIte, f0, f1, f12, f13, heb, hes, hex, hdb, hds, hdx, Int.toNat_natCast]
        refine ⟨by omega, by omega, ?_⟩
        intro w2 hE2 _
        simp only [VS, VD, SV, SL, T, Nat.reduceEqDiff, Nat.reduceAdd, Nat.reduceSub, Nat.reduceMul, Nat.reduceLeDiff, Nat.reduceLT, reduceIte]
        by_cases hq2 : e1 = d1 ∧ e2 = d2
        · obtain ⟨rfl, rfl⟩ := hq2
          have dt : ∀ x : Int, decide (x = x) = true := fun x => decide_eq_true rfl
          simp only [VS, VD, SV, SL, T, Nat.reduceEqDiff, Nat.reduceAdd, Nat.reduceSub, Nat.reduceMul, Nat.reduceLeDiff, Nat.reduceLT, reduceIte, dt, f0, f1, f12, f13]
          exact ⟨by omega, i + 1, ⟨by simp, by omega, hE.trans hE2, by rw [h1, h2, htk]⟩, by omega⟩
        · have hd : (decide (e1 = d1) && decide (e2 = d2)) = false := by
            cases h : (decide (e1 = d1) && decide (e2 = d2)) with
            | false => rfl
            | true => simp at h; exact (hq2 h).elim
          simp only [VS, VD, SV, SL, T, Nat.reduceEqDiff, Nat.reduceAdd, Nat.reduceSub, Nat.reduceMul, Nat.reduceLeDiff, Nat.reduceLT, reduceIte, hd]
          refine hΨ _ _ ⟨?_, hE.trans hE2⟩
          rw [decide_eq_false]
          rintro rfl
          have := h1.symm.trans h2
          rw [List.append_cancel_left_eq] at this
          simp only [List.cons.injEq, Prod.mk.injEq, and_true] at this
          exact hq2 this
      · rw [decide_eq_false hlt]
        simp only [VS, VD, SV, SL, T, Nat.reduceEqDiff, Nat.reduceAdd, Nat.reduceSub, Nat.reduceMul, Nat.reduceLeDiff, Nat.reduceLT, reduceIte]
        refine hΨ _ _ ⟨?_, hE⟩
        rw [decide_eq_true]
        rw [List.take_of_length_le (by omega), List.take_of_length_le (by omega)] at htk
        exact htk
def dep (L : List Lp) (b : Int) : Nat := (L.filter fun x => decide (b ∈ x.2.1)).length
set_option maxRecDepth 10000 in
theorem Depth_spec (lv : Value) (L : List Lp) (hl : L.length ≤ 100000000) (hr : ∀ x ∈ L, x.2.1.length ≤ 100000000) (b : Int) (w : World) (h : LpsAt w lv L) : VRet Try.prog 25 #[lv, .int .i64 b] w fun v w' => v = .int .i64 (dep L b) ∧ Ext w w' := by
  obtain ⟨la, lc, rfl⟩ := h.form
  refine VRet_start T.mo ok25 rfl fun Ψ hΨ => ?_; simp only [vc25, rs25]
  simp only [VS, VD, SV, SL, T, Nat.reduceEqDiff, Nat.reduceAdd, Nat.reduceSub, Nat.reduceMul, Nat.reduceLeDiff, Nat.reduceLT, reduceIte]
  refine LoopP_intro (α := Nat) (fun i g w' => g 1 = .int .i64 b ∧ g 5 = .int .i64 (dep (L.take i) b) ∧ g 8 = .slice la L.length lc ∧ g 9 = .int .i64 L.length ∧ g 10 = .int .i64 i ∧ i ≤ L.length ∧ Ext w w') (fun i => L.length - i) 0 ?_ ?_
  · simp only [VS, VD, SV, SL, T, Nat.reduceEqDiff, Nat.reduceAdd, Nat.reduceSub, Nat.reduceMul, Nat.reduceLeDiff, Nat.reduceLT, reduceIte]
    exact ⟨rfl, rfl, Nat.zero_le _, Ext.refl _⟩
  · rintro i g w' ⟨g1, g5, g8, g9, g10, hi, hE⟩
    simp only [VS, VD, SV, SL, T, Nat.reduceEqDiff, Nat.reduceAdd, Nat.reduceSub, Nat.reduceMul, Nat.reduceLeDiff, Nat.reduceLT, reduceIte, g9, g10]
    by_cases hlt : (i : Int) < L.length
    · rw [decide_eq_true hlt]
      have hi' : i < L.length := by omega
      have htk : dep (L.take (i + 1)) b = dep (L.take i) b + if decide (b ∈ L[i].2.1) = true then 1 else 0 := by
        unfold dep
        rw [List.take_succ_eq_append_getElem hi', filter_snoc, List.length_append]
        congr 1
        split <;> rfl
      have hdl : dep (L.take i) b ≤ i := by
        unfold dep
        have := List.length_filter_le (fun x : Lp => decide (b ∈ x.2.1)) (L.take i)
        rw [List.length_take] at this
        omega
      have hrl := hr L[i] (List.getElem_mem hi')
      obtain ⟨lb, lo, lcs, le, lfz, u, u', rfl, hlb, hls, hlx, _, hu, hu'⟩ := (h.ext hE).get hi'
      generalize L[i] = x at *
      obtain ⟨hd, l, lt, pr⟩ := x
      simp only [] at hlx hu hu' hrl htk
      obtain ⟨ua, uc, rfl⟩ := hu.form
      obtain ⟨ua', uc', rfl⟩ := hu'.form
      simp only [VS, VD, SV, SL, T, Nat.reduceEqDiff, Nat.reduceAdd, Nat.reduceSub, Nat.reduceMul, Nat.reduceLeDiff, Nat.reduceLT, reduceIte, g8, g10, hlb, hls, hlx, Int.toNat_natCast, g1]
      refine ⟨by omega, ?_⟩
      have hEt := (Ext.refl w').alloc tomb
      generalize w'.alloc tomb = w2 at *
      refine (Contains_spec _ l hrl b w2 (hu.ext hEt)).mono ?_
      rintro _ w3 ⟨rfl, hE3⟩
      by_cases hm : b ∈ l
      · rw [decide_eq_true hm]
        rw [if_pos (decide_eq_true hm)] at htk
        simp only [VS, VD, SV, SL, T, Nat.reduceEqDiff, Nat.reduceAdd, Nat.reduceSub, Nat.reduceMul, Nat.reduceLeDiff, Nat.reduceLT, reduceIte, g1, g5, g8, g9, g10]
        refine ⟨by omega, by omega, i + 1, ⟨by rw [htk]; simp, by simp, by omega, (hE.trans hEt).trans hE3⟩, by omega⟩
      · rw [decide_eq_false hm]
        rw [if_neg (by simp [hm])] at htk
        simp only [VS, VD, SV, SL, T, Nat.reduceEqDiff, Nat.reduceAdd, Nat.reduceSub, Nat.reduceMul, Nat.reduceLeDiff, Nat.reduceLT, reduceIte, g1, g5, g8, g9, g10]
        refine ⟨by omega, i + 1, ⟨by rw [htk]; simp, by simp, by omega, (hE.trans hEt).trans hE3⟩, by omega⟩
    · rw [decide_eq_false hlt]
      rw [List.take_of_length_le (by omega)] at g5
      simp only [VS, VD, SV, SL, T, Nat.reduceEqDiff, Nat.reduceAdd, Nat.reduceSub, Nat.reduceMul, Nat.reduceLeDiff, Nat.reduceLT, reduceIte, g5]
      exact hΨ _ _ ⟨rfl, hE⟩
end Go.Proofs.Ytlhlbiaibgmapaa
set_option linter.unusedSimpArgs false
set_option linter.unusedVariables false
namespace Go.Proofs.Ytlhlbiaibgmapaa
open Go.W Go.RowKit
abbrev Asc (l : List Int) : Prop := l.Pairwise (· < ·)
theorem Asc.lt {l : List Int} (h : Asc l) {i j : Nat} (hij : i < j) (hj : j < l.length) : l[i]'(by omega) < l[j] := List.pairwise_iff_getElem.1 h i j (by omega) hj hij
set_option maxRecDepth 10000 in
theorem includes_spec (uv pv : Value) (l p : List Int) (hl : l.length ≤ 100000000) (hp : p.length ≤ 100000000) (hla : Asc l) (hpa : Asc p) (w : World) (hu : IntsAt w uv l) (hv : IntsAt w pv p) : VRet Try.prog 52 #[uv, pv] w fun v w' => v = .bool (decide (∀ b ∈ p, b ∈ l)) ∧ Ext w w' := by
  obtain ⟨ua, uc, rfl⟩ := hu.form
  obtain ⟨pa, pc, rfl⟩ := hv.form
  refine VRet_start T.mo ok52 rfl fun Ψ hΨ => ?_; simp only [vc52, rs52]
  simp only [VS, VD, SV, SL, T, Nat.reduceEqDiff, Nat.reduceAdd, Nat.reduceSub, Nat.reduceMul, Nat.reduceLeDiff, Nat.reduceLT, reduceIte]
  refine LoopP_intro (α := Nat × Nat) (fun s g w' => g 0 = .slice ua l.length uc ∧ g 5 = .int .i64 s.2 ∧ g 8 = .slice pa p.length pc ∧ g 9 = .int .i64 p.length ∧ g 10 = .int .i64 s.1 ∧ s.1 ≤ p.length ∧ s.2 ≤ l.length ∧ Ext w w' ∧ (∀ b ∈ p.take s.1, b ∈ l) ∧ ∀ k (hk : k < l.length) j (hj : j < p.length), k < s.2 → s.1 ≤ j → l[k] < p[j]) (fun s => p.length - s.1) (0, 0) ?_ ?_
  · simp only [VS, VD, SV, SL, T, Nat.reduceEqDiff, Nat.reduceAdd, Nat.reduceSub, Nat.reduceMul, Nat.reduceLeDiff, Nat.reduceLT, reduceIte]
    exact ⟨rfl, rfl, Nat.zero_le _, Nat.zero_le _, Ext.refl _, fun b hb => (by cases hb), fun k hk j hj h => (by cases h)⟩
  · rintro ⟨j, i⟩ g w' ⟨g0, g5, g8, g9, g10, hj, hi, hE, hin, hlo⟩
    simp only [] at g5 g10 hj hi hin hlo
    simp only [VS, VD, SV, SL, T, Nat.reduceEqDiff, Nat.reduceAdd, Nat.reduceSub, Nat.reduceMul, Nat.reduceLeDiff, Nat.reduceLT, reduceIte, g9, g10]
    by_cases hlt : (j : Int) < p.length
    · rw [decide_eq_true hlt]
      have hj' : j < p.length := by omega
      obtain ⟨bb, bo, bcs, be, bfz, rfl, _, hbb, hbc⟩ := (hv.ext hE).get (i := j) (x := p[j]) (by simp)
      have htk := List.take_succ_eq_append_getElem hj'
      have hlo' : ∀ k (hk : k < l.length), k < i → l[k] < p[j] := fun k hk h => hlo k hk j hj' h (Nat.le_refl _)
      have hnext : ∀ j2 (hj2 : j2 < p.length), j + 1 ≤ j2 → p[j] < p[j2] := fun j2 hj2 h => hpa.lt (by omega) hj2
      have hpm : p[j] ∈ p := List.getElem_mem hj'
      generalize p[j] = b at *
      simp only [VS, VD, SV, SL, T, Nat.reduceEqDiff, Nat.reduceAdd, Nat.reduceSub, Nat.reduceMul, Nat.reduceLeDiff, Nat.reduceLT, reduceIte, g0, g5, g8, g9, g10, hbb, hbc, Int.toNat_natCast]
      refine ⟨by omega, ?_⟩
      refine loop_cB (fun g2 w2 => ∃ i2 : Nat, g2 0 = .slice ua l.length uc ∧ g2 5 = .int .i64 i2 ∧ g2 7 = .int .i64 b ∧ g2 8 = .slice (some ⟨bb, bo, none⟩) p.length pc ∧ g2 9 = .int .i64 p.length ∧ g2 10 = .int .i64 j ∧ i2 ≤ l.length ∧ Ext w w2 ∧ (∀ k (hk : k < l.length), k < i2 → l[k] < b) ∧ ∀ (hk : i2 < l.length), b ≤ l[i2]) ?_ ?_
      · refine LoopP_intro (α := Nat) (fun i2 g2 w2 => g2 0 = .slice ua l.length uc ∧ g2 5 = .int .i64 i2 ∧ g2 7 = .int .i64 b ∧ g2 8 = .slice (some ⟨bb, bo, none⟩) p.length pc ∧ g2 9 = .int .i64 p.length ∧ g2 10 = .int .i64 j ∧ i2 ≤ l.length ∧ Ext w w2 ∧ ∀ k (hk : k < l.length), k < i2 → l[k] < b) (fun i2 => l.length - i2) i ?_ ?_
        · simp only [VS, VD, SV, SL, T, Nat.reduceEqDiff, Nat.reduceAdd, Nat.reduceSub, Nat.reduceMul, Nat.reduceLeDiff, Nat.reduceLT, reduceIte, g0, g5, g8, g9, g10]
          exact ⟨hi, hE, hlo'⟩
        · rintro i2 g2 w2 ⟨k0, k5, k7, k8, k9, k10, hi2, hE2, hlo2⟩
          simp only [VS, VD, SV, SL, T, Nat.reduceEqDiff, Nat.reduceAdd, Nat.reduceSub, Nat.reduceMul, Nat.reduceLeDiff, Nat.reduceLT, reduceIte, k0, k5]
          by_cases hil : (i2 : Int) < l.length
          · rw [decide_eq_true hil]
            have hil' : i2 < l.length := by omega
            obtain ⟨ub, uo, ucs, ue, ufz, rfl, _, hub, hucv⟩ := (hu.ext hE2).get (i := i2) (x := l[i2]) (by simp)
            by_cases hlb : l[i2] < b
            · have d1 : decide (l[i2] < b) = true := decide_eq_true hlb
              simp only [VS, VD, SV, SL, T, Nat.reduceEqDiff, Nat.reduceAdd, Nat.reduceSub, Nat.reduceMul, Nat.reduceLeDiff, Nat.reduceLT, reduceIte, k0, k5, k7, k8, k9, k10, hub, hucv, d1, Int.toNat_natCast]
              refine ⟨by omega, by omega, i2 + 1, ⟨by simp, by omega, hE2, fun k hk h => ?_⟩, by omega⟩
              by_cases e : k = i2
              · subst e; exact hlb
              · exact hlo2 k hk (by omega)
            · have d1 : decide (l[i2] < b) = false := decide_eq_false hlb
              simp only [VS, VD, SV, SL, T, Nat.reduceEqDiff, Nat.reduceAdd, Nat.reduceSub, Nat.reduceMul, Nat.reduceLeDiff, Nat.reduceLT, reduceIte, k0, k5, k7, k8, k9, k10, hub, hucv, d1, Int.toNat_natCast]
              exact ⟨by omega, i2, rfl, hi2, hE2, hlo2, fun _ => by omega⟩
          · rw [decide_eq_false hil]
            simp only [VS, VD, SV, SL, T, Nat.reduceEqDiff, Nat.reduceAdd, Nat.reduceSub, Nat.reduceMul, Nat.reduceLeDiff, Nat.reduceLT, reduceIte, k0, k5, k7, k8, k9, k10]
            exact ⟨i2, rfl, hi2, hE2, hlo2, fun h => by omega⟩
      · rintro g2 w2 ⟨i2, k0, k5, k7, k8, k9, k10, hi2, hE2, hlo2, hge⟩
        simp only [VS, VD, SV, SL, T, Nat.reduceEqDiff, Nat.reduceAdd, Nat.reduceSub, Nat.reduceMul, Nat.reduceLeDiff, Nat.reduceLT, reduceIte, k0, k5]
        by_cases hil : (i2 : Int) = l.length
        · rw [decide_eq_true hil]
          simp only [VS, VD, SV, SL, T, Nat.reduceEqDiff, Nat.reduceAdd, Nat.reduceSub, Nat.reduceMul, Nat.reduceLeDiff, Nat.reduceLT, reduceIte]
          refine hΨ _ _ ⟨?_, hE2⟩
          rw [decide_eq_false]
          intro hall
          obtain ⟨m, hm, e⟩ := List.getElem_of_mem (hall b hpm)
          have := hlo2 m hm (by omega)
          omega
        · rw [decide_eq_false hil]
          have hil' : i2 < l.length := by omega
          obtain ⟨ub, uo, ucs, ue, ufz, rfl, _, hub, hucv⟩ := (hu.ext hE2).get (i := i2) (x := l[i2]) (by simp)
          by_cases he : l[i2] = b
          · have d1 : decide (¬ l[i2] = b) = false := decide_eq_false (fun h => h he)
            simp only [VS, VD, SV, SL, T, Nat.reduceEqDiff, Nat.reduceAdd, Nat.reduceSub, Nat.reduceMul, Nat.reduceLeDiff, Nat.reduceLT, reduceIte, k0, k5, k7, k8, k9, k10, hub, hucv, d1, Int.toNat_natCast]
            refine ⟨by omega, by omega, (j + 1, i2), ⟨rfl, by simp, by simp only []; omega, hi2, hE2, fun x hx => ?_, fun k hk j2 hj2 h1 h2 => ?_⟩, by simp only []; omega⟩
            · simp only [] at hx
              rw [htk] at hx
              rcases List.mem_append.1 hx with hx | hx
              · exact hin x hx
              · simp only [List.mem_singleton] at hx
                rw [hx, ← he]
                exact List.getElem_mem hil'
            · simp only [] at h1 h2
              have := hlo2 k hk h1
              have := hnext j2 hj2 h2
              omega
          · have d1 : decide (¬ l[i2] = b) = true := decide_eq_true he
            simp only [VS, VD, SV, SL, T, Nat.reduceEqDiff, Nat.reduceAdd, Nat.reduceSub, Nat.reduceMul, Nat.reduceLeDiff, Nat.reduceLT, reduceIte, k0, k5, k7, k8, k9, k10, hub, hucv, d1, Int.toNat_natCast]
            refine ⟨by omega, hΨ _ _ ⟨?_, hE2⟩⟩
            rw [decide_eq_false]
            intro hall
            obtain ⟨m, hm, e⟩ := List.getElem_of_mem (hall b hpm)
            have h1 := hge hil'
            rcases Nat.lt_trichotomy m i2 with h2 | h2 | h2
            · have := hlo2 m hm h2; omega
            · subst h2; exact he e
            · have := hla.lt h2 hm; omega
    · rw [decide_eq_false hlt]
      obtain rfl : j = p.length := by omega
      simp only [VS, VD, SV, SL, T, Nat.reduceEqDiff, Nat.reduceAdd, Nat.reduceSub, Nat.reduceMul, Nat.reduceLeDiff, Nat.reduceLT, reduceIte]
      refine hΨ _ _ ⟨?_, hE⟩
      rw [decide_eq_true]
      rw [List.take_length] at hin
      exact hin
/-! ### the innermost loop -/
abbrev dLp : Lp := (0, [], [], 0)
def bln (L : List Lp) (i : Int) : Nat := (L.getD i.toNat dLp).2.1.length
def inm (L : List Lp) (b : Int) : Nat → Int
  | 0 => -1
  | i + 1 => if b ∈ (L.getD i dLp).2.1 ∧ (inm L b i < 0 ∨ (L.getD i dLp).2.1.length < bln L (inm L b i)) then (i : Int) else inm L b i
theorem inm_rng (L : List Lp) (b : Int) : ∀ i, -1 ≤ inm L b i ∧ inm L b i < i
  | 0 => by simp [inm]
  | i + 1 => by
    have := inm_rng L b i
    rw [inm]
    split <;> omega
theorem getD_at {L : List Lp} {i : Nat} (hi : i < L.length) : L.getD i dLp = L[i] := by rw [List.getD_eq_getElem?_getD, List.getElem?_eq_getElem hi]; rfl
set_option maxRecDepth 10000 in
theorem Innermost_spec (lv : Value) (L : List Lp) (hl : L.length ≤ 100000000) (hr : ∀ x ∈ L, x.2.1.length ≤ 100000000) (b : Int) (w : World) (h : LpsAt w lv L) : VRet Try.prog 26 #[lv, .int .i64 b] w fun v w' => v = .int .i64 (inm L b L.length) ∧ Ext w w' := by
  obtain ⟨la, lc, rfl⟩ := h.form
  refine VRet_start T.mo ok26 rfl fun Ψ hΨ => ?_; simp only [vc26, rs26]
  simp only [VS, VD, SV, SL, T, Nat.reduceEqDiff, Nat.reduceAdd, Nat.reduceSub, Nat.reduceMul, Nat.reduceLeDiff, Nat.reduceLT, reduceIte]
  refine LoopP_intro (α := Nat) (fun i g w' => g 0 = .slice la L.length lc ∧ g 1 = .int .i64 b ∧ g 5 = .int .i64 (inm L b i) ∧ g 8 = .slice la L.length lc ∧ g 9 = .int .i64 L.length ∧ g 10 = .int .i64 i ∧ i ≤ L.length ∧ Ext w w') (fun i => L.length - i) 0 ?_ ?_
  · simp only [VS, VD, SV, SL, T, Nat.reduceEqDiff, Nat.reduceAdd, Nat.reduceSub, Nat.reduceMul, Nat.reduceLeDiff, Nat.reduceLT, reduceIte]
    exact ⟨rfl, rfl, Nat.zero_le _, Ext.refl _⟩
  · rintro i g w' ⟨g0, g1, g5, g8, g9, g10, hi, hE⟩
    simp only [VS, VD, SV, SL, T, Nat.reduceEqDiff, Nat.reduceAdd, Nat.reduceSub, Nat.reduceMul, Nat.reduceLeDiff, Nat.reduceLT, reduceIte, g9, g10]
    by_cases hlt : (i : Int) < L.length
    · rw [decide_eq_true hlt]
      have hi' : i < L.length := by omega
      have hst : inm L b (i + 1) = if b ∈ (L.getD i dLp).2.1 ∧ (inm L b i < 0 ∨ (L.getD i dLp).2.1.length < bln L (inm L b i)) then (i : Int) else inm L b i := rfl
      rw [getD_at hi'] at hst
      have hrg := inm_rng L b i
      have hrl := hr L[i] (List.getElem_mem hi')
      obtain ⟨lb, lo, lcs, le, lfz, u, u', rfl, hlb, hls, hlx, _, hu, hu'⟩ := (h.ext hE).get hi'
      have hbest : 0 ≤ inm L b i → ∃ uu, lcs[lo + ((inm L b i).toNat * 4 + 1)]? = some uu ∧ IntsAt w' uu (L.getD (inm L b i).toNat dLp).2.1 := fun h0 => by
        have hm : (inm L b i).toNat < L.length := by omega
        obtain ⟨lb2, lo2, lcs2, le2, lfz2, u2, u2', q1, hlb2, _, _, ⟨_, q2, _, _⟩, q3, _⟩ := (h.ext hE).get hm
        simp only [Option.some.injEq, Addr.mk.injEq, and_true] at q1
        obtain ⟨rfl, rfl⟩ := q1
        rw [hlb] at hlb2
        simp only [Option.some.injEq, Obj.cells.injEq] at hlb2
        obtain ⟨rfl, _⟩ := hlb2
        exact ⟨u2, q2, by rw [getD_at hm]; exact q3⟩
      generalize L[i] = x at *
      obtain ⟨hd, l, lt, pr⟩ := x
      simp only [] at hlx hu hu' hrl hst
      obtain ⟨ua, uc, rfl⟩ := hu.form
      obtain ⟨ua', uc', rfl⟩ := hu'.form
      simp only [VS, VD, SV, SL, T, Nat.reduceEqDiff, Nat.reduceAdd, Nat.reduceSub, Nat.reduceMul, Nat.reduceLeDiff, Nat.reduceLT, reduceIte, g8, g10, hlb, hls, hlx, Int.toNat_natCast, g1]
      refine ⟨by omega, ?_⟩
      have hEt := (Ext.refl w').alloc tomb
      generalize w'.alloc tomb = w2 at *
      refine DW_c (fun g' w3 => g' 0 = .slice (some ⟨lb, lo, none⟩) L.length lc ∧ g' 1 = .int .i64 b ∧ g' 5 = .int .i64 (inm L b i) ∧ g' 6 = .int .i64 i ∧ g' 8 = .slice (some ⟨lb, lo, none⟩) L.length lc ∧ g' 9 = .int .i64 L.length ∧ g' 10 = .int .i64 i ∧ g' 34 = .bool (decide (b ∈ l) && decide (inm L b i < 0 ∨ l.length < bln L (inm L b i))) ∧ Ext w w3) ?_ ?_
      · refine DW_intro (fun n _ v w => n = 3 → v = .bool (decide (b ∈ l))) ?_
        simp only [VS, VD, SV, SL, T, Nat.reduceEqDiff, Nat.reduceAdd, Nat.reduceSub, Nat.reduceMul, Nat.reduceLeDiff, Nat.reduceLT, reduceIte, g1]
        refine rY_ph rfl rfl (fun _ _ _ h _ => h) (fun w4 hE4 _ => ?_) ?_
        · simp only [VS, VD, SV, SL, T, Nat.reduceEqDiff, Nat.reduceAdd, Nat.reduceSub, Nat.reduceMul, Nat.reduceLeDiff, Nat.reduceLT, reduceIte]
          refine (Contains_spec _ l hrl b w4 (hu.ext (hEt.trans hE4))).mono ?_
          rintro _ w5 ⟨rfl, hE5⟩
          exact ⟨hE5, fun _ => rfl⟩
        rintro v ⟨_, _, _, hv⟩
        obtain rfl := hv rfl
        have hlbt := hEt.obj hlb
        by_cases hm : b ∈ l
        · rw [decide_eq_true hm]
          by_cases hb0 : inm L b i < 0
          · have d0 : decide (inm L b i < 0) = true := decide_eq_true hb0
            simp only [VS, VD, SV, SL, T, Nat.reduceEqDiff, Nat.reduceAdd, Nat.reduceSub, Nat.reduceMul, Nat.reduceLeDiff, Nat.reduceLT, reduceIte, g0, g5, g9, d0]
            intro w4 hE4 hF
            simp only [VS, VD, SV, SL, T, Nat.reduceEqDiff, Nat.reduceAdd, Nat.reduceSub, Nat.reduceMul, Nat.reduceLeDiff, Nat.reduceLT, reduceIte, g0, g1, g5, g8, g9, g10]
            exact ⟨by simp [hb0], (hE.trans hEt).trans hE4⟩
          · have d0 : decide (inm L b i < 0) = false := decide_eq_false hb0
            obtain ⟨uu, huu, hIu⟩ := hbest (by omega)
            obtain ⟨ba, bc, rfl⟩ := hIu.form
            simp only [VS, VD, SV, SL, T, Nat.reduceEqDiff, Nat.reduceAdd, Nat.reduceSub, Nat.reduceMul, Nat.reduceLeDiff, Nat.reduceLT, reduceIte, g0, g5, g9, d0, hlbt, huu]
            refine ⟨by omega, ?_⟩
            intro w4 hE4 hF
            simp only [VS, VD, SV, SL, T, Nat.reduceEqDiff, Nat.reduceAdd, Nat.reduceSub, Nat.reduceMul, Nat.reduceLeDiff, Nat.reduceLT, reduceIte, g0, g1, g5, g8, g9, g10]
            refine ⟨?_, (hE.trans hEt).trans hE4⟩
            simp only [hb0, false_or, bln]
            congr 1
            exact decide_eq_decide.2 (by omega)
        · rw [decide_eq_false hm]
          simp only [VS, VD, SV, SL, T, Nat.reduceEqDiff, Nat.reduceAdd, Nat.reduceSub, Nat.reduceMul, Nat.reduceLeDiff, Nat.reduceLT, reduceIte, g0, g5, g9]
          intro w4 hE4 hF
          simp only [VS, VD, SV, SL, T, Nat.reduceEqDiff, Nat.reduceAdd, Nat.reduceSub, Nat.reduceMul, Nat.reduceLeDiff, Nat.reduceLT, reduceIte, g0, g1, g5, g8, g9, g10]
          exact (hE.trans hEt).trans hE4
      · rintro g' w3 ⟨k0, k1, k5, k6, k8, k9, k10, k34, hE3⟩
        by_cases hc : b ∈ l ∧ (inm L b i < 0 ∨ l.length < bln L (inm L b i))
        · have : (decide (b ∈ l) && decide (inm L b i < 0 ∨ l.length < bln L (inm L b i))) = true := by rw [decide_eq_true hc.1, decide_eq_true hc.2]; rfl
          rw [this] at k34
          rw [if_pos hc] at hst
          simp only [VS, VD, SV, SL, T, Nat.reduceEqDiff, Nat.reduceAdd, Nat.reduceSub, Nat.reduceMul, Nat.reduceLeDiff, Nat.reduceLT, reduceIte, k34, k0, k1, k6, k8, k9, k10]
          exact ⟨by omega, i + 1, ⟨by rw [hst], by simp, by omega, hE3⟩, by omega⟩
        · have : (decide (b ∈ l) && decide (inm L b i < 0 ∨ l.length < bln L (inm L b i))) = false := by
            cases h : (decide (b ∈ l) && decide (inm L b i < 0 ∨ l.length < bln L (inm L b i))) with
            | false => rfl
            | true => rw [Bool.and_eq_true, decide_eq_true_eq, decide_eq_true_eq] at h; exact (hc h).elim
          rw [this] at k34
          rw [if_neg hc] at hst
          simp only [VS, VD, SV, SL, T, Nat.reduceEqDiff, Nat.reduceAdd, Nat.reduceSub, Nat.reduceMul, Nat.reduceLeDiff, Nat.reduceLT, reduceIte, k34, k0, k1, k5, k8, k9, k10]
          exact ⟨by omega, i + 1, ⟨by rw [hst], by simp, by omega, hE3⟩, by omega⟩
    · rw [decide_eq_false hlt]
      obtain rfl : i = L.length := by omega
      simp only [VS, VD, SV, SL, T, Nat.reduceEqDiff, Nat.reduceAdd, Nat.reduceSub, Nat.reduceMul, Nat.reduceLeDiff, Nat.reduceLT, reduceIte, g5]
      exact hΨ _ _ ⟨rfl, hE⟩
end Go.Proofs.Ytlhlbiaibgmapaa
set_option linter.unusedSimpArgs false
set_option linter.unusedVariables false
namespace Go.Proofs.Ytlhlbiaibgmapaa
open Go.W Go.RowKit
def parC (o x : Lp) (L : List Lp) (p : Int) : Prop := ¬ (x.1 = o.1 ∨ x.2.1.length < o.2.1.length) ∧ ¬ (0 ≤ p ∧ bln L p ≤ x.2.1.length) ∧ ∀ b ∈ o.2.1, b ∈ x.2.1
instance (o x : Lp) (L : List Lp) (p : Int) : Decidable (parC o x L p) := by unfold parC; infer_instance
def parF (L : List Lp) (o : Lp) : Nat → Int
  | 0 => -1
  | i + 1 => if parC o (L.getD i dLp) L (parF L o i) then (i : Int) else parF L o i
theorem parF_rng (L : List Lp) (o : Lp) : ∀ i, -1 ≤ parF L o i ∧ parF L o i < i
  | 0 => by simp [parF]
  | i + 1 => by
    have := parF_rng L o i
    rw [parF]
    split <;> omega
set_option maxRecDepth 10000 in
theorem parent_spec (lv : Value) (L : List Lp) (hl : L.length ≤ 100000000) (hr : ∀ x ∈ L, x.2.1.length ≤ 100000000) (ha : ∀ x ∈ L, Asc x.2.1) (k : Nat) (hk : k < L.length) (w : World) (h : LpsAt w lv L) :
    VRet Try.prog 34 #[lv, .int .i64 k] w fun v w' => v = .int .i64 (parF L L[k] L.length) ∧ Ext w w' := by
  obtain ⟨la, lc, rfl⟩ := h.form
  obtain ⟨lb, lo, lcs, le, lfz, ou, ou', rfl, hlb, hls, hlx, _, hou, hou'⟩ := h.get hk
  have hork := hr L[k] (List.getElem_mem hk)
  have hoa := ha L[k] (List.getElem_mem hk)
  generalize L[k] = o at *
  obtain ⟨od, ol, ot, op⟩ := o
  simp only [] at hlx hou hou' hork hoa
  obtain ⟨oa, oc, rfl⟩ := hou.form
  obtain ⟨oa', oc', rfl⟩ := hou'.form
  refine VRet_start T.mo ok34 rfl fun Ψ hΨ => ?_; simp only [vc34, rs34]
  simp only [VS, VD, SV, SL, T, Nat.reduceEqDiff, Nat.reduceAdd, Nat.reduceSub, Nat.reduceMul, Nat.reduceLeDiff, Nat.reduceLT, reduceIte, hlb, hls, hlx, Int.toNat_natCast]
  refine ⟨by omega, ?_⟩
  have hEt := (Ext.refl w).alloc tomb
  generalize w.alloc tomb = w1 at *
  refine LoopP_intro (α := Nat) (fun i g w' => g 0 = .slice (some ⟨lb, lo, none⟩) L.length lc ∧ g 5 = .int .i64 (parF L (od, ol, ot, op) i) ∧ g 6 = .agg #[.int .i64 od, .slice oa ol.length oc, .slice oa' ot.length oc', .int .i64 op] ∧ g 13 = .slice (some ⟨lb, lo, none⟩) L.length lc ∧ g 14 = .int .i64 L.length ∧ g 15 = .int .i64 i ∧ i ≤ L.length ∧ Ext w w') (fun i => L.length - i) 0 ?_ ?_
  · simp only [VS, VD, SV, SL, T, Nat.reduceEqDiff, Nat.reduceAdd, Nat.reduceSub, Nat.reduceMul, Nat.reduceLeDiff, Nat.reduceLT, reduceIte]
    exact ⟨rfl, rfl, Nat.zero_le _, hEt⟩
  · rintro i g w' ⟨g0, g5, g6, g13, g14, g15, hi, hE⟩
    simp only [VS, VD, SV, SL, T, Nat.reduceEqDiff, Nat.reduceAdd, Nat.reduceSub, Nat.reduceMul, Nat.reduceLeDiff, Nat.reduceLT, reduceIte, g14, g15]
    by_cases hlt : (i : Int) < L.length
    · rw [decide_eq_true hlt]
      have hi' : i < L.length := by omega
      have hst : parF L (od, ol, ot, op) (i + 1) = if parC (od, ol, ot, op) (L.getD i dLp) L (parF L (od, ol, ot, op) i) then (i : Int) else parF L (od, ol, ot, op) i := rfl
      rw [getD_at hi'] at hst
      have hrg := parF_rng L (od, ol, ot, op) i
      have hrl := hr L[i] (List.getElem_mem hi')
      have hra := ha L[i] (List.getElem_mem hi')
      obtain ⟨xb, xo, xcs, xe, xfz, u, u', q1, hxb, hxs, hxx, _, hu, hu'⟩ := (h.ext hE).get hi'
      simp only [Option.some.injEq, Addr.mk.injEq, and_true] at q1
      obtain ⟨rfl, rfl⟩ := q1
      have hbest : 0 ≤ parF L (od, ol, ot, op) i → ∃ uu, xcs[lo + ((parF L (od, ol, ot, op) i).toNat * 4 + 1)]? = some uu ∧ IntsAt w' uu (L.getD (parF L (od, ol, ot, op) i).toNat dLp).2.1 := fun h0 => by
        have hm : (parF L (od, ol, ot, op) i).toNat < L.length := by omega
        obtain ⟨lb2, lo2, lcs2, le2, lfz2, u2, u2', q1, hlb2, _, _, ⟨_, q2, _, _⟩, q3, _⟩ := (h.ext hE).get hm
        simp only [Option.some.injEq, Addr.mk.injEq, and_true] at q1
        obtain ⟨rfl, rfl⟩ := q1
        rw [hxb] at hlb2
        simp only [Option.some.injEq, Obj.cells.injEq] at hlb2
        obtain ⟨rfl, _⟩ := hlb2
        exact ⟨u2, q2, by rw [getD_at hm]; exact q3⟩
      generalize L[i] = x at *
      obtain ⟨hd, l, lt, pr⟩ := x
      simp only [] at hxx hu hu' hrl hst hra
      obtain ⟨ua, uc, rfl⟩ := hu.form
      obtain ⟨ua', uc', rfl⟩ := hu'.form
      generalize hp : parF L (od, ol, ot, op) i = p at *
      simp only [VS, VD, SV, SL, T, Nat.reduceEqDiff, Nat.reduceAdd, Nat.reduceSub, Nat.reduceMul, Nat.reduceLeDiff, Nat.reduceLT, reduceIte, g6, g13, g15, hxb, hxs, hxx, Int.toNat_natCast]
      refine ⟨by omega, ?_⟩
      have hEx := (Ext.refl w').alloc tomb
      have hxbt := hEx.obj hxb
      generalize w'.alloc tomb = w2 at *
      have skip : ¬ parC (od, ol, ot, op) (hd, l, lt, pr) L p → parF L (od, ol, ot, op) (i + 1) = p := fun hn => by rw [hst, if_neg hn]
      by_cases c1 : hd = od
      · rw [decide_eq_true c1]
        simp only [VS, VD, SV, SL, T, Nat.reduceEqDiff, Nat.reduceAdd, Nat.reduceSub, Nat.reduceMul, Nat.reduceLeDiff, Nat.reduceLT, reduceIte, g0, g5, g13, g14, g15]
        exact ⟨by omega, i + 1, ⟨by rw [skip fun hc => hc.1 (.inl c1)], g6, by simp, by omega, hE.trans hEx⟩, by omega⟩
      rw [decide_eq_false c1]
      by_cases c2 : (l.length : Int) < ol.length
      · have d2 : decide ((l.length : Int) < ol.length) = true := decide_eq_true c2
        simp only [VS, VD, SV, SL, T, Nat.reduceEqDiff, Nat.reduceAdd, Nat.reduceSub, Nat.reduceMul, Nat.reduceLeDiff, Nat.reduceLT, reduceIte, g0, g5, g6, g13, g14, g15, d2]
        exact ⟨by omega, i + 1, ⟨by rw [skip fun hc => hc.1 (.inr (by show l.length < ol.length; omega))], by simp, by omega, hE.trans hEx⟩, by omega⟩
      have d2 : decide ((l.length : Int) < ol.length) = false := decide_eq_false c2
      simp only [VS, VD, SV, SL, T, Nat.reduceEqDiff, Nat.reduceAdd, Nat.reduceSub, Nat.reduceMul, Nat.reduceLeDiff, Nat.reduceLT, reduceIte, g6, d2]
      refine DW_c (fun g' w3 => g' 0 = .slice (some ⟨lb, lo, none⟩) L.length lc ∧ g' 5 = .int .i64 p ∧ g' 6 = .agg #[.int .i64 od, .slice oa ol.length oc, .slice oa' ot.length oc', .int .i64 op] ∧ g' 7 = .int .i64 i ∧ g' 8 = .agg #[.int .i64 hd, .slice ua l.length uc, .slice ua' lt.length uc', .int .i64 pr] ∧ g' 13 = .slice (some ⟨lb, lo, none⟩) L.length lc ∧ g' 14 = .int .i64 L.length ∧ g' 15 = .int .i64 i ∧ g' 47 = .bool (decide (0 ≤ p ∧ bln L p ≤ l.length)) ∧ Ext w2 w3) ?_ ?_
      · refine DW_intro (fun n _ v w => True) ?_
        by_cases hp0 : 0 ≤ p
        · have d0 : decide (0 ≤ p) = true := decide_eq_true hp0
          obtain ⟨uu, huu, hIu⟩ := hbest hp0
          obtain ⟨ba, bc, rfl⟩ := hIu.form
          simp only [VS, VD, SV, SL, T, Nat.reduceEqDiff, Nat.reduceAdd, Nat.reduceSub, Nat.reduceMul, Nat.reduceLeDiff, Nat.reduceLT, reduceIte, g0, g5, g6, d0, hxbt, huu]
          refine ⟨by omega, ?_⟩
          intro w4 hE4 hF
          simp only [VS, VD, SV, SL, T, Nat.reduceEqDiff, Nat.reduceAdd, Nat.reduceSub, Nat.reduceMul, Nat.reduceLeDiff, Nat.reduceLT, reduceIte, g0, g5, g6, g13, g14, g15]
          refine ⟨?_, hE4⟩
          simp only [hp0, true_and, bln]
          congr 1
          exact decide_eq_decide.2 (by omega)
        · have d0 : decide (0 ≤ p) = false := decide_eq_false hp0
          simp only [VS, VD, SV, SL, T, Nat.reduceEqDiff, Nat.reduceAdd, Nat.reduceSub, Nat.reduceMul, Nat.reduceLeDiff, Nat.reduceLT, reduceIte, g0, g5, g6, d0]
          intro w4 hE4 hF
          simp only [VS, VD, SV, SL, T, Nat.reduceEqDiff, Nat.reduceAdd, Nat.reduceSub, Nat.reduceMul, Nat.reduceLeDiff, Nat.reduceLT, reduceIte, g0, g5, g6, g13, g14, g15]
          exact ⟨by simp [hp0], hE4⟩
      · rintro g' w3 ⟨k0, k5, k6, k7, k8, k13, k14, k15, k47, hE3⟩
        have hE23 := hEx.trans hE3
        by_cases c3 : 0 ≤ p ∧ bln L p ≤ l.length
        · rw [decide_eq_true c3] at k47
          simp only [VS, VD, SV, SL, T, Nat.reduceEqDiff, Nat.reduceAdd, Nat.reduceSub, Nat.reduceMul, Nat.reduceLeDiff, Nat.reduceLT, reduceIte, k47, k0, k5, k6, k13, k14, k15]
          exact ⟨by omega, i + 1, ⟨by rw [skip fun hc => hc.2.1 c3], by simp, by omega, hE.trans hE23⟩, by omega⟩
        · rw [decide_eq_false c3] at k47
          simp only [VS, VD, SV, SL, T, Nat.reduceEqDiff, Nat.reduceAdd, Nat.reduceSub, Nat.reduceMul, Nat.reduceLeDiff, Nat.reduceLT, reduceIte, k47, k6, k8]
          refine (includes_spec _ _ l ol hrl hork hra hoa w3 (hu.ext hE23) (hou.ext (hE.trans hE23))).mono ?_
          rintro _ w4 ⟨rfl, hE4⟩
          by_cases c4 : ∀ b ∈ ol, b ∈ l
          · rw [decide_eq_true c4]
            have hst' : parF L (od, ol, ot, op) (i + 1) = i := by rw [hst, if_pos ⟨fun h => h.elim c1 (fun h => c2 (by have : l.length < ol.length := h; omega)), c3, c4⟩]
            simp only [VS, VD, SV, SL, T, Nat.reduceEqDiff, Nat.reduceAdd, Nat.reduceSub, Nat.reduceMul, Nat.reduceLeDiff, Nat.reduceLT, reduceIte, k0, k6, k7, k13, k14, k15]
            exact ⟨by omega, i + 1, ⟨by rw [hst'], by simp, by omega, (hE.trans hE23).trans hE4⟩, by omega⟩
          · rw [decide_eq_false c4]
            simp only [VS, VD, SV, SL, T, Nat.reduceEqDiff, Nat.reduceAdd, Nat.reduceSub, Nat.reduceMul, Nat.reduceLeDiff, Nat.reduceLT, reduceIte, k0, k5, k6, k13, k14, k15]
            exact ⟨by omega, i + 1, ⟨by rw [skip fun hc => c4 hc.2.2], by simp, by omega, (hE.trans hE23).trans hE4⟩, by omega⟩
    · rw [decide_eq_false hlt]
      obtain rfl : i = L.length := by omega
      simp only [VS, VD, SV, SL, T, Nat.reduceEqDiff, Nat.reduceAdd, Nat.reduceSub, Nat.reduceMul, Nat.reduceLeDiff, Nat.reduceLT, reduceIte, g5]
      exact hΨ _ _ ⟨rfl, hE⟩
end Go.Proofs.Ytlhlbiaibgmapaa
