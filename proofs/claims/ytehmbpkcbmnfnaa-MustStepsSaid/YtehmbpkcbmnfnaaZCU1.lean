/-
  Must: the states in memory; New, zero, Age, set, Clone, Forget.
-/
import Derived.Test.YtehmbpkcbmnfnaaZCUR
import Derived.Test.YtehmbpkcbmnfnaaZU
set_option linter.unusedSimpArgs false
set_option linter.unusedVariables false
namespace Go.Proofs.Ytehmbpkcbmnfnaa
open Go.W
/-- the block r is a map that holds a function from lines to bounds -/
def MapIs (w : World) (r : Nat) (m : Int → Option Int) : Prop := ∃ l c, w.heap[r]? = some (.map (mk l) c) ∧ MWF l c ∧ ∀ k, mget l k = (m k).map (.int .i64 ·)
theorem MapIs.ext {w w' : World} {r : Nat} {m : Int → Option Int} (h : MapIs w r m) (hE : Ext w w') : MapIs w' r m := by
  obtain ⟨l, c, h2, h3⟩ := h
  exact ⟨l, c, hE.obj h2, h3⟩
theorem MapIs.congr {w : World} {r : Nat} {m m' : Int → Option Int} (h : MapIs w r m) (e : ∀ k, m k = m' k) : MapIs w r m' := by
  rw [← show m = m' from funext e]; exact h
theorem MapIs.heap {w w' : World} {r : Nat} {m : Int → Option Int} (h : MapIs w r m) (e : w'.heap[r]? = w.heap[r]?) : MapIs w' r m := by
  obtain ⟨l, c, h2, h3⟩ := h
  exact ⟨l, c, e.trans h2, h3⟩
/-- a map value that holds a function from lines to bounds -/
def MapAt (w : World) (v : Value) (m : Int → Option Int) : Prop :=
  (v = .map none ∧ ∀ k, m k = none) ∨ ∃ r l c, v = .map (some r) ∧ w.heap[r]? = some (.map (mk l) c) ∧ MWF l c ∧ ∀ k, mget l k = (m k).map (.int .i64 ·)
theorem MapAt.ext {w w' : World} {v : Value} {m : Int → Option Int} (h : MapAt w v m) (hE : Ext w w') : MapAt w' v m := by
  rcases h with h | ⟨r, l, c, h1, h2, h3⟩
  · exact .inl h
  · exact .inr ⟨r, l, c, h1, hE.obj h2, h3⟩
theorem MapIs.at {w : World} {r : Nat} {m : Int → Option Int} (h : MapIs w r m) : MapAt w (.map (some r)) m := by
  obtain ⟨l, c, h⟩ := h
  exact .inr ⟨r, l, c, rfl, h⟩
set_option maxRecDepth 10000 in
theorem MapAt.look {w : World} {v : Value} {m : Int → Option Int} (h : MapAt w v m) (k : Int) {κ : Value → World → Prop} (hk : κ (.tuple #[.int .i64 ((m k).getD 0), .bool (m k).isSome]) w) :
    RunV Try.prog w κ (Instr.lookup 76 v (.int .i64 k) true) := by
  rcases h with ⟨rfl, hm⟩ | ⟨r, l, c, rfl, h2, h3, h4⟩
  · refine rV_lookup_nil T.me76 T.zr3 ?_
    rw [hm] at hk; exact hk
  · refine rV_lookup T.me76 T.zr3 h2 ?_
    rw [h4]
    cases hmk : m k <;> rw [hmk] at hk <;> exact hk
theorem MapAt.one {w : World} {v : Value} {m : Int → Option Int} (h : MapAt w v m) : one v = true := by
  rcases h with ⟨rfl, _⟩ | ⟨_, _, _, rfl, _⟩ <;> rfl
/-- the lines of one set -/
def restr (s : Int) (i : Nat) (m : Int → Option Int) : Int → Option Int := fun k => if 0 ≤ k ∧ k % s = i then m k else none
theorem MapAt.list {w : World} {v : Value} {m : Int → Option Int} (h : MapAt w v m) : ∃ l c, MapL w v l c ∧ ∀ k, mget l k = (m k).map (.int .i64 ·) := by
  rcases h with ⟨rfl, hm⟩ | ⟨r, l, c, rfl, h2, h3, h4⟩
  · exact ⟨[], 0, .inl ⟨rfl, rfl, rfl⟩, fun k => by simp [mget_nil, hm]⟩
  · exact ⟨l, c, .inr ⟨r, rfl, h2, h3⟩, h4⟩
set_option maxHeartbeats 1000000 in
theorem MapAt.per {w w' : World} {v : Value} {m : Bnd} (h : MapAt w v m) (hE : Per w w') : MapAt w' v m := by
  rcases h with h | ⟨r, l, c, h1, h2, h3⟩
  · exact .inl h
  · exact .inr ⟨r, l, c, h1, hE.map h2, h3⟩
/-- the value of a state -/
def muV (s y l : Int) (sets : Value) : Value := .agg #[.int .i64 s, .int .i64 y, .int .i64 l, sets]
/-- a state: the function from lines to bounds -/
def MuK (w : World) (v : Value) (s y l : Int) (m : Bnd) : Prop :=
  ∃ (b off cap : Nat) (vs : List Value), v = muV s y l (.slice (some ⟨b, off, none⟩) s.toNat cap) ∧ vs.length = s.toNat ∧ (∀ i x, vs[i]? = some x → w.cell? ⟨b, off + i, none⟩ = some x ∧ MapAt w x (restr s i m))
theorem MuK.ext {w w' : World} {v : Value} {s y l : Int} {m : Bnd} (h : MuK w v s y l m) (hE : Ext w w') : MuK w' v s y l m := by
  obtain ⟨b, off, cap, vs, h1, h2, h3⟩ := h
  exact ⟨b, off, cap, vs, h1, h2, fun i x hx => ⟨hE.cell (h3 i x hx).1, (h3 i x hx).2.ext hE⟩⟩
theorem MuK.per {w w' : World} {v : Value} {s y l : Int} {m : Bnd} (h : MuK w v s y l m) (hE : Per w w') : MuK w' v s y l m := by
  obtain ⟨b, off, cap, vs, h1, h2, h3⟩ := h
  exact ⟨b, off, cap, vs, h1, h2, fun i x hx => ⟨hE.cell (h3 i x hx).1, (h3 i x hx).2.per hE⟩⟩
theorem MuK.form {w : World} {v : Value} {s y l : Int} {m : Bnd} (h : MuK w v s y l m) : ∃ b off cap, v = muV s y l (.slice (some ⟨b, off, none⟩) s.toNat cap) := by
  obtain ⟨b, off, cap, vs, h1, _⟩ := h; exact ⟨b, off, cap, h1⟩
theorem MuK.at {w : World} {s y l : Int} {m : Bnd} {b off n cap : Nat} (h : MuK w (muV s y l (.slice (some ⟨b, off, none⟩) n cap)) s y l m) {i : Nat} (hi : i < s.toNat) :
    ∃ x cs e fz, w.heap[b]? = some (.cells cs e fz) ∧ cs[off + i]? = some x ∧ MapAt w x (restr s i m) := by
  obtain ⟨b', off', cap', vs, h1, h2, h3⟩ := h
  simp only [muV, Value.agg.injEq, Array.mk.injEq, List.cons.injEq, Value.slice.injEq, Option.some.injEq, Addr.mk.injEq, and_true, true_and] at h1
  obtain ⟨⟨rfl, rfl⟩, _, _⟩ := h1
  obtain ⟨h4, h5⟩ := h3 i vs[i] (by simp [show i < vs.length by omega])
  obtain ⟨cs, e, fz, hb, hc⟩ := cell_obj h4
  exact ⟨_, cs, e, fz, hb, hc, h5⟩
/-- the zero state -/
abbrev muZ : Value := muV 0 0 0 (.slice none 0 0)
theorem setOf_eq {s y l k : Int} (hv : Geo s y l = true) (hk : 0 ≤ k) : setOf s y l k = k % s := by simp [setOf, hv, hk]
set_option maxRecDepth 10000 in
theorem set_spec (s y l : Int) (hv : Geo s y l = true) (m : Bnd) (st : Value) (i : Nat) (hi : i < s.toNat) (w : World) (h : MuK w st s y l m) :
    VRet Try.prog 41 #[st, .int .i64 i] w fun v w' => (∃ r, v = .map (some r) ∧ w.heap.size ≤ r ∧ MapIs w' r (restr s i m)) ∧ Ext w w' := by
  obtain ⟨b, off, cap, vs, rfl, hl, hc⟩ := h
  obtain ⟨x, hx⟩ : ∃ x, vs[i]? = some x := ⟨vs[i]'(by omega), by simp⟩
  obtain ⟨hcell, hmap⟩ := hc _ _ hx
  obtain ⟨cs, e, fz, hb, hcs⟩ := cell_obj hcell
  have hlt := get_lt hb
  have hne : ¬ b = w.heap.size := by omega
  have hne1 : ¬ b = w.heap.size + 1 := by omega
  refine VRet_start T.mo ok41 rfl fun Ψ hΨ => ?_; simp only [vc41, rs41]
  simp only [VS, VD, SV, SL, T, Nat.reduceEqDiff, Nat.reduceAdd, Nat.reduceSub, Nat.reduceMul, Nat.reduceLeDiff, Nat.reduceLT, reduceIte, muV, hne, hne1, hb, Int.toNat_natCast, hcs]
  refine ⟨by omega, ?_⟩
  have hE0 : Ext w ((w.alloc tomb).alloc (.map #[] 0)) := ((Ext.refl w).alloc _).alloc _
  have hd0 : ((w.alloc tomb).alloc (.map #[] 0)).heap[w.heap.size + 1]? = some (.map #[] 0) := by simp only [VS, VD, SV, SL, T, Nat.reduceEqDiff, Nat.reduceAdd, Nat.reduceSub, Nat.reduceMul, Nat.reduceLeDiff, Nat.reduceLT, reduceIte]
  generalize (w.alloc tomb).alloc (.map #[] 0) = w0 at *
  have hd1 := get_lt hd0
  rcases hmap with ⟨rfl, hm⟩ | ⟨r, l0, c, rfl, hr, hwf, hm⟩
  · refine rV_range_nil T.mp76 ?_
    simp only [VS, VD, SV, SL, T, Nat.reduceEqDiff, Nat.reduceAdd, Nat.reduceSub, Nat.reduceMul, Nat.reduceLeDiff, Nat.reduceLT, reduceIte]
    refine LoopP_intro (α := Unit) (fun _ f' w' => f' 14 = .pointer (some ⟨w0.heap.size, 0, none⟩) ∧ f' 5 = .map (some (w.heap.size + 1)) ∧ w'.heap[w0.heap.size]? = some (.mapIter none 0 #[] 0) ∧
      w'.heap[w.heap.size + 1]? = some (.map #[] 0) ∧ Ext w w') (fun _ => 0) () ?_ ?_
    · simp only [VS, VD, SV, SL, T, Nat.reduceEqDiff, Nat.reduceAdd, Nat.reduceSub, Nat.reduceMul, Nat.reduceLeDiff, Nat.reduceLT, reduceIte, show ¬ w.heap.size + 1 = w0.heap.size by omega, hd0]
      exact hE0.alloc _
    · rintro _ f' w' ⟨h14, h5, hit, hd, hE⟩
      simp only [VS, VD, SV, SL, T, Nat.reduceEqDiff, Nat.reduceAdd, Nat.reduceSub, Nat.reduceMul, Nat.reduceLeDiff, Nat.reduceLT, reduceIte, h14]
      refine rV_next_nil hit ?_
      simp only [VS, VD, SV, SL, T, Nat.reduceEqDiff, Nat.reduceAdd, Nat.reduceSub, Nat.reduceMul, Nat.reduceLeDiff, Nat.reduceLT, reduceIte, h5]
      exact hΨ _ _ ⟨⟨_, rfl, by omega, [], 0, hd, MWF_nil, fun k => by simp [mget_nil, hm]⟩, hE⟩
  · refine rV_range T.mp76 (hE0.obj hr) ?_
    simp only [VS, VD, SV, SL, T, Nat.reduceEqDiff, Nat.reduceAdd, Nat.reduceSub, Nat.reduceMul, Nat.reduceLeDiff, Nat.reduceLT, reduceIte]
    refine LoopP_intro (α := Array Nat) (fun seen f' w' => f' 14 = .pointer (some ⟨w0.heap.size, 0, none⟩) ∧ f' 5 = .map (some (w.heap.size + 1)) ∧ w'.heap[w0.heap.size]? = some (.mapIter (some r) c seen c) ∧
      (∃ ld cd, w'.heap[w.heap.size + 1]? = some (.map (mk ld) cd) ∧ MWF ld cd ∧ ∀ k, mget ld k = if ∃ p ∈ l0, p.1 = k ∧ p.2.2 ∈ seen then mget l0 k else none) ∧ Ext w w') (fun seen => (todo l0 seen).length) #[] ?_ ?_
    · simp only [VS, VD, SV, SL, T, Nat.reduceEqDiff, Nat.reduceAdd, Nat.reduceSub, Nat.reduceMul, Nat.reduceLeDiff, Nat.reduceLT, reduceIte, show ¬ w.heap.size + 1 = w0.heap.size by omega, hd0]
      exact ⟨⟨[], 0, rfl, MWF_nil, fun k => by simp [mget_nil]⟩, hE0.alloc _⟩
    · rintro seen f' w' ⟨h14, h5, hit, ⟨ld, cd, hd, hwd, hgd⟩, hE⟩
      have hr' := hE.obj hr
      have hl1 := get_lt hd
      have hl2 := get_lt hit
      have hrl := get_lt hr
      have n3 : ¬ r = w0.heap.size := by omega
      have n4 : ¬ w.heap.size + 1 = w0.heap.size := by omega
      have n5 : ¬ w0.heap.size = w.heap.size + 1 := by omega
      simp only [VS, VD, SV, SL, T, Nat.reduceEqDiff, Nat.reduceAdd, Nat.reduceSub, Nat.reduceMul, Nat.reduceLeDiff, Nat.reduceLT, reduceIte, h14]
      refine rV_next hit hr' hwf.lt (fun hall => ?_) (fun p hp hns w2 hw2 => ?_)
      · simp only [VS, VD, SV, SL, T, Nat.reduceEqDiff, Nat.reduceAdd, Nat.reduceSub, Nat.reduceMul, Nat.reduceLeDiff, Nat.reduceLT, reduceIte, h5]
        refine hΨ _ _ ⟨⟨_, rfl, by omega, ld, cd, hd, hwd, fun k => ?_⟩, hE⟩
        rw [hgd, ← hm]
        by_cases hex : ∃ p ∈ l0, p.1 = k ∧ p.2.2 ∈ seen
        · rw [if_pos hex]
        · rw [if_neg hex]
          cases hk : mget l0 k with
          | none => rfl
          | some v =>
            obtain ⟨b, hb⟩ := mget_some_mem hk
            exact (hex ⟨_, hb, rfl, hall _ hb⟩).elim
      · have e2 : w2.heap = w'.heap := by rcases hw2 with rfl | rfl <;> rfl
        have x2 : Ext w w2 := by rcases hw2 with rfl | rfl <;> first | exact hE | exact hE.drew
        simp only [VS, VD, SV, SL, T, Nat.reduceEqDiff, Nat.reduceAdd, Nat.reduceSub, Nat.reduceMul, Nat.reduceLeDiff, Nat.reduceLT, reduceIte, h14]
        refine rV_entry (p := p) (seen := seen) (s := c) (c := c) (r := r) (l := l0) (by simp only [VS, VD, SV, SL, T, Nat.reduceEqDiff, Nat.reduceAdd, Nat.reduceSub, Nat.reduceMul, Nat.reduceLeDiff, Nat.reduceLT, reduceIte, e2, hl2]) (by simp only [VS, VD, SV, SL, T, Nat.reduceEqDiff, Nat.reduceAdd, Nat.reduceSub, Nat.reduceMul, Nat.reduceLeDiff, Nat.reduceLT, reduceIte, e2, hr', n3]) hwf.borns hp ?_
        simp only [VS, VD, SV, SL, T, Nat.reduceEqDiff, Nat.reduceAdd, Nat.reduceSub, Nat.reduceMul, Nat.reduceLeDiff, Nat.reduceLT, reduceIte, h5]
        refine rV_update (l := ld) (c := cd) T.me76 (by simp only [VS, VD, SV, SL, T, Nat.reduceEqDiff, Nat.reduceAdd, Nat.reduceSub, Nat.reduceMul, Nat.reduceLeDiff, Nat.reduceLT, reduceIte, e2, hd, n4]) hwd.keys ?_
        simp only [VS, VD, SV, SL, T, Nat.reduceEqDiff, Nat.reduceAdd, Nat.reduceSub, Nat.reduceMul, Nat.reduceLeDiff, Nat.reduceLT, reduceIte]
        refine ⟨seen.push p.2.2, ⟨h14, h5, by simp only [VS, VD, SV, SL, T, Nat.reduceEqDiff, Nat.reduceAdd, Nat.reduceSub, Nat.reduceMul, Nat.reduceLeDiff, Nat.reduceLT, reduceIte, e2, hl2, n5], ⟨(mset ld cd p.1 p.2.1).1, (mset ld cd p.1 p.2.1).2, by simp only [VS, VD, SV, SL, T, Nat.reduceEqDiff, Nat.reduceAdd, Nat.reduceSub, Nat.reduceMul, Nat.reduceLeDiff, Nat.reduceLT, reduceIte, e2, hl1], hwd.set p.1 p.2.1, fun k => ?_⟩, (x2.putb (by omega) _).putb (by omega) _⟩, todo_lt hp hns⟩
        rw [mget_mset, hgd]
        by_cases hk : k = p.1
        · subst hk
          rw [if_pos rfl, if_pos ⟨p, hp, rfl, by simp⟩, mget_mem hwf.keys hp]
        · rw [if_neg hk]
          have : (∃ q ∈ l0, q.1 = k ∧ q.2.2 ∈ seen.push p.2.2) ↔ (∃ q ∈ l0, q.1 = k ∧ q.2.2 ∈ seen) := by
            constructor
            · rintro ⟨q, hq, rfl, hs⟩
              rcases Array.mem_push.1 hs with hs | hs
              · exact ⟨q, hq, rfl, hs⟩
              · exact (hk (by rw [Go.W.born_inj hwf.borns hq hp hs])).elim
            · rintro ⟨q, hq, rfl, hs⟩
              exact ⟨q, hq, rfl, Array.mem_push.2 (.inl hs)⟩
          simp only [this]
set_option maxRecDepth 10000 in
theorem CloneM_spec (b off n cap : Nat) (vs : List Value) (hl : vs.length = n) (hn : n ≤ 64) (w : World) (hc : ∀ i x, vs[i]? = some x → w.cell? ⟨b, off + i, none⟩ = some x ∧ one x = true) :
    VRet Try.prog 43 #[.slice (some ⟨b, off, none⟩) n cap] w fun v w' => w'.ownsRow w.heap.size 76 1 v n vs ∧ Ext w w' := by
  refine VRet_start T.mo ok43 rfl fun Ψ hΨ => ?_; simp only [vc43, rs43]
  simp only [VS, VD, SV, SL, T, Nat.reduceEqDiff, Nat.reduceAdd, Nat.reduceSub, Nat.reduceMul, Nat.reduceLeDiff, Nat.reduceLT, reduceIte]
  have hown : (w.alloc (Obj.cells #[] 76)).ownsRow w.heap.size 76 1 (.slice (some ⟨w.heap.size, 0, none⟩) 0 0) 0 [] :=
    World.ownsRow_made w #[] 0 (Nat.le_refl _) (Nat.zero_le _) (by simp)
  have hE := (Ext.refl w).alloc (Obj.cells #[] 76)
  refine rV_append (ty := 26) T.el26 T.sz76 T.by76 T.zr76 rfl (by omega) hown (news := vs) (by omega) ?_ ?_ ?_ ?_ ?_ ?_
  · intro j u hu
    rw [add_mk]
    exact hE.cell (hc j u hu).1
  · intro u hu
    obtain ⟨j, hj, rfl⟩ := List.getElem_of_mem hu
    exact (hc j _ (by simp)).2
  · unfold maxLen; omega
  · omega
  · simp
  · intro v w' ho hg _
    simp only [VS, VD, SV, SL, T, Nat.reduceEqDiff, Nat.reduceAdd, Nat.reduceSub, Nat.reduceMul, Nat.reduceLeDiff, Nat.reduceLT, reduceIte]
    simp only [Nat.zero_add, List.nil_append] at ho
    refine hΨ _ _ ⟨ho, hE.grown hg ?_⟩
    intro k hk
    simp only [Value.ownBlock, Option.some.injEq] at hk
    omega
end Go.Proofs.Ytehmbpkcbmnfnaa
