/-
  More operations on slices: with a capacity, cap, clear, copy, append in place and of zeros; rows that change.
-/
import Derived.Test.YtblogcihkjhgkaaV12
import Derived.Lib.AppendZerosOnto
set_option linter.unusedSimpArgs false
set_option linter.unusedVariables false
namespace Go.W
open Go.RowKit
section
variable {P : Program} {w : World} {κ : Value → World → Prop} {ty : TypeId} {f : Fr}
theorem oV_cap (s : Operand) (ts : Array TypeId) : opV P (.call ⟨.builtin .cap, #[s], ts⟩) ty f w κ = RunV P w κ (Builtin.cap_ ts ty #[ev f s]) := by
  refine forall_congr fun T => forall_congr fun wa => forall_congr fun _ => forall_congr fun _ => Eq.trans ?_ (raw_XV (P := P) (K := upV κ T wa) (w := wa) (Builtin.cap_ ts ty #[ev f s]))
  simp only [raw, execOp, resolve, invoke, builtin, run_bind, Sem.run, pure, List.map_toArray, List.map_cons, List.map_nil]
theorem oV_clear (s : Operand) (ts : Array TypeId) : opV P (.call ⟨.builtin .clear, #[s], ts⟩) ty f w κ = RunV P w κ (Builtin.clear_ ts ty #[ev f s]) := by
  refine forall_congr fun T => forall_congr fun wa => forall_congr fun _ => forall_congr fun _ => Eq.trans ?_ (raw_XV (P := P) (K := upV κ T wa) (w := wa) (Builtin.clear_ ts ty #[ev f s]))
  simp only [raw, execOp, resolve, invoke, builtin, run_bind, Sem.run, pure, List.map_toArray, List.map_cons, List.map_nil]
theorem oV_slice3 (t : TypeId) (x lo hi m : Operand) : opV P (.slice t x (some lo) (some hi) (some m)) ty f w κ = RunV P w κ (Instr.sliceAt t (ev f x) (some (ev f lo)) (some (ev f hi)) (some (ev f m))) := by
  exact forall_congr fun T => forall_congr fun wa => forall_congr fun _ => forall_congr fun _ => raw_XV _
theorem rV_cap {t e : TypeId} {a : Option Addr} {n c : Nat} (he : elt P t = some e) (h : κ (.int .i64 c) w) : RunV P w κ (Builtin.cap_ #[t] ty #[.slice a n c]) :=
  RunV_same (fun T wa _ _ => by simp [Builtin.cap_, run_underlying (elt_spec he), Sem.run, goInt, run_bind, pure]) h
theorem rV_slice3 {t e : TypeId} {a : Option Addr} {n c l h m : Nat} (he : elt P t = some e) (hs : szv P e = some 1) (h1 : l ≤ h) (h2 : h ≤ m) (h3 : m ≤ c) (hk : κ (.slice (if m = l then a else a.map (·.add (l * 1))) (h - l) (m - l)) w) :
    RunV P w κ (Instr.sliceAt t (.slice a n c) (some (.int .i64 l)) (some (.int .i64 h)) (some (.int .i64 m))) := by
  refine RunV_same (fun T wa _ _ => ?_) hk
  simp only [Instr.sliceAt, Instr.slice, run_bind, run_underlying (elt_spec he), Instr.sliceBounds, run_sliceBound (i := (m : Int)) (y := c) (by omega), run_sliceBound (i := (h : Int)) (y := m) (by omega), Int.toNat_natCast, run_sliceBound (i := (l : Int)) (y := h) (by omega), Sem.run, pure, run_sizeOf hs]
theorem sSlice_hi {t : TypeId} (he : esz P t = some 1) {b o n c i : Nat} (h : i ≤ c) : sSlice P t (.slice (some ⟨b, o, none⟩) n c) none (some (.int .i64 i)) w = some (.slice (some ⟨b, o, none⟩) i c, w) := by
  have : (0 : Int) ≤ i ∧ (i : Int) ≤ c := by omega
  simp [sSlice, he, bnd, h, add_mk]
theorem sSlice_lo {t : TypeId} (he : esz P t = some 1) {b o n c j : Nat} (h : j ≤ n) : sSlice P t (.slice (some ⟨b, o, none⟩) n c) (some (.int .i64 j)) none w = some (.slice (some ⟨b, if c = j then o else o + j, none⟩) (n - j) (c - j), w) := by
  simp only [sSlice, he, bnd]
  rw [if_pos (by omega)]
  simp only [Int.toNat_natCast, Nat.mul_one, Option.map_some, add_mk, Option.some.injEq, Prod.mk.injEq, and_true]
  split <;> rfl
theorem sSlice_lh {t : TypeId} (he : esz P t = some 1) {b o n c j k : Nat} (h : j ≤ k) (h' : k ≤ c) : sSlice P t (.slice (some ⟨b, o, none⟩) n c) (some (.int .i64 j)) (some (.int .i64 k)) w = some (.slice (some ⟨b, if c = j then o else o + j, none⟩) (k - j) (c - j), w) := by
  simp only [sSlice, he, bnd]
  rw [if_pos (by omega)]
  simp only [Int.toNat_natCast]
  rw [if_pos (by omega)]
  simp only [Int.toNat_natCast, Nat.mul_one, Option.map_some, add_mk, Option.some.injEq, Prod.mk.injEq, and_true]
  split <;> rfl
theorem sSlice_lo0 {t : TypeId} (he : esz P t = some 1) {b o n c : Nat} : sSlice P t (.slice (some ⟨b, o, none⟩) n c) (some (.int .i64 0)) none w = some (.slice (some ⟨b, o, none⟩) n c, w) := by
  have := sSlice_lo (P := P) (w := w) he (b := b) (o := o) (n := n) (c := c) (j := 0) (by omega)
  simpa using this
theorem sSlice_lo1 {t : TypeId} (he : esz P t = some 1) {b o n c : Nat} (h : 1 ≤ n) : sSlice P t (.slice (some ⟨b, o, none⟩) n c) (some (.int .i64 1)) none w = some (.slice (some ⟨b, if c = 1 then o else o + 1, none⟩) (n - 1) (c - 1), w) := by
  have := sSlice_lo (P := P) (w := w) he (b := b) (o := o) (n := n) (c := c) (j := 1) h
  simpa using this
theorem sSlice_hi0 {t : TypeId} (he : esz P t = some 1) {b o n c : Nat} : sSlice P t (.slice (some ⟨b, o, none⟩) n c) none (some (.int .i64 0)) w = some (.slice (some ⟨b, o, none⟩) 0 c, w) := by
  have := sSlice_hi (P := P) (w := w) he (b := b) (o := o) (n := n) (c := c) (i := 0) (by omega)
  simpa using this
/-- the operation changes one block -/
theorem RunV_put {s : Sem Value} {b : Nat} {cs cs' : Array Value} {e : TypeId} {v : Value} (hb : w.heap[b]? = some (.cells cs e (0, 0))) (hr : ∀ wa : World, wa.heap[b]? = some (.cells cs e (0, 0)) → s.run P wa = .ok v (wa.putb b (.cells cs' e (0, 0))))
    (h : κ v (w.putb b (.cells cs' e (0, 0)))) : RunV P w κ s := by
  intro T wa hw hT
  subst hw
  obtain ⟨hTb, hb⟩ := tombW_cells hb
  rw [hr wa hb]
  exact ⟨T, Kp.putb hT hTb _, by rw [tombW_putb hTb]; exact h⟩
theorem putb_self {w : World} {b : Nat} {o : Obj} (h : w.heap[b]? = some o) : w.putb b o = w := by
  unfold World.putb
  have : w.heap.setIfInBounds b o = w.heap := by
    apply heap_ext
    intro i
    rw [Array.getElem?_setIfInBounds]
    split
    · rename_i e; subst e; split
      · exact h.symm
      · rename_i hn; rw [Array.getElem?_eq_none (by omega)]
    · rfl
  rw [this]
theorem run_storeCells' {b off : Nat} {e : TypeId} (vs : List Value) (w : World) (cs : Array Value) (hb : w.heap[b]? = some (.cells cs e (0, 0))) (hn : off + vs.length ≤ cs.size)
    (h1 : ∀ v ∈ vs, one v = true) : (storeCells ⟨b, off, none⟩ vs).run P w = .ok () (w.putb b (.cells (spl cs off vs) e (0, 0))) := by
  have := run_storeCells (P := P) (off := off) vs 0 w cs hb (by omega) h1
  rw [this]
  by_cases hv : vs = []
  · subst hv; rw [if_pos rfl, spl_nil, putb_self hb]
  · rw [if_neg hv]; rfl
theorem rd_blk {w : World} {b off n : Nat} {cs : Array Value} {e : TypeId} {fz : Nat × Nat} (hb : w.heap[b]? = some (.cells cs e fz)) (h : off + n ≤ cs.size) : rd w ⟨b, off, none⟩ n = some (cs.extract off (off + n)) := by
  simp [rd, hb, h]
theorem rV_clear {t e : TypeId} {z : Value} {b o n c : Nat} {cs : Array Value} (he : elt P t = some e) (hz : zrv P e = some z) (h1 : z.cells = #[z]) (h1' : one z = true) (hb : w.heap[b]? = some (.cells cs e (0, 0))) (hn : o + n ≤ cs.size)
    (h : κ (.tuple #[]) (w.putb b (.cells (spl cs o (List.replicate n z)) e (0, 0)))) : RunV P w κ (Builtin.clear_ #[t] ty #[.slice (some ⟨b, o, none⟩) n c]) := by
  refine RunV_put hb (fun wa hba => ?_) h
  cases n with
  | zero => simp [Builtin.clear_, run_underlying (elt_spec he), Sem.run, run_bind, pure, spl, putb_self hba]
  | succ n =>
    have hzc : (Builtin.zeroCells z.cells (n + 1)).toList = List.replicate (n + 1) z := by
      rw [h1]
      simp only [Builtin.zeroCells, Array.size_singleton, Nat.mul_one, Array.toList_map]
      rw [List.eq_replicate_iff]
      refine ⟨by simp, fun x hx => ?_⟩
      obtain ⟨j, _, rfl⟩ := List.mem_map.1 hx
      simp [Nat.mod_one]
    simp only [Builtin.clear_, run_underlying (elt_spec he), Sem.run, run_bind, pure, run_zeroValue hz, hzc, List.getElem?_toArray, List.getElem?_cons_zero]
    rw [run_storeCells' _ _ _ hba (by simp; omega) (by intro v hv; rw [(List.mem_replicate.1 hv).2]; exact h1')]
theorem rV_copy {t t' e : TypeId} {b o n c b' o' n' c' : Nat} {cs cs' : Array Value} {e' : TypeId} {fz : Nat × Nat} (he : elt P t = some e) (hs : szv P e = some 1) (hb : w.heap[b]? = some (.cells cs e (0, 0))) (hb' : w.heap[b']? = some (.cells cs' e' fz)) (hn : o + n ≤ cs.size) (hn' : o' + n' ≤ cs'.size)
    (h1 : ∀ v ∈ (cs'.extract o' (o' + Nat.min n' n)).toList, one v = true)
    (h : κ (.int .i64 (Nat.min n' n : Nat)) (w.putb b (.cells (spl cs o (cs'.extract o' (o' + Nat.min n' n)).toList) e (0, 0)))) : RunV P w κ (Builtin.copy_ #[t, t'] ty #[.slice (some ⟨b, o, none⟩) n c, .slice (some ⟨b', o', none⟩) n' c']) := by
  intro T wa hw hT
  subst hw
  obtain ⟨hTb, hb⟩ := tombW_cells hb
  obtain ⟨_, hb'⟩ := tombW_cells hb'
  have hm1 : Nat.min n' n ≤ n := Nat.min_le_right _ _
  have hm2 : Nat.min n' n ≤ n' := Nat.min_le_left _ _
  have hrun : (Builtin.copy_ #[t, t'] ty #[.slice (some ⟨b, o, none⟩) n c, .slice (some ⟨b', o', none⟩) n' c']).run P wa = .ok (.int .i64 (Nat.min n' n : Nat)) (wa.putb b (.cells (spl cs o (cs'.extract o' (o' + Nat.min n' n)).toList) e (0, 0))) := by
    simp only [Builtin.copy_, run_underlying (elt_spec he), Sem.run, run_bind, pure, run_sizeOf hs, Builtin.lenOf, Builtin.firstCells, List.getElem?_toArray, List.getElem?_cons_zero, List.getElem?_cons_succ, Nat.mul_one, run_loadCells (rd_blk hb' (show o' + Nat.min n' n ≤ cs'.size by omega)), goInt]
    rw [run_storeCells' _ _ _ hb (by simp; omega) h1]
  rw [hrun]
  exact ⟨T, Kp.putb hT hTb _, by rw [tombW_putb hTb]; exact h⟩
/-- append within the room of the slice's own block -/
theorem rV_appIn {t e : TypeId} {b o n c o' n' c' b' : Nat} {cs cs' : Array Value} {e' : TypeId} {fz : Nat × Nat} (he : elt P t = some e) (hs : szv P e = some 1) (hb : w.heap[b]? = some (.cells cs e (0, 0))) (hb' : w.heap[b']? = some (.cells cs' e' fz)) (hroom : n + n' ≤ c) (hn : o + (n + n') ≤ cs.size) (hn' : o' + n' ≤ cs'.size)
    (h1 : ∀ v ∈ (cs'.extract o' (o' + n')).toList, one v = true)
    (h : κ (.slice (some ⟨b, o, none⟩) (n + n') c) (w.putb b (.cells (spl cs (o + n) (cs'.extract o' (o' + n')).toList) e (0, 0)))) : RunV P w κ (Builtin.append_ #[t, t] ty #[.slice (some ⟨b, o, none⟩) n c, .slice (some ⟨b', o', none⟩) n' c']) := by
  intro T wa hw hT
  subst hw
  obtain ⟨hTb, hb⟩ := tombW_cells hb
  obtain ⟨_, hb'⟩ := tombW_cells hb'
  have hrun : (Builtin.append_ #[t, t] ty #[.slice (some ⟨b, o, none⟩) n c, .slice (some ⟨b', o', none⟩) n' c']).run P wa = .ok (.slice (some ⟨b, o, none⟩) (n + n') c) (wa.putb b (.cells (spl cs (o + n) (cs'.extract o' (o' + n')).toList) e (0, 0))) := by
    simp only [Builtin.append_, run_underlying (elt_spec he), Sem.run, run_bind, pure, run_sizeOf hs, Builtin.lenOf, Builtin.firstCells, List.getElem?_toArray, List.getElem?_cons_zero, List.getElem?_cons_succ, Nat.mul_one, run_loadCells (rd_blk hb' (show o' + n' ≤ cs'.size by omega)), if_pos hroom, add_mk, Bool.false_eq_true, if_false, Bool.not_false, if_true]
    rw [run_storeCells' _ _ _ hb (by simp; omega) h1]
  rw [hrun]
  exact ⟨T, Kp.putb hT hTb _, by rw [tombW_putb hTb]; exact h⟩
/-- append of zeros to an empty slice, in a new row -/
theorem rV_appZ {t tn e : TypeId} {z : Value} {kn : IntKind} {bytes : Nat} (he : elt P t = some e) (htn : P.underlying tn = some (.int kn)) (hs : szv P e = some 1) (hby : byv P e = some bytes) (hz : zrv P e = some z) (h1 : z.cells = #[z]) {a : Option Addr} {c k : Nat} (hk0 : 0 < k) (hkc : c < k) (hk : k ≤ 250) (hb8 : bytes ≤ 8)
    (h : ∀ gc, k ≤ gc → gc ≤ maxLen → κ (.slice (some ⟨w.heap.size, 0, none⟩) k gc) (w.drew.alloc (.cells (Array.replicate gc z) e (0, 0)))) :
    RunV P w κ (Builtin.append_ #[t, tn] ty #[.slice a 0 c, .int .i64 k]) := by
  intro T wa hw hT
  subst hw
  obtain ⟨i, hi, hsz⟩ := Option.map_eq_some_iff.1 hs
  obtain ⟨i', hi', hzi⟩ := Option.bind_eq_some_iff.1 hz
  obtain ⟨i'', hi'', hby'⟩ := Option.map_eq_some_iff.1 hby
  rw [hi] at hi' hi''
  simp only [Option.some.injEq] at hi' hi''
  subst hi' hi''
  have hnext : Builtin.nextslicecap (0 + k) c ≤ 2000000 := by
    unfold Builtin.nextslicecap
    split
    · omega
    · split
      · omega
      · rename_i h3 h4; exfalso; omega
  have hrun := Lib.run_append_grow_zeros (P := P) wa t tn ty e i z .i64 kn (elt_spec he) htn hi hzi a 0 c [] (by
    cases a <;> simp [Builtin.firstCells, loadCells, loadCellsFrom, Sem.run, pure]) k hk0 (by omega) (by omega) (by omega) (by
      calc k * i.bytes ≤ 1000000 * 8 := Nat.mul_le_mul (show k ≤ 1000000 by omega) (by omega)
        _ ≤ 281474976710656 := by omega) (by
      calc Builtin.nextslicecap (0 + k) c * i.bytes ≤ 2000000 * 8 := Nat.mul_le_mul hnext (by omega)
        _ ≤ 281474976710656 := by omega)
  have hzc : ∀ n, Builtin.zeroCells z.cells n = Array.replicate n z := by
    intro n
    rw [h1]
    apply Array.ext'
    simp only [Builtin.zeroCells, Array.size_singleton, Nat.mul_one, Array.toList_map, Array.toList_replicate]
    rw [List.eq_replicate_iff]
    refine ⟨by simp, fun x hx => ?_⟩
    obtain ⟨j, _, rfl⟩ := List.mem_map.1 hx
    simp [Nat.mod_one]
  rw [hrun]
  have hge := grownCap_ge wa (0 + k) c e
  have hle := grownCap_le_maxLen wa (0 + k) c e (by unfold maxLen; omega)
  generalize grownCap wa (0 + k) c e = gc at *
  rw [hzc, hzc]
  have e1 : ([] : List Value).toArray ++ Array.replicate k z ++ Array.replicate (gc - (0 + k)) z = Array.replicate gc z := by
    apply Array.ext'
    simp only [Array.toList_append, Array.toList_replicate, List.nil_append, List.replicate_append_replicate]
    congr 1
    omega
  rw [e1]
  have := h gc (by omega) hle
  rw [tombW_size] at this
  refine ⟨T, ?_, ?_⟩
  · exact (Kp.drew hT).trans (Kp.alloc (w := wa.drew) hT _)
  · rw [Nat.zero_add, tombW_alloc (show TB T wa.drew from hT), tombW_drew]
    exact this
end
theorem spl_list (vs : List Value) : ∀ (cs : Array Value) (o : Nat), o + vs.length ≤ cs.size → (spl cs o vs).toList = cs.toList.take o ++ vs ++ cs.toList.drop (o + vs.length) := by
  induction vs with
  | nil => intro cs o h; simp [spl]
  | cons v vs ih =>
    intro cs o h
    simp only [List.length_cons] at h
    rw [spl_cons, ih _ _ (by simp; omega)]
    simp only [Array.toList_setIfInBounds, List.length_cons]
    have hlt : o < cs.toList.length := by simp; omega
    rw [List.set_eq_take_append_cons_drop, if_pos hlt]
    have e1 : (cs.toList.take o ++ v :: cs.toList.drop (o + 1)).take (o + 1) = cs.toList.take o ++ [v] := by
      rw [List.take_append, List.length_take, Nat.min_eq_left (by omega), show o + 1 - o = 1 by omega, List.take_of_length_le (by simp; omega)]
      simp
    have e2 : (cs.toList.take o ++ v :: cs.toList.drop (o + 1)).drop (o + 1 + vs.length) = cs.toList.drop (o + (vs.length + 1)) := by
      rw [List.drop_append, List.length_take, Nat.min_eq_left (by omega), List.drop_of_length_le (by simp; omega), show o + 1 + vs.length - o = vs.length + 1 by omega]
      simp [List.drop_drop]
      congr 1
      omega
    rw [e1, e2]
    simp
end Go.W
