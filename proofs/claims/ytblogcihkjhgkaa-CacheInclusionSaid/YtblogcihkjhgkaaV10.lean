/-
  Maps and append over veiled worlds; the rules of regions that draw their order; the lists of rules.
-/
import Derived.Test.YtblogcihkjhgkaaV9
import Derived.Maps.AppendAt
set_option linter.unusedSimpArgs false
set_option linter.unusedVariables false
set_option linter.defProp false
namespace Go.W
open Go.RowKit
section
variable {P : Program} {w : World} {κ : Value → World → Prop}
theorem RunV_same {s : Sem Value} {v : Value} (h : ∀ T wa, w = tombW T wa → TB T wa → s.run P wa = .ok v wa) (hk : κ v w) : RunV P w κ s := by
  intro T wa hw hT
  rw [h T wa hw hT]
  exact ⟨T, Kp.refl hT, hw ▸ hk⟩
theorem rV_lookup {t e : TypeId} {z : Value} {r c : Nat} {l : List Ent} (ht : mpe P t = some e) (hz : zrv P e = some z) (hr : w.heap[r]? = some (.map (mk l) c)) {k : Int} {ok : Bool}
    (h : κ (if ok then .tuple #[(mget l k).getD z, .bool (mget l k).isSome] else (mget l k).getD z) w) : RunV P w κ (Instr.lookup t (.map (some r)) (.int .i64 k) ok) :=
  RunV_same (fun T wa hw hT => run_lookup ht hz (tombW_map (hw ▸ hr)).2 k ok) h
theorem rV_lookup_nil {t e : TypeId} {z : Value} (ht : mpe P t = some e) (hz : zrv P e = some z) {k : Int} {ok : Bool} (h : κ (if ok then .tuple #[z, .bool false] else z) w) : RunV P w κ (Instr.lookup t (.map none) (.int .i64 k) ok) :=
  RunV_same (fun T wa hw hT => run_lookup_nil ht hz k ok) h
theorem rV_update {t e : TypeId} {r c : Nat} {l : List Ent} (ht : mpe P t = some e) (hr : w.heap[r]? = some (.map (mk l) c)) (hk : (l.map (·.1)).Nodup) {k : Int} {v : Value} (h : κ undef (w.putb r (.map (mk (mset l c k v).1) (mset l c k v).2))) :
    RunU P w κ (Instr.mapUpdate t (.map (some r)) (.int .i64 k) v) := by
  intro T wa hw hT
  subst hw
  obtain ⟨hTr, hr⟩ := tombW_map hr
  rw [run_mapUpdate ht hr hk k v]
  exact ⟨T, Kp.putb hT hTr _, by rw [tombW_putb hTr]; exact h⟩
theorem rV_delete {t kt0 e ty : TypeId} {r c : Nat} {l : List Ent} (ht : mpe P t = some e) (hr : w.heap[r]? = some (.map (mk l) c)) (hk : (l.map (·.1)).Nodup) {k : Int} (h : κ (.tuple #[]) (w.putb r (.map (mk (mdel l k)) c))) :
    RunV P w κ (Builtin.delete_ #[t, kt0] ty #[.map (some r), .int .i64 k]) := by
  intro T wa hw hT
  subst hw
  obtain ⟨hTr, hr⟩ := tombW_map hr
  rw [run_delete ht hr hk k]
  exact ⟨T, Kp.putb hT hTr _, by rw [tombW_putb hTr]; exact h⟩
theorem rV_range {t : TypeId} {r c : Nat} {es : Array MapEntry} (ht : isMapT P t = true) (hr : w.heap[r]? = some (.map es c)) (h : κ (.pointer (some ⟨w.heap.size, 0, none⟩)) (w.alloc (.mapIter (some r) c #[] c))) : RunV P w κ (Instr.range t (.map (some r))) := by
  intro T wa hw hT
  subst hw
  obtain ⟨hTr, hr⟩ := tombW_map hr
  rw [run_range ht hr]
  rw [tombW_size, ← tombW_alloc hT] at h
  exact ⟨T, Kp.alloc hT _, h⟩
theorem rV_range_nil {t : TypeId} (ht : isMapT P t = true) (h : κ (.pointer (some ⟨w.heap.size, 0, none⟩)) (w.alloc (.mapIter none 0 #[] 0))) : RunV P w κ (Instr.range t (.map none)) := by
  intro T wa hw hT
  subst hw
  rw [run_range_nil ht]
  rw [tombW_size, ← tombW_alloc hT] at h
  exact ⟨T, Kp.alloc hT _, h⟩
theorem rV_next_nil {it s : Nat} {seen : Array Nat} {st : Nat} {ty : TypeId} (hi : w.heap[it]? = some (.mapIter none s seen st)) (h : κ (.tuple #[.bool false]) w) : RunV P w κ (Instr.next (.pointer (some ⟨it, 0, none⟩)) false ty) :=
  RunV_same (fun T wa hw hT => run_next_nil (tombW_iter (hw ▸ hi)).2) h
theorem rV_next {it r c : Nat} {seen : Array Nat} {l : List Ent} {ty : TypeId} (hi : w.heap[it]? = some (.mapIter (some r) c seen c)) (hr : w.heap[r]? = some (.map (mk l) c)) (hlt : ∀ p ∈ l, p.2.2 < c)
    (hdone : (∀ p ∈ l, p.2.2 ∈ seen) → κ (.tuple #[.bool false]) w)
    (hstep : ∀ p ∈ l, p.2.2 ∉ seen → ∀ w1, (w1 = w ∨ w1 = w.drew) → κ (.tuple #[.bool true, .int .i64 p.1, p.2.1]) (w1.putb it (.mapIter (some r) c (seen.push p.2.2) c))) : RunV P w κ (Instr.next (.pointer (some ⟨it, 0, none⟩)) false ty) := by
  intro T wa hw hT
  subst hw
  obtain ⟨hTr, hr⟩ := tombW_map hr
  obtain ⟨hTi, hi⟩ := tombW_iter hi
  rcases run_next (P := P) (ty := ty) hi hr hlt with ⟨h1, h2⟩ | ⟨p, hp, hn, w1, hw1, h2⟩
  · rw [h2]; exact ⟨T, Kp.refl hT, hdone h1⟩
  · rw [h2]
    rcases hw1 with rfl | rfl
    · exact ⟨T, Kp.putb hT hTi _, by rw [tombW_putb hTi]; exact hstep p hp hn _ (.inl rfl)⟩
    · exact ⟨T, (Kp.drew hT).trans (Kp.putb (w := wa.drew) hT hTi _), by rw [tombW_putb hTi]; exact hstep p hp hn _ (.inr rfl)⟩
theorem rV_entry {it r c s : Nat} {seen : Array Nat} {l : List Ent} {p : Ent} (hi : w.heap[it]? = some (.mapIter (some r) s (seen.push p.2.2) c)) (hr : w.heap[r]? = some (.map (mk l) c)) (hb : (l.map (·.2.2)).Nodup) (hp : p ∈ l) (h : κ (.tuple #[.int .i64 p.1, p.2.1]) w) :
    RunV P w κ (Instr.entry (.pointer (some ⟨it, 0, none⟩))) :=
  RunV_same (fun T wa hw hT => run_entry (tombW_iter (hw ▸ hi)).2 (tombW_map (hw ▸ hr)).2 hb hp) h
theorem own_tomb {T : Nat → Bool} {wa : World} {base : Nat} {e : TypeId} {size : Nat} {v : Value} {n : Nat} {xs : List Value} (h : (tombW T wa).ownsRow base e size v n xs) : wa.ownsRow base e size v n xs ∧ ∀ b, v.ownBlock = some b → T b = false := by
  obtain ⟨h1, h2⟩ := h
  rcases h2 with ⟨rfl, hn⟩ | ⟨g, cap, cur, rfl, hb, hg, h3⟩
  · exact ⟨⟨h1, .inl ⟨rfl, hn⟩⟩, by simp [Value.ownBlock]⟩
  · obtain ⟨hT, hg⟩ := tombW_cells hg
    refine ⟨⟨h1, .inr ⟨g, cap, cur, rfl, hb, hg, h3⟩⟩, ?_⟩
    intro b hb
    simp only [Value.ownBlock, Option.some.injEq] at hb
    subst hb; exact hT
theorem tomb_own {T : Nat → Bool} {wa : World} {base : Nat} {e : TypeId} {size : Nat} {v : Value} {n : Nat} {xs : List Value} (h : wa.ownsRow base e size v n xs) (hb : ∀ b, v.ownBlock = some b → T b = false) : (tombW T wa).ownsRow base e size v n xs := by
  obtain ⟨h1, h2⟩ := h
  refine ⟨h1, ?_⟩
  rcases h2 with ⟨rfl, hn⟩ | ⟨g, cap, cur, rfl, hb', hg, h3⟩
  · exact .inl ⟨rfl, hn⟩
  · exact .inr ⟨g, cap, cur, rfl, hb', by rw [tombW_see (hb g rfl)]; exact hg, h3⟩
theorem rV_append {base : Nat} {t ty e : TypeId} {size bytes : Nat} {z : Value} (he : elt P t = some e) (hs : szv P e = some size) (hb : byv P e = some bytes) (hz : zrv P e = some z)
    (hzs : z.cells.size = size) (hpos : 0 < size) {v : Value} {n : Nat} {xs : List Value} (hown : w.ownsRow base e size v n xs) {a : Addr} {m c : Nat} {news : List Value} (hl : news.length = m * size)
    (hnews : ∀ j u, news[j]? = some u → w.cell? (a.add j) = some u) (h1 : ∀ u ∈ news, one u = true) (h63 : n + m ≤ maxLen) (hbytes : (n + m) * bytes ≤ 140737488355328) (hbase : base ≤ w.heap.size)
    (h : ∀ v' w', w'.ownsRow base e size v' (n + m) (xs ++ news) → w.grownBy w' v.ownBlock → (v'.ownBlock = v.ownBlock ∨ v'.ownBlock = some w.heap.size) → κ v' w') : RunV P w κ (Builtin.append_ #[t, t] ty #[v, .slice (some a) m c]) := by
  intro T wa hw hT
  subst hw
  obtain ⟨hown, hTv⟩ := own_tomb hown
  rw [tombW_size] at hbase h
  obtain ⟨i, hi, rfl⟩ := Option.map_eq_some_iff.1 hs
  obtain ⟨i', hi', hzi⟩ := Option.bind_eq_some_iff.1 hz
  obtain ⟨i'', hi'', rfl⟩ := Option.map_eq_some_iff.1 hb
  rw [hi] at hi' hi''
  simp only [Option.some.injEq] at hi' hi''
  subst hi' hi''
  obtain ⟨v', w', hr, ho, hg, _, hnew⟩ := run_append_own_at (P := P) wa base t ty e i z i.size i.bytes (elt_spec he) hi hzi rfl rfl hzs hpos v n xs hown a m c news hl (fun j u hu => tombW_cell (hnews j u hu)) (fun u hu => by have := h1 u hu; cases u <;> simp_all [one, Value.oneCell']) h63 hbytes hbase
  rw [hr]
  have hTB : TB T w' := fun b hb => hT b (Nat.le_trans hg.size hb)
  have hK : Kp T wa T w' := ⟨hT, hTB, hg.size, fun _ _ => rfl, fun b hb => hg.block b (hT.lt hb) (fun e => by have := hTv b e.symm; rw [this] at hb; cases hb)⟩
  have hT' : ∀ b, v'.ownBlock = some b → T b = false := by
    intro b hb
    rcases hnew with h | h
    · exact hTv b (h ▸ hb)
    · rw [h] at hb; simp only [Option.some.injEq] at hb; subst hb; exact hT _ (Nat.le_refl _)
  refine ⟨T, hK, h v' (tombW T w') (tomb_own ho hT') ?_ hnew⟩
  refine ⟨hg.os, hg.tape, hg.output, by rw [tombW_size, tombW_size]; exact hg.size, fun k hk hne => ?_⟩
  rw [tombW_size] at hk
  rw [tombW_get, tombW_get, hg.block k hk hne]
theorem rV_append_nil {base : Nat} {t ty e : TypeId} {size : Nat} (he : elt P t = some e) (hs : szv P e = some size) {v : Value} {n : Nat} {xs : List Value} (hown : w.ownsRow base e size v n xs) (h : κ v w) : RunV P w κ (Builtin.append_ #[t, t] ty #[v, .slice none 0 0]) :=
  RunV_same (fun T wa hw hT => own_append_nil he hs (own_tomb (hw ▸ hown)).1) h
end
/-! ### regions that draw their order -/
theorem ef_ext {P : Program} {w1 w2 : World} (hE : Ext w1 w2) {i : VI} {s : OK × Fr} {E : Eff} (h : ef P w1 i s = some E) : ef P w2 i s = some E := by
  cases i <;> simp only [ef] at h ⊢
  case op d o ty =>
    obtain ⟨p, hp, rfl⟩ := Option.map_eq_some_iff.1 h
    obtain ⟨v, w'⟩ := p
    rw [rdW_ext hE hp]; rfl
  all_goals exact h
theorem YD_ext {P : Program} {w1 w2 : World} {Ps : Psi} {K : OK → Fr → World → Prop} (hE : Ext w1 w2) : ∀ (l : List DI) (F : Fact) (s : OK × Fr), YD P w1 Ps K l F s → YD P w2 Ps K l F s := by
  intro l
  induction l with
  | nil => intro F s h w' h1 h2; exact h w' (hE.trans h1) h2
  | cons o l ih =>
    intro F s h
    have h' : stepY P w1 Ps o (YD P w1 Ps K l) F s := h
    rcases stepY_iff.1 h' with ⟨E, hb, hk⟩ | ⟨hp, hx⟩
    · refine stepY_iff.2 (.inl ⟨E, ?_, ih _ _ hk⟩)
      rcases hb with ⟨a, b, c⟩ | hb
      · exact .inl ⟨a, b, ef_ext hE c⟩
      · exact .inr hb
    · refine stepY_iff.2 (.inr ⟨hp, ?_⟩)
      unfold PhY at hx ⊢
      split at hx
      · exact ⟨hx.1, hx.2.1, fun w' h1 h2 => hx.2.2.1 w' (hE.trans h1) h2, fun v ⟨w', q1, q2, q3⟩ => ih _ _ (hx.2.2.2 v ⟨w', hE.trans q1, q2, q3⟩)⟩
      · exact hx.elim
/-- the way in: what each operation that is known by what it hands back hands back, by its number -/
theorem DW_intro {P : Program} {l : List DI} {K : OK → Fr → World → Prop} {f : Fr} {w : World} (Ps : Psi) (h : YD P w Ps K l F0 (ok0, f)) : DW P l K f w := .inl ⟨Ps, YD_ext (Ext.refl w).drew _ _ _ h⟩
def runY (P : Program) (w1 : World) (Ps : Psi) (n : Nat) (deps : List Nat) (i : VI) (k : Fact → OK × Fr → Prop) (F : Fact) (s : OK × Fr) : Prop :=
  if isL i = true then kE k F s (ef P w1 i s) else PhY P w1 Ps ⟨n, deps, none, i⟩ k F s
def GY (P : Program) (w1 : World) (Ps : Psi) (n : Nat) (deps : List Nat) (i : VI) (k : Fact → OK × Fr → Prop) (F : Fact) (ok : OK) (f : Fr) (v : Value) (want : Bool) : Prop := G v want (runY P w1 Ps n deps i k F (ok, f)) (k F (ap (es i) (ok, f)))
def QE (k : Fact → OK × Fr → Prop) (F : Fact) (ok : OK) (f : Fr) (d : Option Nat) (r : Option (Value × World)) : Prop := match r with | some (v, _) => k F (ok, updO f d v) | none => False
def QO1 (k : Fact → OK × Fr → Prop) (F : Fact) (ok : OK) (f : Fr) (d : Option Nat) (v : Value) : Prop := k F (ok, updO f d v)
def DE (w1 : World) (K : OK → Fr → World → Prop) (F : Fact) (ok : OK) (f : Fr) : Prop := ∀ w', Ext w1 w' → FA F w' → K ok f w'
theorem G_wants (f : Fr) (t : Nat) (want : Bool) (A B : Prop) : G (f t) want A B = if wants (some (t, want)) f = true then A else B := by
  have hw : wants (some (t, want)) f = match f t with | .bool b => b == want | _ => false := rfl
  rw [hw]
  clear hw
  unfold G
  cases f t with
  | bool b =>
    by_cases h : b = want
    · subst h; simp
    · simp [h]
  | _ => simp
theorem kE_ite (k : Fact → OK × Fr → Prop) (F : Fact) (s : OK × Fr) (p : Prop) [Decidable p] (r : Option Eff) : kE k F s (if p then r else none) = (p ∧ kE k F s r) := by by_cases h : p <;> simp [h, kE]
section
variable (P : Program) (w1 : World) (Ps : Psi) (K : OK → Fr → World → Prop) (n : Nat) (deps : List Nat) (k : Fact → OK × Fr → Prop) (F : Fact) (ok : OK) (f : Fr) (d : Option Nat) (ty : TypeId)
theorem YD_nil : YD P w1 Ps K [] F (ok, f) = DE w1 K F ok f := rfl
theorem YD_op (i : VI) (l : List DI) : YD P w1 Ps K (⟨n, deps, none, i⟩ :: l) F (ok, f) = runY P w1 Ps n deps i (YD P w1 Ps K l) F (ok, f) := by
  show stepY P w1 Ps _ _ F (ok, f) = _
  simp [stepY, wants, runY, PhY]
theorem YD_gd (t : Nat) (want : Bool) (i : VI) (l : List DI) : YD P w1 Ps K (⟨n, deps, some (t, want), i⟩ :: l) F (ok, f) = GY P w1 Ps n deps i (YD P w1 Ps K l) F ok f (f t) want := by
  unfold GY
  rw [G_wants]
  rfl
theorem GY_tt (i : VI) : GY P w1 Ps n deps i k F ok f (.bool true) true = runY P w1 Ps n deps i k F (ok, f) := by simp [GY, G]
theorem GY_ff (i : VI) : GY P w1 Ps n deps i k F ok f (.bool false) false = runY P w1 Ps n deps i k F (ok, f) := by simp [GY, G]
theorem GY_tf (i : VI) : GY P w1 Ps n deps i k F ok f (.bool true) false = k F (ap (es i) (ok, f)) := by simp [GY, G]
theorem GY_ft (i : VI) : GY P w1 Ps n deps i k F ok f (.bool false) true = k F (ap (es i) (ok, f)) := by simp [GY, G]
theorem GY_un (i : VI) (want : Bool) : GY P w1 Ps n deps i k F ok f undef want = k F (ap (es i) (ok, f)) := rfl
theorem ae_op (o : Op) : ap (es (.op d o ty)) (ok, f) = (ok, updO f d undef) := rfl
theorem ae_part (via : Option Nat) (b off m : Nat) (ag : Bool) : ap (es (.part d via b off m ag)) (ok, f) = (ok, updO f d undef) := rfl
theorem ae_path (e b off : Nat) (via : Option (Nat × Nat)) : ap (es (.path e b off via)) (ok, f) = (oclr ok e, f) := rfl
theorem QE_some (v : Value) (w' : World) : QE k F ok f d (some (v, w')) = k F (ok, updO f d v) := rfl
theorem QE_ite (p : Prop) [Decidable p] (r : Option (Value × World)) : QE k F ok f d (if p then r else none) = (p ∧ QE k F ok f d r) := by by_cases h : p <;> simp [h, QE]
theorem QO1_app (v : Value) : QO1 k F ok f d v = k F (ok, updO f d v) := rfl
theorem QE_eq (r : Option (Value × World)) : kE k F (ok, f) (r.map fun p => Eff.slot d p.1) = QE k F ok f d r := by cases r <;> rfl
theorem rY_move (x : Operand) : runY P w1 Ps n deps (.op d (.move x) ty) k F (ok, f) = k F (ok, updO f d (ev f x)) := rfl
theorem rY_assign (x : Operand) : runY P w1 Ps n deps (.op d (.assign x) ty) k F (ok, f) = k F (ok, updO f d (ev f x)) := rfl
theorem rY_pick (c a b : Operand) : runY P w1 Ps n deps (.op d (.pick c a b) ty) k F (ok, f) = QE k F ok f d (sPick (ev f c) (ev f a) (ev f b) w1) := QE_eq k F ok f d _
theorem rY_build (t : TypeId) (ps : List (Nat × Operand)) : runY P w1 Ps n deps (.op d (.build t ps.toArray) ty) k F (ok, f) = QE k F ok f d (sBuild P t (evs f ps) w1) := QE_eq k F ok f d _
theorem rY_load (t : TypeId) (x : Operand) : runY P w1 Ps n deps (.op d (.load t x) ty) k F (ok, f) = if ty = 999999 then PhY P w1 Ps ⟨n, deps, none, .op d (.load t x) ty⟩ k F (ok, f) else QE k F ok f d (sLoad P t (ev f x) w1) := by
  unfold runY
  by_cases h : ty = 999999
  · rw [if_pos h, if_neg (by simp [isL, h])]
  · rw [if_neg h, if_pos (by simp [isL, h])]
    exact QE_eq k F ok f d _
theorem rY_nilCheck (x : Operand) : runY P w1 Ps n deps (.op d (.nilCheck x) ty) k F (ok, f) = QE k F ok f d (sNil (ev f x) w1) := QE_eq k F ok f d _
theorem rY_bin (o : BinOp) (t t' : TypeId) (x y : Operand) : runY P w1 Ps n deps (.op d (.binOp o t x y t') ty) k F (ok, f) = QE k F ok f d (sBin P o t (ev f x) (ev f y) w1) := QE_eq k F ok f d _
theorem rY_convert (s t : TypeId) (x : Operand) : runY P w1 Ps n deps (.op d (.convert s t x) ty) k F (ok, f) = QE k F ok f d (sConv P s t (ev f x) w1) := QE_eq k F ok f d _
theorem rY_fieldAddr (s : TypeId) (x : Operand) (j : Nat) : runY P w1 Ps n deps (.op d (.fieldAddr s x j) ty) k F (ok, f) = QE k F ok f d (sFieldAddr P s (ev f x) j w1) := QE_eq k F ok f d _
theorem rY_field (s : TypeId) (x : Operand) (j : Nat) : runY P w1 Ps n deps (.op d (.field s x j) ty) k F (ok, f) = QE k F ok f d (sField P s (ev f x) j w1) := QE_eq k F ok f d _
theorem rY_indexAddr (t : TypeId) (x i : Operand) : runY P w1 Ps n deps (.op d (.indexAddr t x i) ty) k F (ok, f) = QE k F ok f d (sIndexAddr P t (ev f x) (ev f i) w1) := QE_eq k F ok f d _
theorem rY_extract (x : Operand) (i : Nat) : runY P w1 Ps n deps (.op d (.extract x i) ty) k F (ok, f) = QE k F ok f d (sExtract (ev f x) i w1) := QE_eq k F ok f d _
theorem rY_not (t : TypeId) (x : Operand) : runY P w1 Ps n deps (.op d (.unOp .not t x) ty) k F (ok, f) = QE k F ok f d (sNot (ev f x) w1) := QE_eq k F ok f d _
theorem rY_slice (t : TypeId) (x : Operand) (lo hi : Option Operand) : runY P w1 Ps n deps (.op d (.slice t x lo hi none) ty) k F (ok, f) = QE k F ok f d (sSlice P t (ev f x) (evo f lo) (evo f hi) w1) := QE_eq k F ok f d _
theorem rY_len (x : Operand) (t : TypeId) : runY P w1 Ps n deps (.op d (.call ⟨.builtin .len, #[x], #[t]⟩) ty) k F (ok, f) = QE k F ok f d (sLen P t (ev f x) w1) := QE_eq k F ok f d _
theorem rY_max (x y : Operand) (ts : Array TypeId) : runY P w1 Ps n deps (.op d (.call ⟨.builtin .max, #[x, y], ts⟩) ty) k F (ok, f) = QE k F ok f d (sMax (ev f x) (ev f y) w1) := QE_eq k F ok f d _
theorem rY_min (x y : Operand) (ts : Array TypeId) : runY P w1 Ps n deps (.op d (.call ⟨.builtin .min, #[x, y], ts⟩) ty) k F (ok, f) = QE k F ok f d (sMin (ev f x) (ev f y) w1) := QE_eq k F ok f d _
theorem rY_path0 (e b off : Nat) : runY P w1 Ps n deps (.path e b off none) k F (ok, f) = (live (f b) = true ∧ k F (oset ok e b off, f)) := by
  show kE k F (ok, f) (ef P w1 (.path e b off none) (ok, f)) = _
  simp only [ef]
  rw [kE_ite, and_assoc]
  show (_ ∧ True ∧ _) = _
  simp only [true_and]
  rfl
theorem rY_path1 (e b off y o : Nat) : runY P w1 Ps n deps (.path e b off (some (y, o))) k F (ok, f) = (live (f b) = true ∧ ok y = some (b, o) ∧ k F (oset ok e b off, f)) := by
  show kE k F (ok, f) (ef P w1 (.path e b off (some (y, o))) (ok, f)) = _
  simp only [ef]
  rw [kE_ite, and_assoc]
  rfl
theorem rY_part0 (b m : Nat) (ag : Bool) : runY P w1 Ps n deps (.part d none b 0 m ag) k F (ok, f) = OB (sPart (f b) 0 m ag) (QO1 k F ok f d) := by
  show kE k F (ok, f) (ef P w1 (.part d none b 0 m ag) (ok, f)) = _
  simp only [ef]
  rw [kE_ite]
  show (0 = 0 ∧ _) = _
  simp only [true_and]
  cases sPart (f b) 0 m ag <;> rfl
theorem rY_part1 (e b off m : Nat) (ag : Bool) : runY P w1 Ps n deps (.part d (some e) b off m ag) k F (ok, f) = (ok e = some (b, off) ∧ OB (sPart (f b) off m ag) (QO1 k F ok f d)) := by
  show kE k F (ok, f) (ef P w1 (.part d (some e) b off m ag) (ok, f)) = _
  simp only [ef]
  rw [kE_ite]
  show (ok e = some (b, off) ∧ _) = _
  congr 1
  cases sPart (f b) off m ag <;> rfl
theorem rY_set (b m : Nat) (x : Operand) : runY P w1 Ps n deps (.set b m x) k F (ok, f) = (live (f b) = true ∧ (live (ev f x) = true ∧ (ev f x).cells.size = m ∧ (ev f x).cells.toList.all one = true) ∧ k F (ok, upd f b (ev f x))) := by
  show kE k F (ok, f) (ef P w1 (.set b m x) (ok, f)) = _
  simp only [ef]
  rw [kE_ite, and_assoc]
  rfl
theorem rY_new (b : Nat) (z : Value) : runY P w1 Ps n deps (.new b z) k F (ok, f) = k F (odel ok b, upd f b z) := rfl
end
section
variable {P : Program} {w1 : World} {Ps : Psi} {K : OK → Fr → World → Prop} {n : Nat} {deps : List Nat} {k : Fact → OK × Fr → Prop} {F : Fact} {ok : OK} {f : Fr} {d : Option Nat} {ty : TypeId}
/-- an operation that is known by what it hands back -/
theorem rY_ph {o : Op} (hl : lightOp o = false) (hs : isSel o = false) (hst : ∀ v, St (Ps n (args o f) v)) (hop : ∀ w', Ext w1 w' → FD F deps w' → opV P o ty f w' fun v w'' => Ext w' w'' ∧ Ps n (args o f) v w'')
    (hk : ∀ v, (∃ w', Ext w1 w' ∧ FA F w' ∧ Ps n (args o f) v w') → k (updF F n (Ps n (args o f) v)) (ok, updO f d v)) : runY P w1 Ps n deps (.op d o ty) k F (ok, f) := by
  unfold runY
  rw [if_neg (by cases o <;> simp_all [isL, lightOp])]
  exact ⟨hs, hst, hop, hk⟩
/-- a marked load -/
theorem rY_phl {t : TypeId} {x : Operand} (hst : ∀ v, St (Ps n (args (.load t x) f) v)) (hop : ∀ w', Ext w1 w' → FD F deps w' → B (sLoad P t (ev f x) w') fun v w'' => Ext w' w'' ∧ Ps n (args (.load t x) f) v w'')
    (hk : ∀ v, (∃ w', Ext w1 w' ∧ FA F w' ∧ Ps n (args (.load t x) f) v w') → k (updF F n (Ps n (args (.load t x) f) v)) (ok, updO f d v)) : PhY P w1 Ps ⟨n, deps, none, .op d (.load t x) ty⟩ k F (ok, f) :=
  ⟨rfl, hst, hop, hk⟩
/-- an addition that may wrap around -/
theorem rV_addw {x y : Operand} {t t' : TypeId} {w : World} {κ : Value → World → Prop} {q : IntKind} {a b : Int} (hx : ev f x = .int q a) (hy : ev f y = .int q b) (h : κ (.int q (q.wrap (a + b))) w) : rawV P (.binOp .add t x y t') ty f w κ := by
  intro T wa hw hT
  unfold raw
  simp only [execOp, run_bind, hx, hy]
  rw [run_eqGuard_int]
  simp only [binOp, Op.intArith, Sem.run, pure, upon]
  simpa using (show upV κ T wa (.int q (q.wrap (a + b))) wa from ⟨T, Kp.refl hT, hw ▸ h⟩)
theorem FA_head {φ : World → Prop} {w : World} (h : FA (updF F n φ) w) : φ w := by have := h n; simpa [updF] using this
theorem St_ext {R : World → Prop} (h : ∀ w w', R w → Ext w w' → R w') : St R := h
theorem GY_d {p : Prop} [Decidable p] {i : VI} {want : Bool} (h1 : decide p = want → runY P w1 Ps n deps i k F (ok, f)) (h2 : decide p = !want → k F (ap (es i) (ok, f))) : GY P w1 Ps n deps i k F ok f (.bool (decide p)) want := G_intro h1 h2
theorem GY_b {t : Bool} {i : VI} {want : Bool} (h1 : t = want → runY P w1 Ps n deps i k F (ok, f)) (h2 : t = !want → k F (ap (es i) (ok, f))) : GY P w1 Ps n deps i k F ok f (.bool t) want := G_intro h1 h2
end
section
variable {P : Program} {l : List VO} {K : Fr → World → Prop} {ok : OK} {f : Fr} {w : World} {i : VI}
theorem YG_d {p : Prop} [Decidable p] {want : Bool} (h1 : decide p = want → vi P i (Y P l K) ok f w) (h2 : decide p = !want → sk i (Y P l K) ok f w) : YG P l K ok f w i (.bool (decide p)) want := G_intro h1 h2
theorem YG_b {t : Bool} {want : Bool} (h1 : t = want → vi P i (Y P l K) ok f w) (h2 : t = !want → sk i (Y P l K) ok f w) : YG P l K ok f w i (.bool t) want := G_intro h1 h2
end
end Go.W
