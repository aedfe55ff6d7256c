/-
  The rewriting rules of the walk; cuts; operations that are met by a run of the model: maps, append.
-/
import Derived.Test.YtblogcihkjhgkaaV8
set_option linter.unusedSimpArgs false
set_option linter.unusedVariables false
set_option linter.defProp false
namespace Go.W
open Go.RowKit
/-! ### monotony, cuts -/
theorem vi_mono {P : Program} {i : VI} {k k' : OK → Fr → World → Prop} (hm : ∀ ok f w, k ok f w → k' ok f w) {ok : OK} {f : Fr} {w : World} (h : vi P i k ok f w) : vi P i k' ok f w := by
  cases i <;> simp only [vi] at h ⊢
  case op d o ty => exact opV_mono (fun v w' hk => hm _ _ _ hk) h
  case path => exact ⟨h.1, h.2.1, hm _ _ _ h.2.2⟩
  case part => refine ⟨h.1, ?_⟩; have := h.2; unfold OB at *; split at this <;> first | exact hm _ _ _ this | exact this.elim
  case put => refine ⟨h.1, ?_⟩; have := h.2; unfold OB at *; split at this <;> first | exact hm _ _ _ this | exact this.elim
  case set => exact ⟨h.1, h.2.1, hm _ _ _ h.2.2⟩
  case new => exact hm _ _ _ h
  case box => exact ⟨h.1, hm _ _ _ h.2⟩
theorem sk_mono {i : VI} {k k' : OK → Fr → World → Prop} (hm : ∀ ok f w, k ok f w → k' ok f w) {ok : OK} {f : Fr} {w : World} (h : sk i k ok f w) : sk i k' ok f w := by
  cases i <;> exact hm _ _ _ h
theorem Y_mono {P : Program} {K K' : Fr → World → Prop} (hm : ∀ f w, K f w → K' f w) : ∀ (l : List VO) (ok : OK) (f : Fr) (w : World), Y P l K ok f w → Y P l K' ok f w := by
  intro l
  induction l with
  | nil => intro ok f w h; exact hm _ _ h
  | cons o l ih =>
    intro ok f w h
    rw [Y_cons] at h ⊢
    cases hg : o.g with
    | none => rw [hg] at h; exact vi_mono ih h
    | some p => obtain ⟨t, want⟩ := p; rw [hg] at h; exact G_mono (vi_mono ih) (sk_mono ih) h
theorem YD_mono {P : Program} {w1 : World} {Ps : Psi} {K K' : OK → Fr → World → Prop} (hm : ∀ ok f w, K ok f w → K' ok f w) : ∀ (l : List DI) (F : Fact) (s : OK × Fr), YD P w1 Ps K l F s → YD P w1 Ps K' l F s := by
  intro l
  induction l with
  | nil => intro F s h w' h1 h2; exact hm _ _ _ (h w' h1 h2)
  | cons o l ih => intro F s h; exact stepY_mono (k := YD P w1 Ps K l) ih h
theorem DW_mono {P : Program} {l : List DI} {K K' : OK → Fr → World → Prop} (hm : ∀ ok f w, K ok f w → K' ok f w) {f : Fr} {w : World} (h : DW P l K f w) : DW P l K' f w := match h with | .inl ⟨Ps, h⟩ => .inl ⟨Ps, YD_mono hm _ _ _ h⟩ | .inr ⟨I, h1, h2, h3⟩ => .inr ⟨I, h1, h2, fun L ok f w hd hI => hm _ _ _ (h3 L ok f w hd hI)⟩
theorem VW_mono {P : Program} : ∀ (c : VC) {Q Q' : Exit → Fr → World → Prop}, (∀ e f w, Q e f w → Q' e f w) → ∀ (f : Fr) (w : World), VW P c Q f w → VW P c Q' f w := by
  intro c
  induction c with
  | skip => intro Q Q' hm f w h; exact hm _ _ _ h
  | exit id => intro Q Q' hm f w h; exact hm _ _ _ h
  | ret => intro Q Q' hm f w h; exact hm _ _ _ h
  | reg l => intro Q Q' hm f w h; exact Y_mono (fun f w => hm _ f w) _ _ _ _ h
  | draw l t => intro Q Q' hm f w h; exact DW_mono (fun ok f w => Y_mono (fun f w => hm _ f w) _ _ _ _) h
  | seq a b iha ihb =>
    intro Q Q' hm f w h
    refine iha ?_ f w h
    intro e f w hq
    cases e with
    | normal => exact ihb hm f w hq
    | _ => exact hm _ _ _ hq
  | cond c a b iha ihb =>
    intro Q Q' hm f w h
    simp only [VW, condP] at h ⊢
    split at h
    · exact ⟨fun e => iha hm f w (h.1 e), fun e => ihb hm f w (h.2 e)⟩
    · exact h.elim
  | block id b ih => intro Q Q' hm f w h; exact ih (inBlk_sub hm) f w h
  | loop b ih =>
    intro Q Q' hm f w h
    obtain ⟨α, I, μ, x0, h0, hr⟩ := h
    refine ⟨α, I, μ, x0, h0, fun x f w hI => ih ?_ f w (hr x f w hI)⟩
    intro e f w hq
    cases e with
    | normal => exact hq
    | _ => exact hm _ _ _ hq
def cndV (P : Program) (a b : VC) (Q : Exit → Fr → World → Prop) (f : Fr) (w : World) (v : Value) : Prop := condP v (VW P a Q f w) (VW P b Q f w)
section
variable {P : Program} {next : Fr → World → Prop} {Q : Exit → Fr → World → Prop} {f : Fr} {w : World}
theorem cnd_d {p : Prop} [Decidable p] {a b : VC} (h1 : p → VW P a Q f w) (h2 : ¬ p → VW P b Q f w) : cndV P a b Q f w (.bool (decide p)) := condP_dec h1 h2
theorem cnd_b {t : Bool} {a b : VC} (h1 : t = true → VW P a Q f w) (h2 : t = false → VW P b Q f w) : cndV P a b Q f w (.bool t) := ⟨h1, h2⟩
/-- a test whose ways meet again -/
theorem cnd_c (J : Fr → World → Prop) {a b : VC} {v : Value} (h : cndV P a b (thenQ J Q) f w v) (hJ : ∀ f w, J f w → next f w) : cndV P a b (thenQ next Q) f w v := by
  unfold cndV condP at *
  split at h
  · exact ⟨fun e => VW_mono a (thenQ_sub hJ) f w (h.1 e), fun e => VW_mono b (thenQ_sub hJ) f w (h.2 e)⟩
  · exact h.elim
theorem cnd_cB (J : Fr → World → Prop) {id : Nat} {a b : VC} {v : Value} (h : cndV P a b (inBlk id (thenQ J Q)) f w v) (hJ : ∀ f w, J f w → next f w) : cndV P a b (inBlk id (thenQ next Q)) f w v := by
  unfold cndV condP at *
  split at h
  · exact ⟨fun e => VW_mono a (inBlk_sub (thenQ_sub hJ)) f w (h.1 e), fun e => VW_mono b (inBlk_sub (thenQ_sub hJ)) f w (h.2 e)⟩
  · exact h.elim
theorem VW_c (J : Fr → World → Prop) {c : VC} (h : VW P c (thenQ J Q) f w) (hJ : ∀ f w, J f w → next f w) : VW P c (thenQ next Q) f w := VW_mono c (thenQ_sub hJ) f w h
theorem loop_c (J : Fr → World → Prop) {c : VC} (h : LoopP (VW P c) (thenQ J Q) f w) (hJ : ∀ f w, J f w → next f w) : LoopP (VW P c) (thenQ next Q) f w := VW_mono (.loop c) (thenQ_sub hJ) f w h
theorem loop_cB (J : Fr → World → Prop) {id : Nat} {c : VC} (h : LoopP (VW P c) (inBlk id (thenQ J Q)) f w) (hJ : ∀ f w, J f w → next f w) : LoopP (VW P c) (inBlk id (thenQ next Q)) f w :=
  VW_mono (.loop c) (inBlk_sub (thenQ_sub hJ)) f w h
theorem reg_c (J : Fr → World → Prop) {l : List VO} {ok : OK} (h : Y P l J ok f w) (hJ : ∀ f w, J f w → next f w) : Y P l next ok f w := Y_mono hJ _ _ _ _ h
end
/-! ### rules -/
def YG (P : Program) (l : List VO) (K : Fr → World → Prop) (ok : OK) (f : Fr) (w : World) (i : VI) (v : Value) (want : Bool) : Prop := G v want (vi P i (Y P l K) ok f w) (sk i (Y P l K) ok f w)
section
variable (P : Program) (Q : Exit → Fr → World → Prop) (f : Fr) (w : World) (k : OK → Fr → World → Prop) (ok : OK) (l : List VO) (K : Fr → World → Prop)
theorem VW_skip : VW P .skip Q f w = Q .normal f w := rfl
theorem VW_exit (id : Nat) : VW P (.exit id) Q f w = Q (.exit id) f w := rfl
theorem VW_ret : VW P .ret Q f w = Q .ret f w := rfl
theorem VW_reg : VW P (.reg l) Q f w = Y P l (Q .normal) ok0 f w := rfl
theorem VW_draw (d : List DI) : VW P (.draw d l) Q f w = DW P d (Y P l (Q .normal)) f w := rfl
theorem VW_seq (a b : VC) : VW P (.seq a b) Q f w = VW P a (thenQ (VW P b Q) Q) f w := rfl
theorem VW_cond (c : Operand) (a b : VC) : VW P (.cond c a b) Q f w = cndV P a b Q f w (ev f c) := rfl
theorem VW_block (id : Nat) (b : VC) : VW P (.block id b) Q f w = VW P b (inBlk id Q) f w := rfl
theorem VW_loop (b : VC) : VW P (.loop b) Q f w = LoopP (VW P b) Q f w := rfl
theorem cndV_true (a b : VC) : cndV P a b Q f w (.bool true) = VW P a Q f w := by simp [cndV, condP]
theorem cndV_false (a b : VC) : cndV P a b Q f w (.bool false) = VW P b Q f w := by simp [cndV, condP]
theorem Y_nil : Y P [] K ok f w = K f w := rfl
theorem Y_op (i : VI) : Y P (⟨none, i⟩ :: l) K ok f w = vi P i (Y P l K) ok f w := rfl
theorem Y_gd (t : Nat) (want : Bool) (i : VI) : Y P (⟨some (t, want), i⟩ :: l) K ok f w = YG P l K ok f w i (f t) want := rfl
theorem YG_tt (i : VI) : YG P l K ok f w i (.bool true) true = vi P i (Y P l K) ok f w := by simp [YG, G]
theorem YG_ff (i : VI) : YG P l K ok f w i (.bool false) false = vi P i (Y P l K) ok f w := by simp [YG, G]
theorem YG_tf (i : VI) : YG P l K ok f w i (.bool true) false = sk i (Y P l K) ok f w := by simp [YG, G]
theorem YG_ft (i : VI) : YG P l K ok f w i (.bool false) true = sk i (Y P l K) ok f w := by simp [YG, G]
theorem YG_un (i : VI) (want : Bool) : YG P l K ok f w i undef want = sk i (Y P l K) ok f w := rfl
theorem sk_op (d : Option Nat) (o : Op) (ty : TypeId) : sk (.op d o ty) k ok f w = k ok (updO f d undef) w := rfl
theorem sk_part (d via : Option Nat) (b off n : Nat) (ag : Bool) : sk (.part d via b off n ag) k ok f w = k ok (updO f d undef) w := rfl
theorem sk_path (e b off : Nat) (via : Option (Nat × Nat)) : sk (.path e b off via) k ok f w = k (oclr ok e) f w := rfl
theorem sk_put (via b off n : Nat) (x : Operand) : sk (.put via b off n x) k ok f w = k ok f w := rfl
theorem sk_set (b n : Nat) (x : Operand) : sk (.set b n x) k ok f w = k ok f w := rfl
theorem vi_op (d : Option Nat) (o : Op) (ty : TypeId) : vi P (.op d o ty) k ok f w = opV P o ty f w (kk k ok f d) := rfl
theorem vi_path0 (e b off : Nat) : vi P (.path e b off none) k ok f w = (live (f b) = true ∧ k (oset ok e b off) f w) := by simp [vi]
theorem vi_path1 (e b off y o : Nat) : vi P (.path e b off (some (y, o))) k ok f w = (live (f b) = true ∧ ok y = some (b, o) ∧ k (oset ok e b off) f w) := rfl
theorem vi_part0 (d : Option Nat) (b n : Nat) (ag : Bool) : vi P (.part d none b 0 n ag) k ok f w = OB (sPart (f b) 0 n ag) (kv k ok f d w) := by simp [vi, vok]
theorem vi_part1 (d : Option Nat) (e b off n : Nat) (ag : Bool) : vi P (.part d (some e) b off n ag) k ok f w = (ok e = some (b, off) ∧ OB (sPart (f b) off n ag) (kv k ok f d w)) := rfl
theorem vi_put (e b off n : Nat) (x : Operand) : vi P (.put e b off n x) k ok f w = (ok e = some (b, off) ∧ OB (sPut (f b) off n (ev f x)) (kv k ok f (some b) w)) := rfl
theorem vi_set (b n : Nat) (x : Operand) : vi P (.set b n x) k ok f w = (live (f b) = true ∧ (live (ev f x) = true ∧ (ev f x).cells.size = n ∧ (ev f x).cells.toList.all one = true) ∧ k ok (upd f b (ev f x)) w) := rfl
theorem vi_new (b : Nat) (z : Value) : vi P (.new b z) k ok f w = k (odel ok b) (upd f b z) (w.alloc tomb) := rfl
theorem vi_box (b n : Nat) (x : Operand) : vi P (.box b n x) k ok f w = ((live (ev f x) = true ∧ (ev f x).cells.size = n) ∧ k (odel ok b) (upd f b (ev f x)) (w.alloc tomb)) := rfl
theorem OB_some (v : Value) (κ : Value → Prop) : OB (some v) κ = κ v := rfl
theorem OB_ite (p : Prop) [Decidable p] (r : Option Value) (κ : Value → Prop) : OB (if p then r else none) κ = (p ∧ OB r κ) := by by_cases h : p <;> simp [h, OB]
theorem kk_app (d : Option Nat) (v : Value) : kk k ok f d v w = k ok (updO f d v) w := rfl
theorem kv_app (d : Option Nat) (v : Value) : kv k ok f d w v = k ok (updO f d v) w := rfl
theorem live_agg (cs : Array Value) : live (.agg cs) = true := rfl
theorem live_int (q : IntKind) (n : Int) : live (.int q n) = true := rfl
theorem live_bool (b : Bool) : live (.bool b) = true := rfl
theorem live_slice (a : Option Addr) (n c : Nat) : live (.slice a n c) = true := rfl
theorem live_map (a : Option Nat) : live (.map a) = true := rfl
theorem live_ptr (a : Option Addr) : live (.pointer a) = true := rfl
theorem live_func (fn : Fn) (a b : Array Value) : live (.func fn a b) = true := rfl
theorem live_nilFunc : live .nilFunc = true := rfl
theorem sPart_t (cs : List Value) (off n : Nat) : sPart (.agg cs.toArray) off n true = if off + n ≤ cs.length then some (.agg ((cs.drop off).take n).toArray) else none := by
  simp only [sPart, live, if_true, Value.cells, List.size_toArray]; split <;> simp [List.extract_eq_take_drop]
theorem sPart_f (cs : List Value) (off n : Nat) : sPart (.agg cs.toArray) off n false = cs[off]? := by simp [sPart, live, Value.cells]
theorem sPart_int (q : IntKind) (m : Int) (n : Nat) : sPart (.int q m) 0 n false = some (.int q m) := rfl
theorem sPart_bool (b : Bool) (n : Nat) : sPart (.bool b) 0 n false = some (.bool b) := rfl
theorem sPart_slice (a : Option Addr) (m c : Nat) (n : Nat) : sPart (.slice a m c) 0 n false = some (.slice a m c) := rfl
theorem sPart_ptr (a : Option Addr) (n : Nat) : sPart (.pointer a) 0 n false = some (.pointer a) := rfl
theorem sPart_map (a : Option Nat) (n : Nat) : sPart (.map a) 0 n false = some (.map a) := rfl
theorem sPut_a (cs : List Value) (off n : Nat) (x : Value) : sPut (.agg cs.toArray) off n x = if x.cells.size = n ∧ off + n ≤ cs.length ∧ x.cells.toList.all one = true ∧ 0 < n then some (.agg (spl cs.toArray off x.cells.toList)) else none := by simp [sPut]
theorem oset_app (e b off t : Nat) : oset ok e b off t = if t = e then some (b, off) else ok t := rfl
theorem oclr_app (e t : Nat) : oclr ok e t = if t = e then none else ok t := rfl
theorem odel_ok0 (b : Nat) : odel ok0 b = ok0 := rfl
theorem oclr_ok0 (e : Nat) : oclr ok0 e = ok0 := by funext t; simp [oclr, ok0]
theorem odel_app (b t : Nat) : odel ok b t = (ok t).bind fun p => if p.1 = b then none else some p := rfl
theorem eqp (a b c d : Nat) : (some (a, b) = some (c, d)) = (a = c ∧ b = d) := by simp
theorem bind_p (p : Nat × Nat) (g : Nat × Nat → Option (Nat × Nat)) : (some p).bind g = g p := rfl
end
/-! ### the operations, what follows behind a name -/
section
variable (P : Program) (f : Fr) (w : World) (ty : TypeId) (κ : Value → World → Prop)
theorem oV_move (x : Operand) : opV P (.move x) ty f w κ = κ (ev f x) w := rfl
theorem oV_assign (x : Operand) : opV P (.assign x) ty f w κ = κ (ev f x) w := rfl
theorem oV_pick (c a b : Operand) : opV P (.pick c a b) ty f w κ = B (sPick (ev f c) (ev f a) (ev f b) w) κ := rfl
theorem oV_alloc (t : TypeId) : opV P (.alloc t) ty f w κ = B (sAlloc P t w) κ := rfl
theorem oV_box (t : TypeId) (x : Operand) : opV P (.box t x) ty f w κ = B (sBox t (ev f x) w) κ := rfl
theorem oV_build (t : TypeId) (ps : List (Nat × Operand)) : opV P (.build t ps.toArray) ty f w κ = B (sBuild P t (evs f ps) w) κ := rfl
theorem oV_buildSlice (t : TypeId) (n : Nat) (ps : List (Nat × Operand)) : opV P (.buildSlice t n ps.toArray) ty f w κ = (sBuildSliceOk P t = true ∧ B (sBuildSlice P t n (evs f ps) w) κ) := rfl
theorem oV_load (t : TypeId) (x : Operand) : opV P (.load t x) ty f w κ = B (sLoad P t (ev f x) w) κ := rfl
theorem oV_store (t : TypeId) (x v : Operand) : opV P (.store t x v) ty f w κ = B (sStore P t (ev f x) (ev f v) w) κ := rfl
theorem oV_nilCheck (x : Operand) : opV P (.nilCheck x) ty f w κ = B (sNil (ev f x) w) κ := rfl
theorem oV_bin (o : BinOp) (t t' : TypeId) (x y : Operand) : opV P (.binOp o t x y t') ty f w κ = if ty = 999999 then rawV P (.binOp o t x y t') ty f w κ else B (sBin P o t (ev f x) (ev f y) w) κ := rfl
theorem oV_convert (s t : TypeId) (x : Operand) : opV P (.convert s t x) ty f w κ = B (sConv P s t (ev f x) w) κ := rfl
theorem oV_fieldAddr (s : TypeId) (x : Operand) (k : Nat) : opV P (.fieldAddr s x k) ty f w κ = B (sFieldAddr P s (ev f x) k w) κ := rfl
theorem oV_field (s : TypeId) (x : Operand) (k : Nat) : opV P (.field s x k) ty f w κ = B (sField P s (ev f x) k w) κ := rfl
theorem oV_indexAddr (t : TypeId) (x i : Operand) : opV P (.indexAddr t x i) ty f w κ = B (sIndexAddr P t (ev f x) (ev f i) w) κ := rfl
theorem oV_extract (x : Operand) (i : Nat) : opV P (.extract x i) ty f w κ = B (sExtract (ev f x) i w) κ := rfl
theorem oV_not (t : TypeId) (x : Operand) : opV P (.unOp .not t x) ty f w κ = B (sNot (ev f x) w) κ := rfl
theorem oV_makeMap (t : TypeId) : opV P (.makeMap t none) ty f w κ = B (sMakeMap w) κ := rfl
theorem oV_makeSlice (t : TypeId) (l c : Operand) : opV P (.makeSlice t l c) ty f w κ = B (sMakeSlice P t (ev f l) (ev f c) w) κ := rfl
theorem oV_slice (t : TypeId) (x : Operand) (lo hi : Option Operand) : opV P (.slice t x lo hi none) ty f w κ = B (sSlice P t (ev f x) (evo f lo) (evo f hi) w) κ := rfl
theorem oV_len (x : Operand) (t : TypeId) : opV P (.call ⟨.builtin .len, #[x], #[t]⟩) ty f w κ = B (sLen P t (ev f x) w) κ := rfl
theorem oV_max (x y : Operand) (ts : Array TypeId) : opV P (.call ⟨.builtin .max, #[x, y], ts⟩) ty f w κ = B (sMax (ev f x) (ev f y) w) κ := rfl
theorem oV_min (x y : Operand) (ts : Array TypeId) : opV P (.call ⟨.builtin .min, #[x, y], ts⟩) ty f w κ = B (sMin (ev f x) (ev f y) w) κ := rfl
theorem oV_func (g : Nat) (as : List Operand) (ts : Array TypeId) : opV P (.call ⟨.value (.func g), as.toArray, ts⟩) ty f w κ = VRet P g (evl f as).toArray w κ := by
  simp only [opV, callV, List.map_toArray, evl]
/-- an operation that is met by a run of the model -/
def RunV (P : Program) (w : World) (κ : Value → World → Prop) (s : Sem Value) : Prop := ∀ T wa, w = tombW T wa → TB T wa → match s.run P wa with | .ok v wa' => upV κ T wa v wa' | .halt _ _ => False
def RunU (P : Program) (w : World) (κ : Value → World → Prop) (s : Sem Unit) : Prop := ∀ T wa, w = tombW T wa → TB T wa → match s.run P wa with | .ok _ wa' => upV κ T wa undef wa' | .halt _ _ => False
theorem oV_lookup (t : TypeId) (x i : Operand) (ok : Bool) : opV P (.lookup t x i ok) ty f w κ = RunV P w κ (Instr.lookup t (ev f x) (ev f i) ok) := by
  exact forall_congr fun T => forall_congr fun wa => forall_congr fun _ => forall_congr fun _ => raw_XV _
theorem oV_range (t : TypeId) (x : Operand) : opV P (.range t x) ty f w κ = RunV P w κ (Instr.range t (ev f x)) := by
  exact forall_congr fun T => forall_congr fun wa => forall_congr fun _ => forall_congr fun _ => raw_XV _
theorem oV_next (x : Operand) (s : Bool) : opV P (.next x s) ty f w κ = RunV P w κ (Instr.next (ev f x) s ty) := by
  exact forall_congr fun T => forall_congr fun wa => forall_congr fun _ => forall_congr fun _ => raw_XV _
theorem oV_entry (x : Operand) : opV P (.entry x) ty f w κ = RunV P w κ (Instr.entry (ev f x)) := by
  exact forall_congr fun T => forall_congr fun wa => forall_congr fun _ => forall_congr fun _ => raw_XV _
theorem oV_mapUpdate (t : TypeId) (m k v : Operand) : opV P (.mapUpdate t m k v) ty f w κ = RunU P w κ (Instr.mapUpdate t (ev f m) (ev f k) (ev f v)) := by
  exact forall_congr fun T => forall_congr fun wa => forall_congr fun _ => forall_congr fun _ => raw_XU _
theorem oV_append (s x : Operand) (ts : Array TypeId) : opV P (.call ⟨.builtin .append, #[s, x], ts⟩) ty f w κ = RunV P w κ (Builtin.append_ ts ty #[ev f s, ev f x]) := by
  refine forall_congr fun T => forall_congr fun wa => forall_congr fun _ => forall_congr fun _ => Eq.trans ?_ (raw_XV (P := P) (K := upV κ T wa) (w := wa) (Builtin.append_ ts ty #[ev f s, ev f x]))
  simp only [raw, execOp, resolve, invoke, builtin, run_bind, Sem.run, pure, List.map_toArray, List.map_cons, List.map_nil]
theorem oV_delete (s x : Operand) (ts : Array TypeId) : opV P (.call ⟨.builtin .delete, #[s, x], ts⟩) ty f w κ = RunV P w κ (Builtin.delete_ ts ty #[ev f s, ev f x]) := by
  refine forall_congr fun T => forall_congr fun wa => forall_congr fun _ => forall_congr fun _ => Eq.trans ?_ (raw_XV (P := P) (K := upV κ T wa) (w := wa) (Builtin.delete_ ts ty #[ev f s, ev f x]))
  simp only [raw, execOp, resolve, invoke, builtin, run_bind, Sem.run, pure, List.map_toArray, List.map_cons, List.map_nil]
theorem oV_copy (s x : Operand) (ts : Array TypeId) : opV P (.call ⟨.builtin .copy, #[s, x], ts⟩) ty f w κ = RunV P w κ (Builtin.copy_ ts ty #[ev f s, ev f x]) := by
  refine forall_congr fun T => forall_congr fun wa => forall_congr fun _ => forall_congr fun _ => Eq.trans ?_ (raw_XV (P := P) (K := upV κ T wa) (w := wa) (Builtin.copy_ ts ty #[ev f s, ev f x]))
  simp only [raw, execOp, resolve, invoke, builtin, run_bind, Sem.run, pure, List.map_toArray, List.map_cons, List.map_nil]
end
/-! ### results -/
section
variable (P : Program) (Ψ : Value → World → Prop) (f : Fr) (w : World)
def RO (r : Option Value) (k : Value → Prop) : Prop := OB r k
theorem fV_0 : finV P [] Ψ .ret f w = Ψ (.tuple #[]) w := rfl
theorem fV_0n : finV P [] Ψ .normal f w = Ψ (.tuple #[]) w := rfl
theorem fV_t (a : Nat) : finV P [.tmp a] Ψ .ret f w = Ψ (f a) w := rfl
theorem fV_tn (a : Nat) : finV P [.tmp a] Ψ .normal f w = Ψ (f a) w := rfl
def K1 (Ψ : Value → World → Prop) (w : World) (v : Value) : Prop := Ψ v w
theorem K1_app (v : Value) : K1 Ψ w v = Ψ v w := rfl
theorem fV_b (a n : Nat) (ag : Bool) : finV P [.box a n ag] Ψ .ret f w = OB (sPart (f a) 0 n ag) (K1 Ψ w) := rfl
theorem fV_tt (a b : Nat) : finV P [.tmp a, .tmp b] Ψ .ret f w = Ψ (.tuple #[f a, f b]) w := rfl
def K2 (Ψ : Value → World → Prop) (w : World) (u v : Value) : Prop := Ψ (.tuple #[u, v]) w
theorem K2_app (u v : Value) : K2 Ψ w u v = Ψ (.tuple #[u, v]) w := rfl
def K2b (Ψ : Value → World → Prop) (w : World) (r : Option Value) (u : Value) : Prop := OB r (K2 Ψ w u)
theorem K2b_app (r : Option Value) (u : Value) : K2b Ψ w r u = OB r (K2 Ψ w u) := rfl
def K2t (Ψ : Value → World → Prop) (w : World) (v u : Value) : Prop := Ψ (.tuple #[u, v]) w
theorem K2t_app (v u : Value) : K2t Ψ w v u = Ψ (.tuple #[u, v]) w := rfl
theorem fV_bt (a n b : Nat) (ag : Bool) : finV P [.box a n ag, .tmp b] Ψ .ret f w = OB (sPart (f a) 0 n ag) (K2t Ψ w (f b)) := rfl
theorem fV_bb (a n b m : Nat) (ag bg : Bool) : finV P [.box a n ag, .box b m bg] Ψ .ret f w = OB (sPart (f a) 0 n ag) (K2b Ψ w (sPart (f b) 0 m bg)) := rfl
theorem fV_ttt (a b c : Nat) : finV P [.tmp a, .tmp b, .tmp c] Ψ .ret f w = Ψ (.tuple #[f a, f b, f c]) w := rfl
def K3b (Ψ : Value → World → Prop) (w : World) (r : Option Value) (x u : Value) : Prop := OB r fun v => Ψ (.tuple #[u, v, x]) w
end
end Go.W
