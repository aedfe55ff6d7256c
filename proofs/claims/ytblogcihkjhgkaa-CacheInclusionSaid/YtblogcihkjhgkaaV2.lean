/-
  The operations over veiled worlds; the variables of a call that live in cells of their own are kept in the frame (boxes); a run of operations.
-/
import Derived.Test.YtblogcihkjhgkaaV1
set_option linter.unusedSimpArgs false
set_option linter.unusedVariables false
namespace Go.W
def upV (K : Value → World → Prop) (T : Nat → Bool) (wa : World) (v : Value) (wa' : World) : Prop := ∃ T', Kp T wa T' wa' ∧ K v (tombW T' wa')
def rawV (P : Program) (op : Op) (ty : TypeId) (f : Fr) (w : World) (K : Value → World → Prop) : Prop := ∀ T wa, w = tombW T wa → TB T wa → raw P op ty f wa (upV K T wa)
/-- the call returns, in every world of which this is the image; or the function has no body and the model's own entry runs -/
def VRet (P : Program) (g : Nat) (args : Array Value) (w : World) (Φ : Value → World → Prop) : Prop :=
  (enters P g = true ∧ ∀ T wa, w = tombW T wa → TB T wa → Ret P g args wa (upV Φ T wa)) ∨
    ∀ T wa, w = tombW T wa → TB T wa → ∀ (as : Array Operand) (ts : Array TypeId) (ty : TypeId) (f : Fr), as.map (ev f) = args → raw P (.call ⟨.value (.func g), as, ts⟩) ty f wa (upV Φ T wa)
theorem upV.mono {K K' : Value → World → Prop} (hm : ∀ v w, K v w → K' v w) {T : Nat → Bool} {wa : World} {v : Value} {wa' : World} (h : upV K T wa v wa') : upV K' T wa v wa' :=
  let ⟨T', h1, h2⟩ := h; ⟨T', h1, hm _ _ h2⟩
theorem rawV_mono {P : Program} {op : Op} {ty : TypeId} {f : Fr} {w : World} {K K' : Value → World → Prop} (hm : ∀ v w, K v w → K' v w) (h : rawV P op ty f w K) : rawV P op ty f w K' :=
  fun T wa h1 h2 => raw_mono (fun _ _ => upV.mono hm) (h T wa h1 h2)
theorem VRet.mono {P : Program} {g : Nat} {args : Array Value} {w : World} {Φ Ψ : Value → World → Prop} (h : VRet P g args w Φ) (hm : ∀ v w', Φ v w' → Ψ v w') : VRet P g args w Ψ :=
  match h with
  | .inl h => .inl ⟨h.1, fun T wa h1 h2 => (h.2 T wa h1 h2).mono fun _ _ => upV.mono hm⟩
  | .inr h => .inr fun T wa h1 h2 as ts ty f ha => raw_mono (fun _ _ => upV.mono hm) (h T wa h1 h2 as ts ty f ha)
/-- a plain call with no hidden cells -/
theorem VRet.ret {P : Program} {g : Nat} {args : Array Value} {w : World} {Φ : Value → World → Prop} (hen : enters P g = true) (h : VRet P g args w Φ) :
    Ret P g args w fun v w' => ∃ T', (∀ b, b < w.heap.size → T' b = false) ∧ TB T' w' ∧ w.heap.size ≤ w'.heap.size ∧ Φ v (tombW T' w') := by
  have hk : ∀ v w', upV Φ (fun _ => false) w v w' → ∃ T', (∀ b, b < w.heap.size → T' b = false) ∧ TB T' w' ∧ w.heap.size ≤ w'.heap.size ∧ Φ v (tombW T' w') := fun v w' ⟨T', hk, hp⟩ => ⟨T', hk.old, hk.tb, hk.size, hp⟩
  rcases h with h | h
  · exact (h.2 (fun _ => false) w (tombW_none w).symm (fun _ _ => rfl)).mono hk
  · have h1 := h (fun _ => false) w (tombW_none w).symm (fun _ _ => rfl) (args.map .const) #[] 0 (fun _ => undef) (by
      rw [Array.map_map]; exact (Array.map_congr_left (fun _ _ => rfl)).trans (Array.map_id _))
    have e : (invoke (.fn (.func g) #[]) ((args.map Operand.const).map (ev fun _ => undef))).run P w = .ok (.enter g ((args.map Operand.const).map (ev fun _ => undef))) w := by
      simp [invoke, run_callFunc hen]
    simp only [raw, execOp, resolve, ev, Deferred.ofValue, run_bind, Sem.run, pure, Array.empty_append, e, upon] at h1
    have ea : (args.map Operand.const).map (ev fun _ => undef) = args := by rw [Array.map_map]; exact (Array.map_congr_left (fun _ _ => rfl)).trans (Array.map_id _)
    rw [ea] at h1
    exact ⟨hen, h1.mono fun _ _ ⟨v, e, hv⟩ => ⟨v, e, hk _ _ hv⟩⟩
def callV (P : Program) (c : Call) (ty : TypeId) (f : Fr) (w : World) (K : Value → World → Prop) : Prop :=
  match c with
  | ⟨.builtin b, as, ts⟩ => match b, as.toList, ts.toList with
    | .len, [x], [t] => B (sLen P t (ev f x) w) K
    | .max, [x, y], _ => B (sMax (ev f x) (ev f y) w) K
    | .min, [x, y], _ => B (sMin (ev f x) (ev f y) w) K
    | _, _, _ => rawV P (.call c) ty f w K
  | ⟨.value (.func g), as, _⟩ => VRet P g (as.map (ev f)) w K
  | c => rawV P (.call c) ty f w K
def opV (P : Program) (op : Op) (ty : TypeId) (f : Fr) (w : World) (K : Value → World → Prop) : Prop :=
  match op with
  | .move x => K (ev f x) w
  | .assign x => K (ev f x) w
  | .pick c a b => B (sPick (ev f c) (ev f a) (ev f b) w) K
  | .alloc t => B (sAlloc P t w) K
  | .box t x => B (sBox t (ev f x) w) K
  | .build t ps => B (sBuild P t (ps.toList.map fun p => (p.1, ev f p.2)) w) K
  | .buildSlice t n ps => sBuildSliceOk P t = true ∧ B (sBuildSlice P t n (ps.toList.map fun p => (p.1, ev f p.2)) w) K
  | .load t x => B (sLoad P t (ev f x) w) K
  | .store t x v => B (sStore P t (ev f x) (ev f v) w) K
  | .nilCheck x => B (sNil (ev f x) w) K
  | .binOp o t x y t' => if ty = 999999 then rawV P (.binOp o t x y t') ty f w K else B (sBin P o t (ev f x) (ev f y) w) K
  | .convert s t x => B (sConv P s t (ev f x) w) K
  | .fieldAddr s x k => B (sFieldAddr P s (ev f x) k w) K
  | .field s x k => B (sField P s (ev f x) k w) K
  | .indexAddr t x i => B (sIndexAddr P t (ev f x) (ev f i) w) K
  | .extract x i => B (sExtract (ev f x) i w) K
  | .unOp .not _ x => B (sNot (ev f x) w) K
  | .makeMap _ none => B (sMakeMap w) K
  | .makeSlice t l c => B (sMakeSlice P t (ev f l) (ev f c) w) K
  | .slice t x lo hi none => B (sSlice P t (ev f x) (lo.map (ev f)) (hi.map (ev f)) w) K
  | .call c => callV P c ty f w K
  | op => rawV P op ty f w K
theorem B_up {r : World → Option (Value × World)} (hr : Tr r) {T : Nat → Bool} {wa : World} (hT : TB T wa) {K : Value → World → Prop} (h : B (r (tombW T wa)) K) : B (r wa) (upV K T wa) := by
  unfold B at h
  split at h
  · rename_i v w' hs
    obtain ⟨w1, h1, rfl, hk⟩ := hr T wa v w' hT hs
    rw [h1]
    exact ⟨T, hk, h⟩
  · exact h.elim
theorem callV_sound {P : Program} {c : Call} {ty : TypeId} {f : Fr} {T : Nat → Bool} {wa : World} (hT : TB T wa) {K : Value → World → Prop} (h : callV P c ty f (tombW T wa) K) : raw P (.call c) ty f wa (upV K T wa) := by
  unfold callV at h
  split at h
  · rename_i b as ts
    split at h
    · rename_i x t h1 h2
      obtain rfl : as = #[x] := by apply Array.ext'; simpa using h1
      obtain rfl : ts = #[t] := by apply Array.ext'; simpa using h2
      exact sLen_sound (B_up (Tr_sLen P _ _) hT h)
    · rename_i x y h1
      obtain rfl : as = #[x, y] := by apply Array.ext'; simpa using h1
      exact sMax_sound (B_up (Tr_rdW P (.call ⟨.builtin .max, #[x, y], ts⟩) f) hT h)
    · rename_i x y h1
      obtain rfl : as = #[x, y] := by apply Array.ext'; simpa using h1
      exact sMin_sound (B_up (Tr_rdW P (.call ⟨.builtin .min, #[x, y], ts⟩) f) hT h)
    · exact h T wa rfl hT
  · rename_i g as ts
    rcases h with h | h
    · exact callW_sound (c := ⟨.value (.func g), as, ts⟩) (h.2 T wa rfl hT)
    · exact h T wa rfl hT as ts ty f rfl
  · exact h T wa rfl hT
theorem opV_sound {P : Program} {op : Op} {ty : TypeId} {f : Fr} {T : Nat → Bool} {wa : World} (hT : TB T wa) {K : Value → World → Prop} (h : opV P op ty f (tombW T wa) K) : raw P op ty f wa (upV K T wa) := by
  unfold opV at h
  split at h
  · exact opW_sound (op := .move _) ⟨T, Kp.refl hT, h⟩
  · exact opW_sound (op := .assign _) ⟨T, Kp.refl hT, h⟩
  · rename_i c a b; exact sPick_sound (B_up (Tr_rdW P (.pick c a b) f) hT h)
  · exact sAlloc_sound (B_up (Tr_sAlloc P _) hT h)
  · exact sBox_sound (B_up (Tr_sBox _ _) hT h)
  · rename_i t ps; exact sBuild_sound (B_up (Tr_rdW P (.build t ps) f) hT h)
  · exact sBuildSlice_sound h.1 (B_up (Tr_sBuildSlice P _ _ _) hT h.2)
  · exact sLoad_sound (B_up (Tr_sLoad P _ _) hT h)
  · exact sStore_sound (B_up (Tr_sStore P _ _ _) hT h)
  · rename_i x; exact sNil_sound (B_up (Tr_rdW P (.nilCheck x) f) hT h)
  · rename_i o t x y t'
    split at h
    · exact h T wa rfl hT
    · exact sBin_sound (B_up (Tr_rdW P (.binOp o t x y t') f) hT h)
  · rename_i s t x; exact sConv_sound (B_up (Tr_rdW P (.convert s t x) f) hT h)
  · rename_i s x k; exact sFieldAddr_sound (B_up (Tr_rdW P (.fieldAddr s x k) f) hT h)
  · rename_i s x k; exact sField_sound (B_up (Tr_rdW P (.field s x k) f) hT h)
  · rename_i t x i; exact sIndexAddr_sound (B_up (Tr_rdW P (.indexAddr t x i) f) hT h)
  · rename_i x i; exact sExtract_sound (B_up (Tr_rdW P (.extract x i) f) hT h)
  · rename_i t x; exact sNot_sound (B_up (Tr_rdW P (.unOp .not t x) f) hT h)
  · exact sMakeMap_sound (B_up Tr_sMakeMap hT h)
  · exact sMakeSlice_sound (B_up (Tr_sMakeSlice P _ _ _) hT h)
  · rename_i t x lo hi; exact sSlice_sound (B_up (Tr_rdW P (.slice t x lo hi none) f) hT h)
  · exact callV_sound hT h
  · exact h T wa rfl hT
theorem raw_congr {P : Program} {op : Op} {ty : TypeId} {f fa : Fr} {w : World} {K : Value → World → Prop} (hs : ∀ cs b, op ≠ .select cs b) (hx : ∀ x ∈ op.operands, ev fa x = ev f x) (h : raw P op ty f w K) : raw P op ty fa w K := by
  unfold raw at *
  rwa [execOp_congr (⟨none, op, ty, "", #[], none⟩ : Oper) hs fun x hm => hx x hm]

/-! ### boxes -/
/-- a value that is there -/
def live : Value → Bool
  | .tuple _ => false
  | _ => true
inductive VI where
  | op (d : Option Nat) (o : Op) (ty : TypeId)
  | path (e b off : Nat) (via : Option (Nat × Nat))
  | part (d : Option Nat) (via : Option Nat) (b off n : Nat) (agg : Bool)
  | put (via b off n : Nat) (x : Operand)
  | set (b n : Nat) (x : Operand)
  | new (b : Nat) (z : Value)
  | box (b n : Nat) (x : Operand)
structure VO where
  g : Option (Nat × Bool)
  i : VI
abbrev OK := Nat → Option (Nat × Nat)
def ok0 : OK := fun _ => none
def oset (ok : OK) (e b off : Nat) : OK := fun t => if t = e then some (b, off) else ok t
def oclr (ok : OK) (e : Nat) : OK := fun t => if t = e then none else ok t
def odel (ok : OK) (b : Nat) : OK := fun t => (ok t).bind fun p => if p.1 = b then none else some p
/-- the slots that hold boxes, with their sizes; the slots that hold places inside boxes -/
structure Cx where
  bx : List (Nat × Nat)
  ps : List Nat
def Cx.bsz (cx : Cx) (d : Nat) : Option Nat := (cx.bx.find? (·.1 == d)).map (·.2)
def Cx.isV (cx : Cx) (t : Nat) : Bool := (cx.bsz t).isSome || cx.ps.contains t
def Cx.ok (cx : Cx) : Bool := cx.ps.all fun e => (cx.bsz e).isNone
def Cx.ordO (cx : Cx) : Operand → Bool
  | .tmp t => !cx.isV t
  | _ => true
def Cx.ordD (cx : Cx) : Option Nat → Bool
  | some t => !cx.isV t
  | none => true
def isSel : Op → Bool
  | .select .. => true
  | _ => false
/-- marked operations (by a hint): an arithmetic one is met by the model's own run, a load in a drawn region by what it hands back -/
def mayMark : Op → Bool
  | .binOp .. | .load .. => true
  | _ => false
def fty (pe : List (Nat × Nat × Nat)) (o : Oper) : TypeId := if mayMark o.op && (match o.dst with | some d => pe.any (·.1 == d + 1000000) | none => false) then 999999 else o.type
def cOrd (cx : Cx) (pe : List (Nat × Nat × Nat)) (o : Oper) : Option VI := if o.op.operands.all cx.ordO && cx.ordD o.dst && !isSel o.op then some (.op o.dst o.op (fty pe o)) else none
def pfind (pe : List (Nat × Nat × Nat)) (e : Nat) : Option (Nat × Nat) := (pe.find? (·.1 == e)).map (·.2)
def cOp (P : Program) (cx : Cx) (pe : List (Nat × Nat × Nat)) (o : Oper) : Option VI :=
  match o.op, o.dst with
  | .alloc t, some d => match cx.bsz d with
    | some n => match zrv P t with
      | some z => if live z && z.cells.size == n && decide (0 < n) then some (.new d z) else none
      | none => none
    | none => cOrd cx pe o
  | .box t x, some d => match cx.bsz d with
    | some n => if cx.ordO x then some (.box d n x) else none
    | none => cOrd cx pe o
  | .fieldAddr s (.tmp y) k, some e =>
    if cx.ps.contains e then match fld P s k with
      | some (fo, _, _) => match cx.bsz y with
        | some _ => some (.path e y fo none)
        | none => match pfind pe y with
          | some (b, off) => some (.path e b (off + fo) (some (y, off)))
          | none => none
      | none => none
    else cOrd cx pe o
  | .load t (.tmp y), d => if cx.isV y then match agb P t, szv P t with
      | some ag, some n => if cx.ordD d then match cx.bsz y with
          | some _ => some (.part d none y 0 n ag)
          | none => match pfind pe y with
            | some (b, off) => some (.part d (some y) b off n ag)
            | none => none
        else none
      | _, _ => none
    else cOrd cx pe o
  | .store t (.tmp y) x, none => if cx.isV y then match szv P t with
      | some n => if cx.ordO x && decide (0 < n) then match cx.bsz y with
          | some m => if m = n then some (.set y n x) else none
          | none => match pfind pe y with
            | some (b, off) => some (.put y b off n x)
            | none => none
        else none
      | none => none
    else cOrd cx pe o
  | _, _ => cOrd cx pe o
def sPart (v : Value) (off n : Nat) (ag : Bool) : Option Value :=
  if live v = true then if ag = true then (if off + n ≤ v.cells.size then some (.agg (v.cells.extract off (off + n))) else none) else v.cells[off]? else none
def shp (v : Value) (cs : Array Value) : Value := match v with | .agg _ => .agg cs | _ => cs.getD 0 undef
def sPut (v : Value) (off n : Nat) (x : Value) : Option Value :=
  match v with
  | .agg cs => if x.cells.size = n ∧ off + n ≤ cs.size ∧ x.cells.toList.all one = true ∧ 0 < n then some (.agg (spl cs off x.cells.toList)) else none
  | _ => none
def OB (r : Option Value) (κ : Value → Prop) : Prop := match r with | some v => κ v | none => False
def kk (k : OK → Fr → World → Prop) (ok : OK) (f : Fr) (d : Option Nat) (v : Value) (w : World) : Prop := k ok (updO f d v) w
def kv (k : OK → Fr → World → Prop) (ok : OK) (f : Fr) (d : Option Nat) (w : World) (v : Value) : Prop := k ok (updO f d v) w
def vok (ok : OK) (via : Option Nat) (b off : Nat) : Prop := match via with | none => off = 0 | some e => ok e = some (b, off)
def vi (P : Program) (i : VI) (k : OK → Fr → World → Prop) (ok : OK) (f : Fr) (w : World) : Prop :=
  match i with
  | .op d o ty => opV P o ty f w (kk k ok f d)
  | .path e b off via => live (f b) = true ∧ (match via with | none => True | some (y, o) => ok y = some (b, o)) ∧ k (oset ok e b off) f w
  | .part d via b off n ag => vok ok via b off ∧ OB (sPart (f b) off n ag) (kv k ok f d w)
  | .put via b off n x => ok via = some (b, off) ∧ OB (sPut (f b) off n (ev f x)) (kv k ok f (some b) w)
  | .set b n x => live (f b) = true ∧ (live (ev f x) = true ∧ (ev f x).cells.size = n ∧ (ev f x).cells.toList.all one = true) ∧ k ok (upd f b (ev f x)) w
  | .new b z => k (odel ok b) (upd f b z) (w.alloc tomb)
  | .box b n x => (live (ev f x) = true ∧ (ev f x).cells.size = n) ∧ k (odel ok b) (upd f b (ev f x)) (w.alloc tomb)
def sk (i : VI) (k : OK → Fr → World → Prop) (ok : OK) (f : Fr) (w : World) : Prop :=
  match i with
  | .op d _ _ | .part d _ _ _ _ _ => k ok (updO f d undef) w
  | .path e _ _ _ => k (oclr ok e) f w
  | .put .. | .set .. => k ok f w
  | .new b _ | .box b _ _ => k (odel ok b) (upd f b undef) w
def Y (P : Program) : List VO → (Fr → World → Prop) → OK → Fr → World → Prop
  | [], K, _, f, w => K f w
  | ⟨none, i⟩ :: l, K, ok, f, w => vi P i (Y P l K) ok f w
  | ⟨some (t, want), i⟩ :: l, K, ok, f, w => G (f t) want (vi P i (Y P l K) ok f w) (sk i (Y P l K) ok f w)

/-- the frame and the world of the walk (f, w) and those of the run (fa, wa) -/
structure VR (cx : Cx) (T0 : Nat → Bool) (wa0 : World) (ok : OK) (f : Fr) (w : World) (fa : Fr) (wa : World) (T : Nat → Bool) (B : Nat → Nat) : Prop where
  tw : w = tombW T wa
  kp : Kp T0 wa0 T wa
  ord : ∀ t, cx.isV t = false → fa t = f t
  box : ∀ d n, cx.bsz d = some n → live (f d) = true → fa d = .pointer (some ⟨B d, 0, none⟩) ∧ T (B d) = true ∧ wa0.heap.size ≤ B d ∧ (f d).cells.size = n ∧ ∃ ty, wa.heap[B d]? = some (.cells (f d).cells ty (0, 0))
  inj : ∀ d d' n n', cx.bsz d = some n → cx.bsz d' = some n' → live (f d) = true → live (f d') = true → B d = B d' → d = d'
  pth : ∀ e b off, ok e = some (b, off) → cx.ps.contains e = true ∧ (∃ n, cx.bsz b = some n) ∧ live (f b) = true ∧ fa e = .pointer (some ⟨B b, off, none⟩)
def VRx (cx : Cx) (T0 : Nat → Bool) (wa0 : World) (ok : OK) (f : Fr) (w : World) (fa : Fr) (wa : World) : Prop := ∃ T B, VR cx T0 wa0 ok f w fa wa T B
theorem isV_box {cx : Cx} {d n : Nat} (h : cx.bsz d = some n) : cx.isV d = true := by simp [Cx.isV, h]
theorem isV_ps {cx : Cx} {d : Nat} (h : cx.ps.contains d = true) : cx.isV d = true := by simp only [Cx.isV, h, Bool.or_true]
theorem ps_box {cx : Cx} (hc : cx.ok = true) {e : Nat} (h : cx.ps.contains e = true) : cx.bsz e = none := by
  have := List.all_eq_true.1 hc e (by simpa using h)
  simpa using this
theorem VR.ev {cx : Cx} {T0 : Nat → Bool} {wa0 : World} {ok : OK} {f : Fr} {w : World} {fa : Fr} {wa : World} {T : Nat → Bool} {B : Nat → Nat} (h : VR cx T0 wa0 ok f w fa wa T B) {x : Operand} (hx : cx.ordO x = true) : ev fa x = ev f x := by
  cases x with
  | tmp t => simp only [Cx.ordO, Bool.not_eq_true'] at hx; exact h.ord t hx
  | _ => rfl
/-- an ordinary slot is written -/
theorem VR.putO {cx : Cx} {T0 : Nat → Bool} {wa0 : World} {ok : OK} {f : Fr} {w : World} {fa : Fr} {wa : World} {T : Nat → Bool} {B : Nat → Nat} (h : VR cx T0 wa0 ok f w fa wa T B) {d : Option Nat} (hd : cx.ordD d = true) (v : Value) :
    VR cx T0 wa0 ok (updO f d v) w (updO fa d v) wa T B := by
  cases d with
  | none => exact h
  | some d =>
    simp only [Cx.ordD, Bool.not_eq_true'] at hd
    have hne : ∀ t, cx.isV t = true → t ≠ d := by rintro t ht rfl; rw [hd] at ht; cases ht
    refine ⟨h.tw, h.kp, fun t ht => ?_, fun b n hb hl => ?_, fun b b' n n' hb hb' hl hl' e => ?_, fun e b off he => ?_⟩
    · simp only [updO, upd]; split
      · rfl
      · exact h.ord t ht
    · have := hne b (isV_box hb)
      simp only [updO, upd_ne _ _ this] at hl ⊢
      exact h.box b n hb hl
    · simp only [updO, upd_ne _ _ (hne b (isV_box hb)), upd_ne _ _ (hne b' (isV_box hb'))] at hl hl'
      exact h.inj b b' n n' hb hb' hl hl' e
    · obtain ⟨h1, ⟨n, h2⟩, h3, h4⟩ := h.pth e b off he
      simp only [updO, upd_ne _ _ (hne b (isV_box h2)), upd_ne _ _ (hne e (isV_ps h1))]
      exact ⟨h1, ⟨n, h2⟩, h3, h4⟩
/-- the world moves on, the hidden cells staying -/
theorem VR.move {cx : Cx} {T0 : Nat → Bool} {wa0 : World} {ok : OK} {f : Fr} {w : World} {fa : Fr} {wa : World} {T : Nat → Bool} {B : Nat → Nat} (h : VR cx T0 wa0 ok f w fa wa T B) {T' : Nat → Bool} {wa' : World} (hk : Kp T wa T' wa') :
    VR cx T0 wa0 ok f (tombW T' wa') fa wa' T' B := by
  refine ⟨rfl, h.kp.trans hk, h.ord, fun d n hd hl => ?_, h.inj, h.pth⟩
  obtain ⟨h1, h2, h3, h4, ty, h5⟩ := h.box d n hd hl
  exact ⟨h1, hk.hid h2, h3, h4, ty, (hk.get _ h2).trans h5⟩
theorem VR.clear {cx : Cx} {T0 : Nat → Bool} {wa0 : World} {ok : OK} {f : Fr} {w : World} {fa : Fr} {wa : World} {T : Nat → Bool} {B : Nat → Nat} (h : VR cx T0 wa0 ok f w fa wa T B) : VR cx T0 wa0 ok0 f w fa wa T B :=
  ⟨h.tw, h.kp, h.ord, h.box, h.inj, fun e b off he => by simp [ok0] at he⟩
/-- a place inside a box -/
theorem VR.path {cx : Cx} {T0 : Nat → Bool} {wa0 : World} {ok : OK} {f : Fr} {w : World} {fa : Fr} {wa : World} {T : Nat → Bool} {B : Nat → Nat} (hc : cx.ok = true) (h : VR cx T0 wa0 ok f w fa wa T B) {e b off n : Nat} (he : cx.ps.contains e = true) (hb : cx.bsz b = some n) (hl : live (f b) = true) :
    VR cx T0 wa0 (oset ok e b off) f w (upd fa e (.pointer (some ⟨B b, off, none⟩))) wa T B := by
  have hne : ∀ t n, cx.bsz t = some n → t ≠ e := by rintro t n ht rfl; rw [ps_box hc he] at ht; cases ht
  refine ⟨h.tw, h.kp, fun t ht => ?_, fun d n hd hl => ?_, h.inj, fun e' b' off' he' => ?_⟩
  · have : t ≠ e := by rintro rfl; rw [isV_ps he] at ht; cases ht
    rw [upd_ne _ _ this]; exact h.ord t ht
  · rw [upd_ne _ _ (hne d n hd)]; exact h.box d n hd hl
  · simp only [oset] at he'
    by_cases e1 : e' = e
    · subst e1
      simp only [if_true, Option.some.injEq, Prod.mk.injEq] at he'
      obtain ⟨rfl, rfl⟩ := he'
      exact ⟨he, ⟨n, hb⟩, hl, by rw [upd_same]⟩
    · rw [if_neg e1] at he'
      rw [upd_ne _ _ e1]
      exact h.pth e' b' off' he'
/-- a box is written -/
theorem VR.write {cx : Cx} {T0 : Nat → Bool} {wa0 : World} {ok : OK} {f : Fr} {w : World} {fa : Fr} {wa : World} {T : Nat → Bool} {B : Nat → Nat} (h : VR cx T0 wa0 ok f w fa wa T B) {b n : Nat} (hb : cx.bsz b = some n) (hl : live (f b) = true) {v : Value} (hv : live v = true) (hn : v.cells.size = n) {ty : TypeId}
    (hcell : wa.heap[B b]? = some (.cells (f b).cells ty (0, 0))) : VR cx T0 wa0 ok (upd f b v) w fa (wa.putb (B b) (.cells v.cells ty (0, 0))) T B := by
  obtain ⟨h1, h2, h3, h4, _⟩ := h.box b n hb hl
  have hlt := get_lt hcell
  refine ⟨by rw [tombW_hide h2]; exact h.tw, ?_, fun t ht => ?_, fun d m hd hld => ?_, fun d d' m m' hd hd' hld hld' e => ?_, fun e b' off he => ?_⟩
  · refine ⟨h.kp.tb0, fun c hc => h.kp.tb c (by rw [putb_size] at hc; exact hc), by rw [putb_size]; exact h.kp.size, h.kp.old, fun c hc => ?_⟩
    rw [putb_get_ne (by rintro rfl; have := h.kp.tb0.lt hc; omega)]
    exact h.kp.get c hc
  · have : t ≠ b := by rintro rfl; rw [isV_box hb] at ht; cases ht
    rw [upd_ne _ _ this]; exact h.ord t ht
  · by_cases e : d = b
    · subst e
      rw [hb] at hd; simp only [Option.some.injEq] at hd; subst hd
      rw [upd_same]
      exact ⟨h1, h2, h3, hn, ty, putb_get_same hlt _⟩
    · rw [upd_ne _ _ e] at hld ⊢
      obtain ⟨k1, k2, k3, k4, ty', k5⟩ := h.box d m hd hld
      refine ⟨k1, k2, k3, k4, ty', ?_⟩
      rw [putb_get_ne (fun e' => e (h.inj d b m n hd hb hld hl e'))]
      exact k5
  · have hlv : ∀ d, live (upd f b v d) = true → live (f d) = true := by
      intro d hd; by_cases e : d = b
      · subst e; exact hl
      · rwa [upd_ne _ _ e] at hd
    exact h.inj d d' m m' hd hd' (hlv d hld) (hlv d' hld') e
  · obtain ⟨k1, k2, k3, k4⟩ := h.pth e b' off he
    refine ⟨k1, k2, ?_, k4⟩
    by_cases e : b' = b
    · subst e; rw [upd_same]; exact hv
    · rwa [upd_ne _ _ e]
/-- a box is made -/
theorem VR.make {cx : Cx} {T0 : Nat → Bool} {wa0 : World} {ok : OK} {f : Fr} {w : World} {fa : Fr} {wa : World} {T : Nat → Bool} {B : Nat → Nat} (hc : cx.ok = true) (h : VR cx T0 wa0 ok f w fa wa T B) {b n : Nat} (hb : cx.bsz b = some n) {v : Value} (hv : live v = true) (hn : v.cells.size = n) (ty : TypeId) :
    VR cx T0 wa0 (odel ok b) (upd f b v) (w.alloc tomb) (upd fa b (.pointer (some ⟨wa.heap.size, 0, none⟩))) (wa.alloc (.cells v.cells ty (0, 0))) (setL T wa.heap.size) (fun d => if d = b then wa.heap.size else B d) := by
  have hk := Kp.allocT h.kp.tb (.cells v.cells ty (0, 0))
  refine ⟨by rw [h.tw, tombW_allocT h.kp.tb], h.kp.trans hk, fun t ht => ?_, fun d m hd hld => ?_, fun d d' m m' hd hd' hld hld' e => ?_, fun e b' off he => ?_⟩
  · have : t ≠ b := by rintro rfl; rw [isV_box hb] at ht; cases ht
    rw [upd_ne _ _ this, upd_ne _ _ this]; exact h.ord t ht
  · by_cases e : d = b
    · subst e
      rw [hb] at hd; simp only [Option.some.injEq] at hd; subst hd
      rw [upd_same, upd_same]
      refine ⟨by simp, by simp [setL], by simp only [if_true]; exact h.kp.size, hn, ty, ?_⟩
      simp only [if_true]; exact alloc_get_new _ _
    · rw [upd_ne _ _ e] at hld ⊢
      rw [upd_ne _ _ e, if_neg e]
      obtain ⟨k1, k2, k3, k4, ty', k5⟩ := h.box d m hd hld
      exact ⟨k1, hk.hid k2, k3, k4, ty', (hk.get _ k2).trans k5⟩
  · have hBlt : ∀ d m, cx.bsz d = some m → d ≠ b → live (upd f b v d) = true → B d < wa.heap.size := by
      intro d m hd e hl
      rw [upd_ne _ _ e] at hl
      exact h.kp.tb.lt (h.box d m hd hl).2.1
    by_cases e1 : d = b <;> by_cases e2 : d' = b
    · rw [e1, e2]
    · rw [if_pos e1, if_neg e2] at e
      have := hBlt d' m' hd' e2 hld'; omega
    · rw [if_neg e1, if_pos e2] at e
      have := hBlt d m hd e1 hld; omega
    · rw [if_neg e1, if_neg e2] at e
      rw [upd_ne _ _ e1] at hld
      rw [upd_ne _ _ e2] at hld'
      exact h.inj d d' m m' hd hd' hld hld' e
  · simp only [odel] at he
    obtain ⟨p, hp, he⟩ := Option.bind_eq_some_iff.1 he
    split at he
    · simp at he
    · rename_i hne
      simp only [Option.some.injEq] at he
      subst he
      obtain ⟨k1, k2, k3, k4⟩ := h.pth e b' off hp
      have e1 : e ≠ b := by rintro rfl; rw [ps_box hc k1] at hb; cases hb
      simp only [] at hne
      rw [upd_ne _ _ e1, upd_ne _ _ hne]
      simp only [hne, if_false]
      exact ⟨k1, k2, k3, k4⟩
end Go.W
