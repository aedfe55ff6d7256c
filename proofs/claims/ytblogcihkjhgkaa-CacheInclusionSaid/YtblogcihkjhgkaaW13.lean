/-
  Cuts: what follows a piece of code may be replaced by an assertion that implies it.
-/
import Derived.Test.YtblogcihkjhgkaaW12
set_option linter.unusedSimpArgs false
set_option linter.unusedVariables false
namespace Go.W
theorem B_mono {r : Option (Value × World)} {K K' : Value → World → Prop} (hm : ∀ v w, K v w → K' v w) (h : B r K) : B r K' := by
  unfold B at *
  split at h
  · exact hm _ _ h
  · exact h
theorem callW_mono {P : Program} {c : Call} {ty : TypeId} {f : Fr} {w : World} {K K' : Value → World → Prop} (hm : ∀ v w, K v w → K' v w) (h : callW P c ty f w K) : callW P c ty f w K' := by
  rcases c with ⟨callee, as, ts⟩
  cases callee with
  | builtin b =>
    cases b
    case len =>
      simp only [callW] at h ⊢
      generalize has : as.toList = la at h ⊢
      generalize hts : ts.toList = lt at h ⊢
      rcases la with _ | ⟨x, _ | ⟨y, r⟩⟩ <;> rcases lt with _ | ⟨t, _ | ⟨u, r'⟩⟩ <;> first | exact B_mono hm h | exact raw_mono hm h
    case max =>
      simp only [callW] at h ⊢
      generalize has : as.toList = la at h ⊢
      rcases la with _ | ⟨x, _ | ⟨y, _ | ⟨z, r⟩⟩⟩ <;> first | exact B_mono hm h | exact raw_mono hm h
    case min =>
      simp only [callW] at h ⊢
      generalize has : as.toList = la at h ⊢
      rcases la with _ | ⟨x, _ | ⟨y, _ | ⟨z, r⟩⟩⟩ <;> first | exact B_mono hm h | exact raw_mono hm h
    all_goals exact raw_mono hm h
  | value f0 => cases f0 <;> first | exact Ret.mono h hm | exact raw_mono hm h
  | invoke a b => exact raw_mono hm h
theorem opW_mono {P : Program} {op : Op} {ty : TypeId} {f : Fr} {w : World} {K K' : Value → World → Prop} (hm : ∀ v w, K v w → K' v w) (h : opW P op ty f w K) : opW P op ty f w K' := by
  cases op
  case unOp o t x => cases o <;> simp only [opW] at h ⊢ <;> first | exact B_mono hm h | exact raw_mono hm h
  case makeMap t r => cases r <;> simp only [opW] at h ⊢ <;> first | exact B_mono hm h | exact raw_mono hm h
  case slice t x lo hi mx => cases mx <;> simp only [opW] at h ⊢ <;> first | exact B_mono hm h | exact raw_mono hm h
  case call c => exact callW_mono hm h
  case move x => exact hm _ _ h
  case assign x => exact hm _ _ h
  case buildSlice t n ps => exact ⟨h.1, B_mono hm h.2⟩
  all_goals (simp only [opW] at h ⊢; first | exact B_mono hm h | exact raw_mono hm h)
theorem G_mono {v : Value} {want : Bool} {A A' B B' : Prop} (ha : A → A') (hb : B → B') (h : G v want A B) : G v want A' B' := by
  unfold G at *
  split at h
  · exact ⟨fun e => ha (h.1 e), fun e => hb (h.2 e)⟩
  · exact hb h
theorem X_mono {P : Program} {all : List Oper} {K K' : Fr → World → Prop} (hm : ∀ f w, K f w → K' f w) : ∀ (l : List Oper) (f : Fr) (w : World), X P all l K f w → X P all l K' f w := by
  intro l
  induction l with
  | nil => intro f w h; exact hm _ _ h
  | cons o rest ih =>
    intro f w h
    cases hg : o.guard with
    | none => simp only [X, hg] at h ⊢; exact opW_mono (fun v w' hx => ih _ _ hx) h
    | some jw => simp only [X, hg] at h ⊢; exact G_mono (opW_mono fun v w' hx => ih _ _ hx) (ih _ _) h
theorem XQ_mono {P : Program} {all : List Oper} {w1 : World} {K K' : Fr → Prop} (hm : ∀ f, K f → K' f) : ∀ (l : List Oper) (f : Fr), XQ P all w1 l K f → XQ P all w1 l K' f := by
  intro l
  induction l with
  | nil => intro f h; exact hm _ h
  | cons o rest ih =>
    intro f h
    cases hg : o.guard with
    | none => simp only [XQ, hg] at h ⊢; obtain ⟨v, h1, h2⟩ := h; exact ⟨v, h1, ih _ h2⟩
    | some jw => simp only [XQ, hg] at h ⊢; exact G_mono (fun ⟨v, h1, h2⟩ => ⟨v, h1, ih _ h2⟩) (ih _) h
theorem DR_mono {P : Program} {ops : List Oper} {K K' : Fr → World → Prop} {f : Fr} {w : World} (hm : ∀ f w, K f w → K' f w) (h : DR P ops K f w) : DR P ops K' f w := by
  rcases h with ⟨h1, h2, I, h3, h4, h5⟩ | ⟨h1, h2, h3⟩
  · exact .inl ⟨h1, h2, I, h3, h4, fun L f w hI hL => hm _ _ (h5 L f w hI hL)⟩
  · exact .inr ⟨h1, h2, XQ_mono (fun f hk w' hE => hm _ _ (hk w' hE)) _ _ h3⟩
theorem Wp_mono {P : Program} : ∀ (c : Code) {Q Q' : Exit → Fr → World → Prop}, (∀ e f w, Q e f w → Q' e f w) → ∀ (f : Fr) (w : World), Wp P c Q f w → Wp P c Q' f w := by
  intro c
  induction c with
  | skip => intro Q Q' hm f w h; exact hm _ _ _ h
  | exit id => intro Q Q' hm f w h; exact hm _ _ _ h
  | ret => intro Q Q' hm f w h; exact hm _ _ _ h
  | region id ops draw =>
    intro Q Q' hm f w h
    cases draw with
    | false => exact X_mono (fun f w => hm _ f w) _ _ _ h
    | true => exact DR_mono (fun f w => hm _ f w) h
  | seq a b iha ihb =>
    intro Q Q' hm f w h
    refine iha ?_ f w h
    intro e f w hq
    cases e with
    | normal => exact ihb hm f w hq
    | _ => exact hm _ _ _ hq
  | cond c a b iha ihb =>
    intro Q Q' hm f w h
    simp only [Wp, condP] at h ⊢
    split at h
    · exact ⟨fun e => iha hm f w (h.1 e), fun e => ihb hm f w (h.2 e)⟩
    · exact h.elim
  | block id b ih =>
    intro Q Q' hm f w h
    refine ih ?_ f w h
    intro e f w hq
    cases e with
    | exit id' => simp only [inBlk] at hq ⊢; split at hq <;> rename_i hc <;> simp only [hc, if_true, if_false] <;> exact hm _ _ _ hq
    | _ => exact hm _ _ _ hq
  | loop b ih =>
    intro Q Q' hm f w h
    obtain ⟨α, I, μ, x0, h0, hr⟩ := h
    refine ⟨α, I, μ, x0, h0, fun x f w hI => ih ?_ f w (hr x f w hI)⟩
    intro e f w hq
    cases e with
    | normal => exact hq
    | _ => exact hm _ _ _ hq
  | _ => intro Q Q' hm f w h; exact h.elim
theorem thenQ_sub {next J : Fr → World → Prop} {Q : Exit → Fr → World → Prop} (hJ : ∀ f w, J f w → next f w) : ∀ e f w, thenQ J Q e f w → thenQ next Q e f w := by
  intro e f w h
  cases e with
  | normal => exact hJ _ _ h
  | _ => exact h
section
variable {P : Program} {all rest : List Oper} {next J : Fr → World → Prop} {Q : Exit → Fr → World → Prop} {d : Option Nat} {f : Fr} {w : World} {ty : TypeId}
/-- a test whose ways meet again -/
theorem cnd_cut (J : Fr → World → Prop) {a b : Code} {v : Value} (h : cnd P a b (thenQ J Q) f w v) (hJ : ∀ f w, J f w → next f w) : cnd P a b (thenQ next Q) f w v := by
  unfold cnd condP at *
  split at h
  · exact ⟨fun e => Wp_mono a (thenQ_sub hJ) f w (h.1 e), fun e => Wp_mono b (thenQ_sub hJ) f w (h.2 e)⟩
  · exact h.elim
theorem Wp_cut (J : Fr → World → Prop) {c : Code} (h : Wp P c (thenQ J Q) f w) (hJ : ∀ f w, J f w → next f w) : Wp P c (thenQ next Q) f w := Wp_mono c (thenQ_sub hJ) f w h
theorem LoopP_cut (J : Fr → World → Prop) {c : Code} (h : LoopP (Wp P c) (thenQ J Q) f w) (hJ : ∀ f w, J f w → next f w) : LoopP (Wp P c) (thenQ next Q) f w := Wp_mono (.loop c) (thenQ_sub hJ) f w h
theorem inBlk_sub {id : Nat} {Q Q' : Exit → Fr → World → Prop} (hm : ∀ e f w, Q e f w → Q' e f w) : ∀ e f w, inBlk id Q e f w → inBlk id Q' e f w := by
  intro e f w hq
  cases e with
  | exit id' => simp only [inBlk] at hq ⊢; split at hq <;> rename_i hc <;> simp only [hc, if_true, if_false] <;> exact hm _ _ _ hq
  | _ => exact hm _ _ _ hq
theorem LoopP_cutB (J : Fr → World → Prop) {id : Nat} {c : Code} (h : LoopP (Wp P c) (inBlk id (thenQ J Q)) f w) (hJ : ∀ f w, J f w → next f w) : LoopP (Wp P c) (inBlk id (thenQ next Q)) f w :=
  Wp_mono (.loop c) (inBlk_sub (thenQ_sub hJ)) f w h
theorem DR_cut (J : Fr → World → Prop) {ops : List Oper} (h : DR P ops J f w) (hJ : ∀ f w, J f w → next f w) : DR P ops next f w := Wp_mono (.region 0 ops.toArray true) (Q := thenQ J fun _ _ _ => True) (Q' := thenQ next fun _ _ _ => True) (thenQ_sub hJ) f w h
theorem X_cut (J : Fr → World → Prop) {l : List Oper} (h : X P all l J f w) (hJ : ∀ f w, J f w → next f w) : X P all l next f w := X_mono hJ _ _ _ h
theorem XO_cut (J : Fr → World → Prop) {op : Op} (h : XO P all rest J d f w op ty) (hJ : ∀ f w, J f w → next f w) : XO P all rest next d f w op ty := opW_mono (fun _ _ => X_mono hJ _ _ _) h
theorem XG_cut (J : Fr → World → Prop) {op : Op} {v : Value} {want : Bool} (h : XG P all rest J d f w op ty v want) (hJ : ∀ f w, J f w → next f w) : XG P all rest next d f w op ty v want :=
  G_mono (fun h => XO_cut J h hJ) (X_mono hJ _ _ _) h
theorem XR_cut (J : Fr → World → Prop) {g : Nat} {args : Array Value} (h : XR P all rest J d f g args w) (hJ : ∀ f w, J f w → next f w) : XR P all rest next d f g args w := Ret.mono h fun _ _ => X_mono hJ _ _ _
end
theorem cnd_cutB {P : Program} {Q : Exit → Fr → World → Prop} {next : Fr → World → Prop} {f : Fr} {w : World} (J : Fr → World → Prop) {id : Nat} {a b : Code} {v : Value} (h : cnd P a b (inBlk id (thenQ J Q)) f w v) (hJ : ∀ f w, J f w → next f w) : cnd P a b (inBlk id (thenQ next Q)) f w v := by
  unfold cnd condP at *
  split at h
  · exact ⟨fun e => Wp_mono a (inBlk_sub (thenQ_sub hJ)) f w (h.1 e), fun e => Wp_mono b (inBlk_sub (thenQ_sub hJ)) f w (h.2 e)⟩
  · exact h.elim
theorem XG_un (P : Program) (all rest : List Oper) (K : Fr → World → Prop) (d : Option Nat) (f : Fr) (w : World) (ty : TypeId) (op : Op) (want : Bool) : XG P all rest K d f w op ty undef want = X P all rest K (updO f d undef) w := rfl
theorem QG_un (P : Program) (all : List Oper) (w1 : World) (rest : List Oper) (K : Fr → Prop) (d : Option Nat) (f : Fr) (op : Op) (want : Bool) : QG P all w1 rest K d f op undef want = XQ P all w1 rest K (updO f d undef) := rfl
end Go.W
