/-
  That a run of operations over boxes is sound; code; the body of a function.
-/
import Derived.Test.YtblogcihkjhgkaaV2
set_option linter.unusedSimpArgs false
set_option linter.unusedVariables false
namespace Go.W
theorem spl_get (vs : List Value) : ∀ (cs : Array Value) (off i : Nat), off + vs.length ≤ cs.size → (spl cs off vs)[i]? = if off ≤ i ∧ i < off + vs.length then vs[i - off]? else cs[i]? := by
  induction vs with
  | nil => intro cs off i _; simp only [spl, List.length_nil, Nat.add_zero]; rw [if_neg (by omega)]
  | cons v vs ih =>
    intro cs off i h
    simp only [List.length_cons] at h
    simp only [spl]
    rw [ih _ _ _ (by simp; omega)]
    simp only [List.length_cons]
    by_cases e : i = off
    · subst e
      rw [if_neg (by omega), if_pos (by omega)]
      rw [Array.getElem?_setIfInBounds_self_of_lt (by omega)]
      simp
    · rw [Array.getElem?_setIfInBounds_ne (Ne.symm e)]
      by_cases hr : off + 1 ≤ i ∧ i < off + 1 + vs.length
      · rw [if_pos hr, if_pos (by omega), show i - off = (i - (off + 1)) + 1 by omega, List.getElem?_cons_succ]
      · rw [if_neg hr, if_neg (by omega)]
theorem spl_all {cs xs : Array Value} (h : xs.size = cs.size) : spl cs 0 xs.toList = xs := by
  apply Array.ext'
  apply List.ext_getElem?
  intro i
  have := spl_get xs.toList cs 0 i (by simp; omega)
  simp only [Array.length_toList, Nat.zero_add, Nat.zero_le, true_and, Nat.sub_zero] at this
  rw [← Array.getElem?_toList] at this
  rw [this]
  split
  · rfl
  · rw [List.getElem?_eq_none (by simp; omega), Array.getElem?_eq_none (by omega)]
def nx (cx : Cx) (T0 : Nat → Bool) (wa0 : World) (k : OK → Fr → World → Prop) (fa : Fr) (wa : World) : Prop := ∃ ok f w, VRx cx T0 wa0 ok f w fa wa ∧ k ok f w
section
variable {P : Program} {cx : Cx} {pe : List (Nat × Nat × Nat)} {T0 : Nat → Bool} {wa0 : World} {ok : OK} {f : Fr} {w : World} {fa : Fr} {wa : World} {T : Nat → Bool} {B : Nat → Nat} {o : Oper} {i : VI} {k : OK → Fr → World → Prop}
theorem raw_fty {P : Program} {pe : List (Nat × Nat × Nat)} {o : Oper} {f : Fr} {w : World} {K : Value → World → Prop} (h : raw P o.op (fty pe o) f w K) : raw P o.op o.type f w K := by
  unfold fty at h
  cases hm : mayMark o.op with
  | false => rw [hm] at h; exact h
  | true =>
    generalize (mayMark o.op && _) = c at h
    cases c with
    | false => exact h
    | true =>
      obtain ⟨d, op, ty, pos, af, g⟩ := o
      cases op <;> first | (simp [mayMark] at hm; done) | exact h
theorem cOrd_spec (h : cOrd cx pe o = some i) : i = .op o.dst o.op (fty pe o) ∧ (∀ x ∈ o.op.operands, cx.ordO x = true) ∧ cx.ordD o.dst = true ∧ ∀ cs b, o.op ≠ .select cs b := by
  unfold cOrd at h
  split at h
  · rename_i hc
    simp only [Option.some.injEq] at h
    simp only [Bool.and_eq_true, Bool.not_eq_true'] at hc
    refine ⟨h.symm, Array.all_eq_true_iff_forall_mem.1 hc.1.1, hc.1.2, fun cs b e => ?_⟩
    rw [e] at hc; simp [isSel] at hc
  · simp at h
theorem cOrd_sound (h : cOrd cx pe o = some i) (hR : VR cx T0 wa0 ok f w fa wa T B) (hv : vi P i k ok f w) : raw P o.op o.type fa wa fun v wa' => nx cx T0 wa0 k (updO fa o.dst v) wa' := by
  obtain ⟨rfl, hx, hd, hs⟩ := cOrd_spec h
  simp only [vi] at hv
  have hw := hR.tw
  subst hw
  refine raw_congr hs (fun x hm => hR.ev (hx x hm)) (raw_mono ?_ (raw_fty (opV_sound hR.kp.tb hv)))
  rintro v wa' ⟨T', hk, hq⟩
  exact ⟨ok, _, _, ⟨T', B, (hR.move hk).putO hd v⟩, hq⟩
theorem load_box (hR : VR cx T0 wa0 ok f w fa wa T B) {t : TypeId} {y b off n m : Nat} {ag : Bool} {d : Option Nat} {ty : TypeId} (hd : cx.ordD d = true) (hag : agb P t = some ag) (hn : szv P t = some n) (hb : cx.bsz b = some m)
    (hy : live (f b) = true → fa y = .pointer (some ⟨B b, off, none⟩)) (hv : OB (sPart (f b) off n ag) (kv k ok f d w)) : raw P (.load t (.tmp y)) ty fa wa fun v wa' => nx cx T0 wa0 k (updO fa d v) wa' := by
  unfold OB sPart at hv
  split at hv
  · rename_i v hs
    split at hs
    · rename_i hl
      obtain ⟨h1, h2, h3, h4, ty', h5⟩ := hR.box b m hb hl
      have hload : sLoad P t (.pointer (some ⟨B b, off, none⟩)) wa = some (v, wa) := by
        rw [sLoad_p, hag, hn]
        cases ag with
        | true =>
          simp only [if_true] at hs
          simp only [Option.bind_some, if_true, rd_mk, h5]
          split at hs
          · rename_i hle
            simp only [Option.some.injEq] at hs
            rw [if_pos hle, ← hs]
            rfl
          · simp at hs
        | false =>
          simp only [Bool.false_eq_true, if_false] at hs
          simp only [Option.bind_some, Bool.false_eq_true, if_false, cell_mk, h5, hs, Option.map_some]
      refine sLoad_sound ?_
      simp only [ev_tmp, hy hl, hload, Go.W.B]
      exact ⟨ok, _, w, ⟨T, B, hR.putO hd v⟩, hv⟩
    · simp at hs
  · exact hv.elim
theorem store_box (hR : VR cx T0 wa0 ok f w fa wa T B) {t : TypeId} {y b off n m : Nat} {x : Operand} {ty : TypeId} (hx : cx.ordO x = true) (hn : szv P t = some n) (hpos : 0 < n) (hb : cx.bsz b = some m) (hl : live (f b) = true)
    (hy : fa y = .pointer (some ⟨B b, off, none⟩)) {v : Value} (hlv : live v = true) (hcs : v.cells = spl (f b).cells off (ev f x).cells.toList) (h1 : (ev f x).cells.size = n) (h2 : off + n ≤ (f b).cells.size) (h3 : (ev f x).cells.toList.all one = true)
    (hv : k ok (upd f b v) w) : raw P (.store t (.tmp y) x) ty fa wa fun v wa' => nx cx T0 wa0 k (updO fa none v) wa' := by
  obtain ⟨k1, k2, k3, k4, ty', k5⟩ := hR.box b m hb hl
  refine sStore_sound ?_
  have hev := hR.ev hx
  simp only [ev_tmp, hy, hev, sStore_p, k5]
  rw [if_pos ⟨by rw [hn, h1], trivial, by rw [h1]; exact h2, h3, by rw [h1]; exact hpos⟩]
  refine ⟨ok, _, w, ⟨T, B, ?_⟩, hv⟩
  have := hR.write hb hl hlv (by rw [hcs, spl_size]; exact k4) k5
  rw [hcs] at this
  exact this
theorem pth_of (hR : VR cx T0 wa0 ok f w fa wa T B) {e b off : Nat} (h : ok e = some (b, off)) : (∃ n, cx.bsz b = some n) ∧ live (f b) = true ∧ fa e = .pointer (some ⟨B b, off, none⟩) := (hR.pth e b off h).2
theorem vi_sound (hc : cx.ok = true) (h : cOp P cx pe o = some i) (hR : VR cx T0 wa0 ok f w fa wa T B) (hv : vi P i k ok f w) : raw P o.op o.type fa wa fun v wa' => nx cx T0 wa0 k (updO fa o.dst v) wa' := by
  unfold cOp at h
  split at h
  · rename_i t d hop hdst
    split at h
    · rename_i n hb
      split at h
      · rename_i z hz
        split at h
        · rename_i hcond
          simp only [Bool.and_eq_true, beq_iff_eq, decide_eq_true_eq] at hcond
          simp only [Option.some.injEq] at h
          subst h
          rw [hop, hdst]
          refine sAlloc_sound ?_
          simp only [sAlloc, hz, Go.W.B]
          exact ⟨_, _, _, ⟨_, _, hR.make hc hb hcond.1.1 hcond.1.2 t⟩, hv⟩
        · simp at h
      · simp at h
    · exact cOrd_sound h hR hv
  · rename_i t x d hop hdst
    split at h
    · rename_i n hb
      split at h
      · rename_i hx
        simp only [Option.some.injEq] at h
        subst h
        rw [hop, hdst]
        refine sBox_sound ?_
        simp only [sBox, Go.W.B, hR.ev hx]
        exact ⟨_, _, _, ⟨_, _, hR.make hc hb hv.1.1 hv.1.2 t⟩, hv.2⟩
      · simp at h
    · exact cOrd_sound h hR hv
  · rename_i s y k' e hop hdst
    split at h
    · rename_i he
      split at h
      · rename_i fo n0 b0 hf
        have main : ∀ (b off : Nat), fa y = .pointer (some ⟨B b, off, none⟩) → live (f b) = true → (∃ n, cx.bsz b = some n) → k (oset ok e b (off + fo)) f w → raw P o.op o.type fa wa fun v wa' => nx cx T0 wa0 k (updO fa o.dst v) wa' := by
          intro b off hy hl hb hk
          rw [hop, hdst]
          refine sFieldAddr_sound ?_
          simp only [ev_tmp, hy, sFieldAddr_p, hf, Option.map_some, Go.W.B, add_mk]
          obtain ⟨n, hb⟩ := hb
          exact ⟨_, _, _, ⟨_, _, hR.path hc he hb hl⟩, hk⟩
        split at h
        · rename_i n hb
          simp only [Option.some.injEq] at h
          subst h
          obtain ⟨hl, _, hk⟩ := hv
          exact main y 0 (hR.box y n hb hl).1 hl ⟨n, hb⟩ (by rw [Nat.zero_add]; exact hk)
        · split at h
          · rename_i b off hp
            simp only [Option.some.injEq] at h
            subst h
            obtain ⟨hl, hok, hk⟩ := hv
            obtain ⟨h1, h2, h3⟩ := pth_of hR hok
            exact main b off h3 hl h1 hk
          · simp at h
      · simp at h
    · exact cOrd_sound h hR hv
  · rename_i t y hop
    split at h
    · rename_i hV
      split at h
      · rename_i ag n hag hn
        split at h
        · rename_i hd
          split at h
          · rename_i m hb
            simp only [Option.some.injEq] at h
            subst h
            rw [hop]
            exact load_box hR hd hag hn hb (fun hl => (hR.box y m hb hl).1) hv.2
          · split at h
            · rename_i b off hp
              simp only [Option.some.injEq] at h
              subst h
              rw [hop]
              obtain ⟨h1, h2⟩ := hv
              obtain ⟨⟨m, hb⟩, hl, hy⟩ := pth_of hR h1
              exact load_box hR hd hag hn hb (fun _ => hy) h2
            · simp at h
        · simp at h
      · simp at h
    · exact cOrd_sound h hR hv
  · rename_i t y x hop hdst
    split at h
    · rename_i hV
      split at h
      · rename_i n hn
        split at h
        · rename_i hxn
          simp only [Bool.and_eq_true, decide_eq_true_eq] at hxn
          split at h
          · rename_i m hb
            split at h
            · rename_i hmn
              subst hmn
              simp only [Option.some.injEq] at h
              subst h
              obtain ⟨hl, ⟨hlx, hsz, hone⟩, hk⟩ := hv
              have h4 := (hR.box y m hb hl).2.2.2.1
              rw [hop, hdst]
              exact store_box hR hxn.1 hn hxn.2 hb hl (hR.box y m hb hl).1 hlx (by rw [spl_all (by rw [h4, hsz])]) hsz (by rw [h4]; omega) hone hk
            · simp at h
          · split at h
            · rename_i b off hp
              simp only [Option.some.injEq] at h
              subst h
              obtain ⟨h1, h2⟩ := hv
              obtain ⟨⟨m, hb⟩, hl, hy⟩ := pth_of hR h1
              rw [hop, hdst]
              unfold OB sPut at h2
              split at h2
              · rename_i v hs
                split at hs
                · rename_i cs hcs
                  split at hs
                  · rename_i hcond
                    simp only [Option.some.injEq] at hs
                    subst hs
                    exact store_box hR hxn.1 hn hxn.2 hb hl hy rfl (by rw [hcs]; rfl) hcond.1 (by rw [hcs]; exact hcond.2.1) hcond.2.2.1 h2
                  · simp at hs
                · simp at hs
              · exact h2.elim
            · simp at h
        · simp at h
      · simp at h
    · exact cOrd_sound h hR hv
  · exact cOrd_sound h hR hv
theorem VR.unbox (hc : cx.ok = true) (hR : VR cx T0 wa0 ok f w fa wa T B) {b n : Nat} (hb : cx.bsz b = some n) (u : Value) : VR cx T0 wa0 (odel ok b) (upd f b undef) w (upd fa b u) wa T B := by
  refine ⟨hR.tw, hR.kp, fun t ht => ?_, fun d m hd hl => ?_, fun d d' m m' hd hd' hl hl' e => ?_, fun e b' off he => ?_⟩
  · have : t ≠ b := by rintro rfl; rw [isV_box hb] at ht; cases ht
    rw [upd_ne _ _ this, upd_ne _ _ this]; exact hR.ord t ht
  · by_cases e : d = b
    · subst e; rw [upd_same] at hl; cases hl
    · rw [upd_ne _ _ e] at hl ⊢; rw [upd_ne _ _ e]; exact hR.box d m hd hl
  · have e1 : d ≠ b := by rintro rfl; rw [upd_same] at hl; cases hl
    have e2 : d' ≠ b := by rintro rfl; rw [upd_same] at hl'; cases hl'
    rw [upd_ne _ _ e1] at hl; rw [upd_ne _ _ e2] at hl'
    exact hR.inj d d' m m' hd hd' hl hl' e
  · simp only [odel] at he
    obtain ⟨p, hp, he⟩ := Option.bind_eq_some_iff.1 he
    split at he
    · simp at he
    · rename_i hne
      simp only [Option.some.injEq] at he
      subst he
      obtain ⟨k1, k2, k3, k4⟩ := hR.pth e b' off hp
      have e1 : e ≠ b := by rintro rfl; rw [ps_box hc k1] at hb; cases hb
      simp only [] at hne
      rw [upd_ne _ _ e1, upd_ne _ _ hne]
      exact ⟨k1, k2, k3, k4⟩
theorem VR.unpath (hc : cx.ok = true) (hR : VR cx T0 wa0 ok f w fa wa T B) {e : Nat} (he : cx.ps.contains e = true) (u : Value) : VR cx T0 wa0 (oclr ok e) f w (upd fa e u) wa T B := by
  have hne : ∀ t n, cx.bsz t = some n → t ≠ e := by rintro t n ht rfl; rw [ps_box hc he] at ht; cases ht
  refine ⟨hR.tw, hR.kp, fun t ht => ?_, fun d n hd hl => ?_, hR.inj, fun e' b' off' he' => ?_⟩
  · have : t ≠ e := by rintro rfl; rw [isV_ps he] at ht; cases ht
    rw [upd_ne _ _ this]; exact hR.ord t ht
  · rw [upd_ne _ _ (hne d n hd)]; exact hR.box d n hd hl
  · simp only [oclr] at he'
    split at he'
    · simp at he'
    · rename_i e1; rw [upd_ne _ _ e1]; exact hR.pth e' b' off' he'
theorem sk_sound (hc : cx.ok = true) (h : cOp P cx pe o = some i) (hR : VR cx T0 wa0 ok f w fa wa T B) (hv : sk i k ok f w) : nx cx T0 wa0 k (updO fa o.dst undef) wa := by
  have ord : cOrd cx pe o = some i → nx cx T0 wa0 k (updO fa o.dst undef) wa := by
    intro h
    obtain ⟨rfl, _, hd, _⟩ := cOrd_spec h
    exact ⟨_, _, _, ⟨T, B, hR.putO hd undef⟩, hv⟩
  unfold cOp at h
  split at h
  · rename_i t d hop hdst
    split at h
    · rename_i n hb
      split at h
      · split at h
        · simp only [Option.some.injEq] at h; subst h; rw [hdst]; exact ⟨_, _, _, ⟨T, B, hR.unbox hc hb undef⟩, hv⟩
        · simp at h
      · simp at h
    · exact ord h
  · rename_i t x d hop hdst
    split at h
    · rename_i n hb
      split at h
      · simp only [Option.some.injEq] at h; subst h; rw [hdst]; exact ⟨_, _, _, ⟨T, B, hR.unbox hc hb undef⟩, hv⟩
      · simp at h
    · exact ord h
  · rename_i s y k' e hop hdst
    split at h
    · rename_i he
      split at h
      · split at h
        · simp only [Option.some.injEq] at h; subst h; rw [hdst]; exact ⟨_, _, _, ⟨T, B, hR.unpath hc he undef⟩, hv⟩
        · split at h
          · simp only [Option.some.injEq] at h; subst h; rw [hdst]; exact ⟨_, _, _, ⟨T, B, hR.unpath hc he undef⟩, hv⟩
          · simp at h
      · simp at h
    · exact ord h
  · rename_i t y hop
    split at h
    · split at h
      · split at h
        · rename_i hd
          split at h
          · simp only [Option.some.injEq] at h; subst h; exact ⟨_, _, _, ⟨T, B, hR.putO hd undef⟩, hv⟩
          · split at h
            · simp only [Option.some.injEq] at h; subst h; exact ⟨_, _, _, ⟨T, B, hR.putO hd undef⟩, hv⟩
            · simp at h
        · simp at h
      · simp at h
    · exact ord h
  · rename_i t y x hop hdst
    split at h
    · split at h
      · split at h
        · split at h
          · split at h
            · simp only [Option.some.injEq] at h; subst h; rw [hdst]; exact ⟨_, _, _, ⟨T, B, hR⟩, hv⟩
            · simp at h
          · split at h
            · simp only [Option.some.injEq] at h; subst h; rw [hdst]; exact ⟨_, _, _, ⟨T, B, hR⟩, hv⟩
            · simp at h
        · simp at h
      · simp at h
    · exact ord h
  · exact ord h
end
/-! ### a run of operations -/
def cGuard (cx : Cx) (all : List Oper) (g : Option (Nat × Bool)) : Option (Option (Nat × Bool)) :=
  match g with
  | none => some none
  | some (j, want) => match all[j]? with
    | some o => match o.dst with
      | some t => if cx.isV t then none else some (some (t, want))
      | none => none
    | none => none
def cOne (P : Program) (cx : Cx) (pe : List (Nat × Nat × Nat)) (all : List Oper) (o : Oper) : Option VO :=
  match cGuard cx all o.guard, cOp P cx pe o with
  | some g, some i => some ⟨g, i⟩
  | _, _ => none
def cList (P : Program) (cx : Cx) (pe : List (Nat × Nat × Nat)) (all : List Oper) : List Oper → Option (List VO)
  | [] => some []
  | o :: l => match cOne P cx pe all o, cList P cx pe all l with
    | some v, some vl => some (v :: vl)
    | _, _ => none
theorem gv_dst (f : Fr) : ∀ (all : List Oper) (j : Nat) (o : Oper) (t : Nat), all[j]? = some o → o.dst = some t → gv f all j = f t
  | [], j, o, t, h, _ => by simp at h
  | x :: l, 0, o, t, h, hd => by simp only [List.getElem?_cons_zero, Option.some.injEq] at h; subst h; simp [gv, hd]
  | x :: l, j + 1, o, t, h, hd => by simpa [gv] using gv_dst f l j o t (by simpa using h) hd
def inV (cx : Cx) (T0 : Nat → Bool) (wa0 : World) (K : Fr → World → Prop) (fa : Fr) (wa : World) : Prop := ∃ f w, VRx cx T0 wa0 ok0 f w fa wa ∧ K f w
/-- one operation, guarded or not -/
theorem one_sound {P : Program} {n : Nat} {cx : Cx} {pe : List (Nat × Nat × Nat)} {T0 : Nat → Bool} {wa0 : World} {all : List Oper} {Q : Exit → Act → World → Prop} (hc : cx.ok = true) (hall : ∀ o ∈ all, operFits n o = true) {o : Oper} {v : VO} (ho : operFits n o = true) (h : cOne P cx pe all o = some v)
    {ok : OK} {f : Fr} {w : World} {fa : Fr} {a : Act} {wa : World} (hF : FRel n fa a) (hR : VRx cx T0 wa0 ok f w fa wa) {k : OK → Fr → World → Prop} {Kc : Act → World → Prop}
    (hv : match v.g with | none => vi P v.i k ok f w | some (t, want) => G (f t) want (vi P v.i k ok f w) (sk v.i k ok f w)) (hK : ∀ fa a wa, FRel n fa a → nx cx T0 wa0 k fa wa → Kc a wa) :
    if Region.wanted o (yielded all.toArray a.tmps) then o.wp P a wa Kc Q else Kc (a.put o.dst undef) wa := by
  unfold cOne at h
  split at h
  · rename_i g i hg hi
    simp only [Option.some.injEq] at h
    subst h
    obtain ⟨T, B, hR⟩ := hR
    obtain ⟨_, _, hd⟩ := operFits_spec ho
    have main : vi P i k ok f w → o.wp P a wa Kc Q := fun hv => raw_sound hF ho (vi_sound hc hi hR hv) fun v w' hx => hK _ _ _ (hF.put hd v) hx
    have skip : sk i k ok f w → Kc (a.put o.dst undef) wa := fun hv => hK _ _ _ (hF.put hd undef) (sk_sound hc hi hR hv)
    unfold cGuard at hg
    split at hg
    · rename_i hog
      simp only [Option.some.injEq] at hg
      subst hg
      rw [if_pos (by simp [Region.wanted, hog])]
      exact main hv
    · rename_i j want hog
      split at hg
      · rename_i o' ho'
        split at hg
        · rename_i t ht
          split at hg
          · simp at hg
          · rename_i hV
            simp only [Option.some.injEq] at hg
            subst hg
            simp only [] at hv
            have hy := gv_spec hF all j hall
            have hgv : gv fa all j = f t := by rw [gv_dst fa all j o' t ho' ht]; exact hR.ord t (by simpa using hV)
            unfold G at hv
            split at hv
            · rename_i b hb
              have hyb : yielded all.toArray a.tmps j = some b := (hy b).2 (hgv.trans hb)
              by_cases hbw : b = want
              · rw [if_pos (by simp [Region.wanted, hog, hyb, hbw])]; exact main (hv.1 hbw)
              · rw [if_neg (by simp [Region.wanted, hog, hyb, hbw])]; exact skip (hv.2 hbw)
            · rename_i hne
              rw [if_neg (by
                simp only [Region.wanted, hog, beq_iff_eq]
                intro e
                exact hne _ (hgv.symm.trans ((hy want).1 e)))]
              exact skip hv
        · simp at hg
      · simp at hg
  · simp at h
theorem Y_cons (P : Program) (v : VO) (l : List VO) (K : Fr → World → Prop) (ok : OK) (f : Fr) (w : World) :
    Y P (v :: l) K ok f w = match v.g with | none => vi P v.i (Y P l K) ok f w | some (t, want) => G (f t) want (vi P v.i (Y P l K) ok f w) (sk v.i (Y P l K) ok f w) := by
  obtain ⟨g, i⟩ := v
  cases g with
  | none => rfl
  | some p => rfl
theorem Y_sound {P : Program} {n : Nat} {cx : Cx} {pe : List (Nat × Nat × Nat)} {T0 : Nat → Bool} {wa0 : World} {all : List Oper} {Q : Exit → Act → World → Prop} {K : Fr → World → Prop} (hc : cx.ok = true) (hall : ∀ o ∈ all, operFits n o = true)
    (hQ : ∀ fa a wa, FRel n fa a → inV cx T0 wa0 K fa wa → Q .normal a wa) : ∀ (l : List Oper) (vl : List VO), cList P cx pe all l = some vl → (∀ o ∈ l, operFits n o = true) → ∀ (ok : OK) (f : Fr) (w : World) (fa : Fr) (a : Act) (wa : World), FRel n fa a → VRx cx T0 wa0 ok f w fa wa →
      Y P vl K ok f w → wpList P all.toArray Q l a wa := by
  intro l
  induction l with
  | nil =>
    intro vl h _ ok f w fa a wa hF hR hY
    simp only [cList, Option.some.injEq] at h
    subst h
    obtain ⟨T, B, hR⟩ := hR
    exact hQ fa a wa hF ⟨f, w, ⟨T, B, hR.clear⟩, hY⟩
  | cons o rest ih =>
    intro vl h hl ok f w fa a wa hF hR hY
    simp only [cList] at h
    split at h
    · rename_i v vl' hv hvl
      simp only [Option.some.injEq] at h
      subst h
      rw [Y_cons] at hY
      refine wpList_step fun Kc hKc => ?_
      exact one_sound hc hall (hl o (by simp)) hv hF hR hY fun fa a wa hF' ⟨ok', f', w', hR', hk⟩ => hKc _ _ (ih vl' hvl (fun o h => hl o (by simp [h])) ok' f' w' fa a wa hF' hR' hk)
    · simp at h
end Go.W
