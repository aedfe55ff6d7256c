/-
  Regions that draw their order: that the pass in the order of the text serves every order.
-/
import Derived.Test.YtblogcihkjhgkaaV5
set_option linter.unusedSimpArgs false
set_option linter.unusedVariables false
namespace Go.W
theorem disj_spec {a b : List Nat} (h : disj a b = true) : ∀ t ∈ a, t ∉ b := by
  intro t ht
  have := List.all_eq_true.1 h t ht
  simpa using this
theorem apart_spec {o p : DI} (h : apart o p = true) : (∀ t ∈ wrS o.i, t ∉ rdS p.i ∧ t ∉ gS p.g ∧ t ∉ wrS p.i) ∧ (∀ t ∈ wrS p.i, t ∉ rdS o.i ∧ t ∉ gS o.g) := by
  simp only [apart, Bool.and_eq_true] at h
  refine ⟨fun t ht => ?_, fun t ht => ?_⟩
  · have := disj_spec h.1 t ht
    simp only [List.mem_append, not_or] at this
    exact ⟨this.1.1, this.1.2, this.2⟩
  · have := disj_spec h.2 t ht
    simpa using this
section
variable {P : Program} {w1 : World} {Ps : Psi} {o p : DI} {k : Fact → OK × Fr → Prop} {F : Fact} {s : OK × Fr}
def Bh (P : Program) (w1 : World) (o : DI) (s : OK × Fr) (E : Eff) : Prop := (wants o.g s.2 = true ∧ isL o.i = true ∧ ef P w1 o.i s = some E) ∨ (wants o.g s.2 = false ∧ E = es o.i)
def Ph (o : DI) (s : OK × Fr) : Prop := wants o.g s.2 = true ∧ isL o.i = false
theorem stepY_iff : stepY P w1 Ps o k F s ↔ (∃ E, Bh P w1 o s E ∧ k F (ap E s)) ∨ (Ph o s ∧ PhY P w1 Ps o k F s) := by
  unfold stepY
  by_cases hw : wants o.g s.2 = true
  · rw [if_pos hw]
    by_cases hl : isL o.i = true
    · rw [if_pos hl]
      unfold kE
      constructor
      · intro h
        split at h
        · rename_i E he; exact .inl ⟨E, .inl ⟨hw, hl, he⟩, h⟩
        · exact h.elim
      · rintro (⟨E, (⟨_, _, he⟩ | ⟨hx, _⟩), hk⟩ | ⟨⟨_, hx⟩, _⟩)
        · rw [he]; exact hk
        · rw [hw] at hx; cases hx
        · rw [hl] at hx; cases hx
    · rw [if_neg hl]
      constructor
      · intro h; exact .inr ⟨⟨hw, by simpa using hl⟩, h⟩
      · rintro (⟨E, (⟨_, hx, he⟩ | ⟨hx, _⟩), hk⟩ | ⟨_, h⟩)
        · exact (hl hx).elim
        · rw [hw] at hx; cases hx
        · exact h
  · rw [if_neg hw]
    have hwf : wants o.g s.2 = false := by simpa using hw
    constructor
    · intro h; exact .inl ⟨_, .inr ⟨hwf, rfl⟩, h⟩
    · rintro (⟨E, (⟨hx, _, he⟩ | ⟨_, rfl⟩), hk⟩ | ⟨⟨hx, _⟩, _⟩)
      · exact (hw hx).elim
      · exact hk
      · exact (hw hx).elim
theorem Bh_fun {E E' : Eff} (h : Bh P w1 o s E) (h' : Bh P w1 o s E') : E = E' := by
  rcases h with ⟨a, b, c⟩ | ⟨a, b⟩ <;> rcases h' with ⟨a', b', c'⟩ | ⟨a', b'⟩
  · rw [c] at c'; exact Option.some.inj c'
  · rw [a] at a'; cases a'
  · rw [a] at a'; cases a'
  · rw [b, b']
theorem Bh_not {E : Eff} (h : Bh P w1 o s E) : ¬ Ph o s := by
  rintro ⟨h1, h2⟩
  rcases h with ⟨_, h3, _⟩ | ⟨h3, _⟩
  · rw [h2] at h3; cases h3
  · rw [h1] at h3; cases h3
theorem Bh_ap {E E' : Eff} (h : ∀ t, tgt E' = some t → t ∉ rdS o.i ∧ t ∉ gS o.g) : Bh P w1 o (ap E' s) E ↔ Bh P w1 o s E := by
  unfold Bh
  rw [ef_ap fun t ht => (h t ht).1, wants_on (ap_fr fun t ht => (h t ht).2)]
theorem Ph_ap {E' : Eff} (h : ∀ t, tgt E' = some t → t ∉ rdS o.i ∧ t ∉ gS o.g) : Ph o (ap E' s) ↔ Ph o s := by
  unfold Ph
  rw [wants_on (ap_fr fun t ht => (h t ht).2)]
theorem Bh_tgt {E : Eff} (h : Bh P w1 o s E) {t : Nat} (ht : tgt E = some t) : t ∈ wrS o.i := by
  rcases h with ⟨_, _, h⟩ | ⟨_, rfl⟩
  · exact tgt_ef h ht
  · exact tgt_es ht
theorem Bh_tok {e b off : Nat} (h : Bh P w1 o s (.tok e b off)) : b ∈ rdS o.i := by
  rcases h with ⟨_, _, h⟩ | ⟨_, h⟩
  · exact tok_ef h
  · cases hi : o.i <;> rw [hi] at h <;> simp [es] at h
theorem args_ap {q : Op} {d : Option Nat} {ty : TypeId} (hi : o.i = .op d q ty) {E' : Eff} (h : ∀ t, tgt E' = some t → t ∉ rdS o.i ∧ t ∉ gS o.g) : ∀ x ∈ q.operands, ev (ap E' s).2 x = ev s.2 x :=
  evs_on (ap_fr fun t ht => by have := (h t ht).1; rwa [hi] at this)
theorem args_eq {q : Op} {f g : Fr} (h : ∀ x ∈ q.operands, ev f x = ev g x) : args q f = args q g := List.map_congr_left fun x hx => h x (by simpa using hx)
theorem FD_upd {n : Nat} {φ : World → Prop} {deps : List Nat} (h : n ∉ deps) (w : World) : FD (updF F n φ) deps w ↔ FD F deps w := by
  constructor
  · intro hf m hm
    have := hf m hm
    rwa [updF, if_neg (by rintro rfl; exact h hm)] at this
  · intro hf m hm
    rw [updF, if_neg (by rintro rfl; exact h hm)]
    exact hf m hm
theorem updF_comm {n m : Nat} (h : n ≠ m) (φ ψ : World → Prop) : updF (updF F n φ) m ψ = updF (updF F m ψ) n φ := by
  funext t
  simp only [updF]
  by_cases h1 : t = m <;> by_cases h2 : t = n
  · exact (h (h2.symm.trans h1)).elim
  · subst h1; rw [if_pos rfl, if_neg h2, if_pos rfl]
  · subst h2; rw [if_neg h1, if_pos rfl, if_pos rfl]
  · rw [if_neg h1, if_neg h2, if_neg h2, if_neg h1]
/-- what is asked of an operation that is known by what it hands back, in a state that differs where it does not look -/
theorem PhY_ap {E' : Eff} (h : ∀ t, tgt E' = some t → t ∉ rdS o.i ∧ t ∉ gS o.g) {k' : Fact → OK × Fr → Prop} {F' : Fact} (hF : ∀ w, FD F' o.deps w → FD F o.deps w)
    (hFA : ∀ w, FA F' w → FA F w) (hk : ∀ d v ψ, dl d = wrS o.i → k (updF F o.n ψ) (ap (.slot d v) (ap E' s)) → k' (updF F' o.n ψ) (ap (.slot d v) s)) (hp : PhY P w1 Ps o k F (ap E' s)) : PhY P w1 Ps o k' F' s := by
  unfold PhY at hp ⊢
  split at hp
  · rename_i d q ty hi
    obtain ⟨h1, h2, h3, h4⟩ := hp
    have ha := args_ap (s := s) hi h
    rw [args_eq ha] at h2 h3 h4
    refine ⟨h1, h2, fun w' hE hf => opV_congr h1 ha (h3 w' hE (hF w' hf)), fun v ⟨w', q1, q2, q3⟩ => hk d v _ (by rw [hi]; rfl) (h4 v ⟨w', q1, hFA w' q2, q3⟩)⟩
  · exact hp.elim
theorem PhY_pa {E' : Eff} (h : ∀ t, tgt E' = some t → t ∉ rdS o.i ∧ t ∉ gS o.g) {k' : Fact → OK × Fr → Prop} {F' : Fact} (hF : ∀ w, FD F' o.deps w → FD F o.deps w)
    (hFA : ∀ w, FA F' w → FA F w) (hk : ∀ d v ψ, dl d = wrS o.i → (∃ w', Ext w1 w' ∧ FA F w' ∧ ψ w') → k (updF F o.n ψ) (ap (.slot d v) s) → k' (updF F' o.n ψ) (ap (.slot d v) (ap E' s))) (hp : PhY P w1 Ps o k F s) : PhY P w1 Ps o k' F' (ap E' s) := by
  unfold PhY at hp ⊢
  split at hp
  · rename_i d q ty hi
    obtain ⟨h1, h2, h3, h4⟩ := hp
    have ha := args_ap (s := s) hi h
    rw [args_eq ha]
    refine ⟨h1, h2, fun w' hE hf => opV_congr h1 (fun x hx => (ha x hx).symm) (h3 w' hE (hF w' hf)), fun v ⟨w', q1, q2, q3⟩ => hk d v _ (by rw [hi]; rfl) ⟨w', q1, hFA w' q2, q3⟩ (h4 v ⟨w', q1, hFA w' q2, q3⟩)⟩
  · exact hp.elim
theorem FA_upd {n : Nat} {φ : World → Prop} (h0 : F n = fun _ => True) {w : World} : FA (updF F n φ) w ↔ (φ w ∧ FA F w) := by
  constructor
  · intro h
    refine ⟨by have := h n; simpa [updF] using this, fun m => ?_⟩
    by_cases e : m = n
    · subst e; rw [h0]; trivial
    · have := h m; simpa [updF, e] using this
  · rintro ⟨h1, h2⟩ m
    simp only [updF]
    split
    · exact h1
    · exact h2 m
theorem swap (hap : apart o p = true) (hd1 : p.n ∉ o.deps) (hd2 : o.n ∉ p.deps) (hn : o.n ≠ p.n) (hS : ∃ w, Ext w1 w ∧ FA F w) (hSt : ∀ m, St (F m)) (h0o : F o.n = fun _ => True) (h0p : F p.n = fun _ => True)
    (h : stepY P w1 Ps p (stepY P w1 Ps o k) F s) : stepY P w1 Ps o (stepY P w1 Ps p k) F s := by
  obtain ⟨a1, a2⟩ := apart_spec hap
  have farS : ∀ (x y : DI), (∀ t ∈ wrS x.i, t ∉ rdS y.i ∧ t ∉ gS y.g) → ∀ d (v : Value), dl d = wrS x.i → ∀ t, tgt (.slot d v) = some t → t ∉ rdS y.i ∧ t ∉ gS y.g := by
    intro x y hx d v hd t ht
    simp only [tgt] at ht
    subst ht
    exact hx t (by rw [← hd]; simp [dl])
  have wo : ∀ t ∈ wrS o.i, t ∉ rdS p.i ∧ t ∉ gS p.g := fun t ht => ⟨(a1 t ht).1, (a1 t ht).2.1⟩
  have hne : ∀ t, t ∈ wrS o.i → t ∈ wrS p.i → False := fun t h1 h2 => (a1 t h1).2.2 h2
  rcases stepY_iff.1 h with ⟨Ep, hbp, h⟩ | ⟨hpp, h⟩
  · have fp : ∀ t, tgt Ep = some t → t ∉ rdS o.i ∧ t ∉ gS o.g := fun t ht => a2 t (Bh_tgt hbp ht)
    rcases stepY_iff.1 h with ⟨Eo, hbo, hk⟩ | ⟨hpo, hk⟩
    · have hbo' := (Bh_ap fp).1 hbo
      have fo : ∀ t, tgt Eo = some t → t ∉ rdS p.i ∧ t ∉ gS p.g := fun t ht => wo t (Bh_tgt hbo' ht)
      refine stepY_iff.2 (.inl ⟨Eo, hbo', stepY_iff.2 (.inl ⟨Ep, (Bh_ap fo).2 hbp, ?_⟩)⟩)
      rw [ap_comm (E := Ep) (E' := Eo)]
      · exact hk
      · intro t h1 h2; exact hne t (Bh_tgt hbo' h2) (Bh_tgt hbp h1)
      · rintro e b off rfl h2; exact (fo b h2).1 (Bh_tok hbp)
      · rintro e b off rfl h2; exact (fp b h2).1 (Bh_tok hbo')
    · refine stepY_iff.2 (.inr ⟨(Ph_ap fp).1 hpo, PhY_ap fp (fun _ h => h) (fun _ h => h) (fun d v ψ hd hk => ?_) hk⟩)
      have fo := farS o p wo d v hd
      refine stepY_iff.2 (.inl ⟨Ep, (Bh_ap fo).2 hbp, ?_⟩)
      rw [ap_comm (E := Ep) (E' := .slot d v)]
      · exact hk
      · intro t h1 h2; exact hne t (by simp only [tgt] at h2; subst h2; rw [← hd]; simp [dl]) (Bh_tgt hbp h1)
      · rintro e b off rfl h2; exact (fo b h2).1 (Bh_tok hbp)
      · intro e b off h2; cases h2
  · have hph := h
    unfold PhY at h
    split at h
    · rename_i dp q ty hi
      obtain ⟨h1, h2, h3, h4⟩ := h
      have hdp : dl dp = wrS p.i := by rw [hi]; rfl
      have fpv : ∀ v t, tgt (.slot dp v) = some t → t ∉ rdS o.i ∧ t ∉ gS o.g := fun v => farS p o a2 dp v hdp
      obtain ⟨u0, hu0⟩ : ∃ u0, ∃ w', Ext w1 w' ∧ FA F w' ∧ Ps p.n (args q s.2) u0 w' := by
        obtain ⟨w0, hE0, hF0⟩ := hS
        obtain ⟨u0, w', hE', hψ⟩ := opV_ex (h3 w0 hE0 fun m _ => hF0 m)
        exact ⟨u0, w', hE0.trans hE', fun m => hSt m w0 w' (hF0 m) hE', hψ⟩
      by_cases hpo : Ph o s
      · refine stepY_iff.2 (.inr ⟨hpo, ?_⟩)
        have hin : ∀ u, (∃ w', Ext w1 w' ∧ FA F w' ∧ Ps p.n (args q s.2) u w') → PhY P w1 Ps o k (updF F p.n (Ps p.n (args q s.2) u)) (ap (.slot dp u) s) := by
          intro u hu
          rcases stepY_iff.1 (h4 u hu) with ⟨E, hb, _⟩ | ⟨_, hx⟩
          · exact (Bh_not hb ((Ph_ap (fpv u)).2 hpo)).elim
          · exact hx
        have h0 := hin u0 hu0
        unfold PhY at h0 ⊢
        split at h0
        · rename_i do_ qo tyo hio
          obtain ⟨g1, g2, g3, g4⟩ := h0
          have hdo : dl do_ = wrS o.i := by rw [hio]; rfl
          have ha : ∀ u, ∀ x ∈ qo.operands, ev (ap (.slot dp u) s).2 x = ev s.2 x := fun u => args_ap (s := s) hio (fpv u)
          rw [args_eq (ha u0)] at g2 g3
          refine ⟨g1, g2, fun w' hE hf => opV_congr g1 (ha u0) (g3 w' hE ((FD_upd hd1 w').2 hf)), fun v hv => ?_⟩
          have fov := farS o p wo do_ v hdo
          have hpp' := (Ph_ap (s := s) fov).2 hpp
          refine stepY_iff.2 (.inr ⟨hpp', ?_⟩)
          have hap' := args_ap (s := s) hi fov
          have e0 : args q (updO s.2 do_ v) = args q s.2 := args_eq hap'
          unfold PhY
          rw [hi]
          simp only []
          refine ⟨h1, ?_, ?_, fun u hu => ?_⟩
          · rw [e0]; exact h2
          · rw [e0]; exact fun w' hE hf => opV_congr h1 (fun x hx => (hap' x hx).symm) (h3 w' hE ((FD_upd hd2 w').1 hf))
          · rw [e0] at hu
            obtain ⟨w', q1, q2, q3⟩ := hu
            obtain ⟨q4, q5⟩ := (FA_upd h0o).1 q2
            have h5 := hin u ⟨w', q1, q5, q3⟩
            unfold PhY at h5
            rw [hio] at h5
            obtain ⟨_, _, _, h6⟩ := h5
            have e1 : args qo (ap (.slot dp u) s).2 = args qo s.2 := args_eq (ha u)
            have h7 := h6 v (by rw [e1]; exact ⟨w', q1, (FA_upd h0p).2 ⟨q3, q5⟩, q4⟩)
            rw [e1] at h7
            rw [e0, updF_comm hn]
            have hc := ap_comm (s := s) (E := .slot dp u) (E' := .slot do_ v) (fun t h1 h2 => hne t (by simp only [tgt] at h2; subst h2; rw [← hdo]; simp [dl]) (by simp only [tgt] at h1; subst h1; rw [← hdp]; simp [dl])) (fun e b off h => by cases h) (fun e b off h => by cases h)
            show k _ (ap (.slot dp u) (ap (.slot do_ v) s))
            rw [hc]
            exact h7
        · exact h0.elim
      · have hE : ∃ Eo, Bh P w1 o s Eo := by
          rcases stepY_iff.1 (h4 u0 hu0) with ⟨E, hb, _⟩ | ⟨hx, _⟩
          · exact ⟨E, (Bh_ap (fpv u0)).1 hb⟩
          · exact (hpo ((Ph_ap (fpv u0)).1 hx)).elim
        obtain ⟨Eo, hbo⟩ := hE
        have fo : ∀ t, tgt Eo = some t → t ∉ rdS p.i ∧ t ∉ gS p.g := fun t ht => wo t (Bh_tgt hbo ht)
        refine stepY_iff.2 (.inl ⟨Eo, hbo, stepY_iff.2 (.inr ⟨(Ph_ap fo).2 hpp, PhY_pa fo (fun _ h => h) (fun _ h => h) (fun d u ψ hd hu hk => ?_) hph⟩)⟩)
        have fpv := farS p o a2 d u hd
        rcases stepY_iff.1 hk with ⟨E, hb, hk⟩ | ⟨hx, _⟩
        · have := Bh_fun ((Bh_ap fpv).1 hb) hbo
          subst this
          rw [ap_comm (E := .slot d u) (E' := E)]
          · exact hk
          · intro t h1 h2; exact hne t (Bh_tgt hbo h2) (by simp only [tgt] at h1; subst h1; rw [← hd]; simp [dl])
          · intro e b off h2; cases h2
          · rintro e b off rfl h2; exact (fpv b h2).1 (Bh_tok hbo)
        · exact (hpo ((Ph_ap fpv).1 hx)).elim
    · exact h.elim
theorem stepY_monoF {k' : Fact → OK × Fr → Prop} (hm : ∀ s, k F s → k' F s) (hm2 : ∀ ψ s, (∃ w', Ext w1 w' ∧ FA F w' ∧ ψ w') → St ψ → k (updF F o.n ψ) s → k' (updF F o.n ψ) s) (h : stepY P w1 Ps o k F s) : stepY P w1 Ps o k' F s := by
  rcases stepY_iff.1 h with ⟨E, hb, hk⟩ | ⟨hp, hx⟩
  · exact stepY_iff.2 (.inl ⟨E, hb, hm _ hk⟩)
  · refine stepY_iff.2 (.inr ⟨hp, ?_⟩)
    unfold PhY at hx ⊢
    split at hx
    · exact ⟨hx.1, hx.2.1, hx.2.2.1, fun v hv => hm2 _ _ hv (hx.2.1 v) (hx.2.2.2 v hv)⟩
    · exact hx.elim
theorem stepY_mono {k' : Fact → OK × Fr → Prop} (hm : ∀ F s, k F s → k' F s) (h : stepY P w1 Ps o k F s) : stepY P w1 Ps o k' F s := stepY_monoF (hm F) (fun ψ s _ _ => hm _ s) h
theorem take_first {K : OK → Fr → World → Prop} {post : List DI} : ∀ (pre : List DI), (pre.map (·.n)).Nodup → (∀ p ∈ pre, apart o p = true ∧ p.n ∉ o.deps ∧ o.n ∉ p.deps ∧ o.n ≠ p.n) → ∀ (F : Fact) (s : OK × Fr), (∃ w, Ext w1 w ∧ FA F w) → (∀ m, St (F m)) → F o.n = (fun _ => True) → (∀ p ∈ pre, F p.n = fun _ => True) →
    YD P w1 Ps K (pre ++ o :: post) F s → stepY P w1 Ps o (YD P w1 Ps K (pre ++ post)) F s := by
  intro pre
  induction pre with
  | nil => intro _ _ F s _ _ _ _ h; exact h
  | cons p pre ih =>
    intro hnd hall F s hS hSt h0 h0s h
    have h' : stepY P w1 Ps p (YD P w1 Ps K (pre ++ o :: post)) F s := h
    simp only [List.map_cons, List.nodup_cons] at hnd
    obtain ⟨q1, q2, q3, q4⟩ := hall p (by simp)
    have hp0 := h0s p (by simp)
    have hpre : ∀ x ∈ pre, x.n ≠ p.n := fun x hx e => hnd.1 (e ▸ List.mem_map.2 ⟨x, hx, rfl⟩)
    have h2 : stepY P w1 Ps p (stepY P w1 Ps o (YD P w1 Ps K (pre ++ post))) F s := by
      refine stepY_monoF (k := YD P w1 Ps K (pre ++ o :: post)) (fun s hs => ih hnd.2 (fun q hq => hall q (by simp [hq])) F s hS hSt h0 (fun x hx => h0s x (by simp [hx])) hs) (fun ψ s hψ hSψ hs => ?_) h'
      refine ih hnd.2 (fun q hq => hall q (by simp [hq])) _ s ?_ ?_ ?_ ?_ hs
      · obtain ⟨w', e1, e2, e3⟩ := hψ
        exact ⟨w', e1, (FA_upd hp0).2 ⟨e3, e2⟩⟩
      · intro m
        simp only [updF]
        split
        · exact hSψ
        · exact hSt m
      · rw [updF, if_neg q4]; exact h0
      · intro x hx
        rw [updF, if_neg (hpre x hx)]; exact h0s x (by simp [hx])
    exact swap q1 q2 q3 q4 hS hSt h0 hp0 h2
/-- what the pass says of an operation, in a world that has grown -/
def kW (w1 : World) (F0 : Fact) (n : Nat) (next : Fact → OK × Fr → Prop) (ok : OK) (f : Fr) (w : World) : Prop := ∃ F, (∀ m, m ≠ n → F m = F0 m) ∧ Ext w1 w ∧ FA F w ∧ (∀ m, St (F m)) ∧ next F (ok, f)
theorem ef_vi {i : VI} {w : World} {E : Eff} (hE : Ext w1 w) (h : ef P w1 i s = some E) {k : OK → Fr → World → Prop} (hk : ∀ w', Ext w w' → k (ap E s).1 (ap E s).2 w') : vi P i k s.1 s.2 w := by
  cases i <;> simp only [ef] at h <;> simp only [vi]
  case op d o ty =>
    obtain ⟨p, hp, rfl⟩ := Option.map_eq_some_iff.1 h
    obtain ⟨v, w'⟩ := p
    exact rdW_opV (rdW_ext hE hp) (hk w (Ext.refl _))
  case path e b off via =>
    split at h
    · rename_i hc
      simp only [Option.some.injEq] at h; subst h
      refine ⟨hc.1, ?_, hk w (Ext.refl _)⟩
      have := hc.2
      unfold vvia at this
      exact this
    · simp at h
  case part d via b off n ag =>
    split at h
    · rename_i hc
      obtain ⟨v, hv, rfl⟩ := Option.map_eq_some_iff.1 h
      refine ⟨hc, ?_⟩
      rw [hv]; exact hk w (Ext.refl _)
    · simp at h
  case put via b off n x =>
    split at h
    · rename_i hc
      obtain ⟨v, hv, rfl⟩ := Option.map_eq_some_iff.1 h
      refine ⟨hc, ?_⟩
      rw [hv]; exact hk w (Ext.refl _)
    · simp at h
  case set b n x =>
    split at h
    · rename_i hc
      simp only [Option.some.injEq] at h; subst h
      exact ⟨hc.1, hc.2, hk w (Ext.refl _)⟩
    · simp at h
  case new b z => simp only [Option.some.injEq] at h; subst h; exact hk _ ((Ext.refl _).alloc _)
  case box b n x =>
    split at h
    · rename_i hc
      simp only [Option.some.injEq] at h; subst h
      exact ⟨hc, hk _ ((Ext.refl _).alloc _)⟩
    · simp at h
theorem es_sk {i : VI} {w : World} {k : OK → Fr → World → Prop} (hk : k (ap (es i) s).1 (ap (es i) s).2 w) : sk i k s.1 s.2 w := by
  cases i <;> exact hk
theorem stepY_vi {next : Fact → OK × Fr → Prop} {w : World} (hE : Ext w1 w) (hF : FA F w) (hS : ∀ m, St (F m)) (h : stepY P w1 Ps o next F s) :
    match o.g with | none => vi P o.i (kW w1 F o.n next) s.1 s.2 w | some (t, want) => G (s.2 t) want (vi P o.i (kW w1 F o.n next) s.1 s.2 w) (sk o.i (kW w1 F o.n next) s.1 s.2 w) := by
  have hext : ∀ w', Ext w w' → FA F w' := fun w' hE' m => hS m w w' (hF m) hE'
  have run : wants o.g s.2 = true → vi P o.i (kW w1 F o.n next) s.1 s.2 w := by
    intro hw
    rcases stepY_iff.1 h with ⟨E, hb, hk⟩ | ⟨_, hx⟩
    · rcases hb with ⟨_, _, he⟩ | ⟨hx, _⟩
      · exact ef_vi hE he fun w' hE' => ⟨F, fun _ _ => rfl, hE.trans hE', hext w' hE', hS, hk⟩
      · rw [hw] at hx; cases hx
    · unfold PhY at hx
      split at hx
      · rename_i d q ty hi
        obtain ⟨h1, h2, h3, h4⟩ := hx
        rw [hi]
        refine opV_mono ?_ (h3 w hE fun m _ => hF m)
        rintro v w'' ⟨hE', hψ⟩
        refine ⟨_, fun m hm => by rw [updF, if_neg hm], hE.trans hE', ?_, ?_, h4 v ⟨w'', hE.trans hE', hext w'' hE', hψ⟩⟩
        · intro m
          simp only [updF]
          split
          · exact hψ
          · exact hext w'' hE' m
        · intro m
          simp only [updF]
          split
          · exact h2 v
          · exact hS m
      · exact hx.elim
  have skip : wants o.g s.2 = false → sk o.i (kW w1 F o.n next) s.1 s.2 w := by
    intro hw
    rcases stepY_iff.1 h with ⟨E, hb, hk⟩ | ⟨⟨hx, _⟩, _⟩
    · rcases hb with ⟨hx, _⟩ | ⟨_, rfl⟩
      · rw [hw] at hx; cases hx
      · exact es_sk ⟨F, fun _ _ => rfl, hE, hF, hS, hk⟩
    · rw [hw] at hx; cases hx
  cases hg : o.g with
  | none => exact run (by rw [hg]; rfl)
  | some q =>
    obtain ⟨t, want⟩ := q
    simp only []
    unfold G
    split
    · rename_i b hb
      refine ⟨fun e => run ?_, fun e => skip ?_⟩
      · rw [hg]; simp only [wants, hb, e, beq_self_eq_true]
      · rw [hg]; simp only [wants, hb]; simpa using e
    · rename_i hne
      refine skip ?_
      rw [hg]
      simp only [wants]
      all_goals (split <;> first | rfl | (rename_i b hb; exact (hne b hb).elim))
end
end Go.W
