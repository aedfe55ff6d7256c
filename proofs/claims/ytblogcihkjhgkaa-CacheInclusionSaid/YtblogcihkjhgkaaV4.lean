/-
  Regions that draw their order: one pass in the order of the text. Operations that only read, or write slots and boxes, have one effect; the others (calls, new memory) are known by what they hand back.
-/
import Derived.Test.YtblogcihkjhgkaaV3
set_option linter.unusedSimpArgs false
set_option linter.unusedVariables false
namespace Go.W
theorem opV_bin_of {P : Program} {o : BinOp} {t t' ty : TypeId} {x y : Operand} {f : Fr} {w : World} {K : Value → World → Prop} (hB : B (sBin P o t (ev f x) (ev f y) w) K) : opV P (.binOp o t x y t') ty f w K := by
  show (if ty = 999999 then rawV P (.binOp o t x y t') ty f w K else B (sBin P o t (ev f x) (ev f y) w) K)
  split
  · exact fun T wa hw hT => sBin_sound (B_up (Tr_rdW P (.binOp o t x y t') f) hT (by subst hw; exact hB))
  · exact hB
theorem rdW_opV {P : Program} {op : Op} {ty : TypeId} {f : Fr} {w w' : World} {v : Value} {K : Value → World → Prop} (h : rdW P op f w = some (v, w')) (hk : K v w') : opV P op ty f w K := by
  unfold rdW at h
  split at h
  all_goals first
    | (simp only [Option.some.injEq, Prod.mk.injEq] at h; obtain ⟨rfl, rfl⟩ := h; exact hk)
    | (show B _ K; rw [h]; exact hk)
    | (refine opV_bin_of ?_; rw [h]; exact hk)
    | skip
  · rename_i b as ts
    split at h
    · rename_i x t h1 h2
      obtain rfl : as = #[x] := by apply Array.ext'; simpa using h1
      obtain rfl : ts = #[t] := by apply Array.ext'; simpa using h2
      show B _ K; rw [h]; exact hk
    · rename_i x y h1
      obtain rfl : as = #[x, y] := by apply Array.ext'; simpa using h1
      show B _ K; rw [h]; exact hk
    · rename_i x y h1
      obtain rfl : as = #[x, y] := by apply Array.ext'; simpa using h1
      show B _ K; rw [h]; exact hk
    · simp at h
  · simp at h
theorem callV_mono {P : Program} {c : Call} {ty : TypeId} {f : Fr} {w : World} {K K' : Value → World → Prop} (hm : ∀ v w, K v w → K' v w) (h : callV P c ty f w K) : callV P c ty f w K' := by
  rcases c with ⟨callee, as, ts⟩
  cases callee with
  | builtin b =>
    cases b
    case len =>
      simp only [callV] at h ⊢
      generalize has : as.toList = la at h ⊢
      generalize hts : ts.toList = lt at h ⊢
      rcases la with _ | ⟨x, _ | ⟨y, r⟩⟩ <;> rcases lt with _ | ⟨t, _ | ⟨u, r'⟩⟩ <;> first | exact B_mono hm h | exact rawV_mono hm h
    case max =>
      simp only [callV] at h ⊢
      generalize has : as.toList = la at h ⊢
      rcases la with _ | ⟨x, _ | ⟨y, _ | ⟨z, r⟩⟩⟩ <;> first | exact B_mono hm h | exact rawV_mono hm h
    case min =>
      simp only [callV] at h ⊢
      generalize has : as.toList = la at h ⊢
      rcases la with _ | ⟨x, _ | ⟨y, _ | ⟨z, r⟩⟩⟩ <;> first | exact B_mono hm h | exact rawV_mono hm h
    all_goals exact rawV_mono hm h
  | value f0 => cases f0 <;> first | exact VRet.mono h hm | exact rawV_mono hm h
  | invoke a b => exact rawV_mono hm h
theorem opV_mono {P : Program} {op : Op} {ty : TypeId} {f : Fr} {w : World} {K K' : Value → World → Prop} (hm : ∀ v w, K v w → K' v w) (h : opV P op ty f w K) : opV P op ty f w K' := by
  cases op
  case unOp o t x => cases o <;> simp only [opV] at h ⊢ <;> first | exact B_mono hm h | exact rawV_mono hm h
  case makeMap t r => cases r <;> simp only [opV] at h ⊢ <;> first | exact B_mono hm h | exact rawV_mono hm h
  case slice t x lo hi mx => cases mx <;> simp only [opV] at h ⊢ <;> first | exact B_mono hm h | exact rawV_mono hm h
  case call c => exact callV_mono hm h
  case move x => exact hm _ _ h
  case assign x => exact hm _ _ h
  case buildSlice t n ps => exact ⟨h.1, B_mono hm h.2⟩
  case binOp o t x y t' =>
    simp only [opV] at h ⊢
    split at h
    · rename_i e; rw [if_pos e]; exact rawV_mono hm h
    · rename_i e; rw [if_neg e]; exact B_mono hm h
  all_goals (simp only [opV] at h ⊢; first | exact B_mono hm h | exact rawV_mono hm h)
/-! ### what is read -/
def oslot : Operand → List Nat
  | .tmp t => [t]
  | _ => []
def oslots (o : Op) : List Nat := o.operands.toList.flatMap oslot
def sameOn (l : List Nat) (f g : Fr) : Prop := ∀ t ∈ l, f t = g t
theorem ev_on {f g : Fr} {x : Operand} (h : sameOn (oslot x) f g) : ev f x = ev g x := by
  cases x with
  | tmp t => exact h t (by simp [oslot])
  | _ => rfl
theorem evs_on {f g : Fr} {o : Op} (h : sameOn (oslots o) f g) : ∀ x ∈ o.operands, ev f x = ev g x := by
  intro x hx
  refine ev_on fun t ht => h t ?_
  exact List.mem_flatMap.2 ⟨x, by simpa using hx, ht⟩
theorem rdW_congr {P : Program} {op : Op} {f g : Fr} {w : World} (h : ∀ x ∈ op.operands, ev f x = ev g x) : rdW P op f w = rdW P op g w := by
  unfold rdW
  split <;> (try rfl)
  all_goals try (simp only [Op.operands, List.mem_toArray, List.mem_cons, List.not_mem_nil, or_false, forall_eq_or_imp, forall_eq] at h)
  all_goals try (simp only [h]; done)
  · rename_i t ps
    congr 1
    apply List.map_congr_left
    intro p hp
    have := h p.2 (by simp only [Op.operands, List.mem_toArray, List.mem_map]; exact ⟨p, hp, rfl⟩)
    rw [this]
  · rename_i t x lo hi
    have h1 := h x (by simp [Op.operands])
    have h2 : lo.map (ev f) = lo.map (ev g) := by
      cases lo with
      | none => rfl
      | some l => simp only [Option.map_some]; rw [h l (by simp [Op.operands])]
    have h3 : hi.map (ev f) = hi.map (ev g) := by
      cases hi with
      | none => rfl
      | some l => simp only [Option.map_some]; rw [h l (by simp [Op.operands])]
    rw [h1, h2, h3]
  · rename_i b as ts
    have h' : ∀ x ∈ as.toList, ev f x = ev g x := fun x hx => h x (by simp only [Op.operands, Call.operands, Array.mem_append]; right; simpa using hx)
    generalize as.toList = la at *
    generalize ts.toList = lt at *
    split
    · rw [h' _ (by simp)]
    · rw [h' _ (by simp), h' _ (by simp)]
    · rw [h' _ (by simp), h' _ (by simp)]
    · rfl
theorem opV_congr {P : Program} {op : Op} {ty : TypeId} {f g : Fr} {w : World} {K : Value → World → Prop} (hs : isSel op = false) (h : ∀ x ∈ op.operands, ev f x = ev g x) (hv : opV P op ty f w K) : opV P op ty g w K := by
  have hsel : ∀ cs b, op ≠ .select cs b := by rintro cs b rfl; simp [isSel] at hs
  have hraw : rawV P op ty f w K → rawV P op ty g w K := fun hr T wa h1 h2 => raw_congr hsel (fun x hx => (h x hx).symm) (hr T wa h1 h2)
  have hrd : ∀ w, rdW P op f w = rdW P op g w := fun w => rdW_congr h
  unfold opV at hv ⊢
  split at hv
  case h_11 o t x y t' =>
    have h1 := hrd w
    simp only [rdW] at h1
    split at hv
    · rename_i e; simp only [if_pos e]; exact hraw hv
    · rename_i e; simp only [if_neg e]; rw [← h1]; exact hv
  all_goals try (have h1 := hrd w; simp only [rdW] at h1; first | (rw [← h1]; exact hv) | skip; done)
  · simp only [Op.operands, List.mem_toArray, List.mem_cons, List.not_mem_nil, or_false, forall_eq] at h; rw [← h]; exact hv
  · simp only [Op.operands, List.mem_toArray, List.mem_cons, List.not_mem_nil, or_false, forall_eq] at h; rw [← h]; exact hv
  · exact hv
  · simp only [Op.operands, List.mem_toArray, List.mem_cons, List.not_mem_nil, or_false, forall_eq] at h; rw [← h]; exact hv
  · rename_i t n ps
    have : (ps.toList.map fun p => (p.1, ev g p.2)) = ps.toList.map fun p => (p.1, ev f p.2) := by
      apply List.map_congr_left
      intro p hp
      rw [h p.2 (by simp only [Op.operands, List.mem_toArray, List.mem_map]; exact ⟨p, hp, rfl⟩)]
    rw [this]; exact hv
  · simp only [Op.operands, List.mem_toArray, List.mem_cons, List.not_mem_nil, or_false, forall_eq_or_imp, forall_eq] at h; rw [← h.1, ← h.2]; exact hv
  · exact hv
  · simp only [Op.operands, List.mem_toArray, List.mem_cons, List.not_mem_nil, or_false, forall_eq_or_imp, forall_eq] at h; rw [← h.1, ← h.2]; exact hv
  · rename_i c
    rcases c with ⟨callee, as, ts⟩
    have h' : ∀ x ∈ as, ev f x = ev g x := fun x hx => h x (by simp only [Op.operands, Call.operands, Array.mem_append]; right; exact hx)
    have hmap : as.map (ev g) = as.map (ev f) := Array.map_congr_left fun x hx => (h' x hx).symm
    cases callee with
    | builtin b =>
      have h'' : ∀ x ∈ as.toList, ev f x = ev g x := fun x hx => h' x (by simpa using hx)
      cases b
      case len =>
        simp only [callV] at hv ⊢
        generalize as.toList = la at *
        generalize ts.toList = lt at *
        rcases la with _ | ⟨x, _ | ⟨y, r⟩⟩ <;> rcases lt with _ | ⟨t, _ | ⟨u, r'⟩⟩ <;> first | exact hraw hv | (simp only [] at hv ⊢; rw [← h'' x (by simp)]; exact hv)
      case max =>
        simp only [callV] at hv ⊢
        generalize as.toList = la at *
        rcases la with _ | ⟨x, _ | ⟨y, _ | ⟨z, r⟩⟩⟩ <;> first | exact hraw hv | (simp only [] at hv ⊢; rw [← h'' x (by simp), ← h'' y (by simp)]; exact hv)
      case min =>
        simp only [callV] at hv ⊢
        generalize as.toList = la at *
        rcases la with _ | ⟨x, _ | ⟨y, _ | ⟨z, r⟩⟩⟩ <;> first | exact hraw hv | (simp only [] at hv ⊢; rw [← h'' x (by simp), ← h'' y (by simp)]; exact hv)
      all_goals exact hraw hv
    | value f0 =>
      cases f0
      case func k => simp only [callV] at hv ⊢; rw [hmap]; exact hv
      all_goals exact hraw hv
    | invoke a b => exact hraw hv
  · exact hraw hv
/-- it hands something back -/
theorem opV_ex {P : Program} {op : Op} {ty : TypeId} {f : Fr} {w : World} {K : Value → World → Prop} (h : opV P op ty f w K) : ∃ v w', K v w' := by
  have h1 := opV_sound (T := fun _ => false) (wa := w) (fun _ _ => rfl) (by rw [tombW_none]; exact h)
  unfold raw at h1
  generalize (execOp (ev f) ⟨none, op, ty, "", #[], none⟩).run P w = r at h1
  cases r with
  | halt x w' => cases x <;> simp [upon] at h1
  | ok nx w' =>
    cases nx with
    | value v => obtain ⟨T', _, hk⟩ := h1; exact ⟨_, _, hk⟩
    | skip => obtain ⟨T', _, hk⟩ := h1; exact ⟨_, _, hk⟩
    | enter g args => obtain ⟨e, w'', fr, ⟨v, _, T', _, hk⟩, _⟩ := h1 []; exact ⟨_, _, hk⟩
    | _ => simp [upon] at h1
end Go.W
