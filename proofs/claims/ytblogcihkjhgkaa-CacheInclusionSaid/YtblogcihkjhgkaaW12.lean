/-
  A map that is changed in place while it is ranged over: each entry is kept, changed or deleted.
-/
import Derived.Test.YtblogcihkjhgkaaW11
set_option linter.unusedSimpArgs false
set_option linter.unusedVariables false
namespace Go.W
theorem born_inj {l : List Ent} (hb : (l.map (·.2.2)).Nodup) {p q : Ent} (hp : p ∈ l) (hq : q ∈ l) (h : p.2.2 = q.2.2) : p = q := by
  have h1 := List.pairwise_iff_getElem.1 hb
  obtain ⟨a, ha, rfl⟩ := List.getElem_of_mem hp
  obtain ⟨b, hb', rfl⟩ := List.getElem_of_mem hq
  rcases Nat.lt_trichotomy a b with hab | hab | hab
  · exact (h1 a b (by simpa using ha) (by simpa using hb') hab (by simpa using h)).elim
  · subst hab; rfl
  · exact (h1 b a (by simpa using hb') (by simpa using ha) hab (by simpa using h.symm)).elim
theorem key_inj {l : List Ent} (hk : (l.map (·.1)).Nodup) {p q : Ent} (hp : p ∈ l) (hq : q ∈ l) (h : p.1 = q.1) : p = q := by
  have h1 := List.pairwise_iff_getElem.1 hk
  obtain ⟨a, ha, rfl⟩ := List.getElem_of_mem hp
  obtain ⟨b, hb', rfl⟩ := List.getElem_of_mem hq
  rcases Nat.lt_trichotomy a b with hab | hab | hab
  · exact (h1 a b (by simpa using ha) (by simpa using hb') hab (by simpa using h)).elim
  · subst hab; rfl
  · exact (h1 b a (by simpa using hb') (by simpa using ha) hab (by simpa using h.symm)).elim
structure TR (l1 lc : List Ent) (seen : Array Nat) (g : Value → Option Value) (c : Nat) : Prop where
  wf1 : MWF l1 c
  wf : MWF lc c
  sub : ∀ p ∈ lc, ∃ q ∈ l1, q.1 = p.1 ∧ q.2.2 = p.2.2
  val : ∀ q ∈ l1, mget lc q.1 = if q.2.2 ∈ seen then g q.2.1 else some q.2.1
theorem TR.start {l1 : List Ent} {c : Nat} (h : MWF l1 c) (g : Value → Option Value) : TR l1 l1 #[] g c :=
  ⟨h, h, fun p hp => ⟨p, hp, rfl, rfl⟩, fun q hq => by simpa using mget_mem h.keys hq⟩
theorem TR.old {l1 lc : List Ent} {seen : Array Nat} {g : Value → Option Value} {c : Nat} (h : TR l1 lc seen g c) {p : Ent} (hp : p ∈ lc) (hn : p.2.2 ∉ seen) : p ∈ l1 := by
  obtain ⟨q, hq, h1, h2⟩ := h.sub p hp
  have h3 := h.val q hq
  rw [h2, if_neg hn, h1, mget_mem h.wf.keys hp] at h3
  obtain ⟨a, b, d⟩ := p
  obtain ⟨a', b', d'⟩ := q
  simp only [Option.some.injEq] at h1 h2 h3
  subst h1 h2 h3
  exact hq
theorem TR.mem_push {l1 lc : List Ent} {seen : Array Nat} {g : Value → Option Value} {c : Nat} (h : TR l1 lc seen g c) {p : Ent} (hp : p ∈ lc) (hn : p.2.2 ∉ seen) {q : Ent} (hq : q ∈ l1) :
    q.2.2 ∈ seen.push p.2.2 ↔ (q.2.2 ∈ seen ∨ q = p) := by
  rw [Array.mem_push]
  constructor
  · rintro (h1 | h1)
    · exact .inl h1
    · exact .inr (born_inj h.wf1.borns hq (h.old hp hn) h1)
  · rintro (h1 | rfl)
    · exact .inl h1
    · exact .inr rfl
theorem TR.keep {l1 lc : List Ent} {seen : Array Nat} {g : Value → Option Value} {c : Nat} (h : TR l1 lc seen g c) {p : Ent} (hp : p ∈ lc) (hn : p.2.2 ∉ seen) (hg : g p.2.1 = some p.2.1) : TR l1 lc (seen.push p.2.2) g c := by
  refine ⟨h.wf1, h.wf, h.sub, fun q hq => ?_⟩
  rw [h.val q hq]
  by_cases hs : q.2.2 ∈ seen
  · rw [if_pos hs, if_pos ((h.mem_push hp hn hq).2 (.inl hs))]
  · rw [if_neg hs]
    by_cases e : q = p
    · subst e; rw [if_pos ((h.mem_push hp hn hq).2 (.inr rfl)), hg]
    · rw [if_neg (fun hx => (((h.mem_push hp hn hq).1 hx).elim hs e))]
theorem TR.del {l1 lc : List Ent} {seen : Array Nat} {g : Value → Option Value} {c : Nat} (h : TR l1 lc seen g c) {p : Ent} (hp : p ∈ lc) (hn : p.2.2 ∉ seen) (hg : g p.2.1 = none) : TR l1 (mdel lc p.1) (seen.push p.2.2) g c := by
  refine ⟨h.wf1, h.wf.del _, fun q hq => h.sub q (List.mem_filter.1 hq).1, fun q hq => ?_⟩
  rw [mget_mdel, h.val q hq]
  by_cases e : q = p
  · subst e; rw [if_pos rfl, if_pos ((h.mem_push hp hn hq).2 (.inr rfl)), hg]
  · have hk : ¬ q.1 = p.1 := fun hk => e (key_inj h.wf1.keys hq (h.old hp hn) hk)
    rw [if_neg hk]
    by_cases hs : q.2.2 ∈ seen
    · rw [if_pos hs, if_pos ((h.mem_push hp hn hq).2 (.inl hs))]
    · rw [if_neg hs, if_neg (fun hx => (((h.mem_push hp hn hq).1 hx).elim hs e))]
theorem mset_old {l : List Ent} {c : Nat} {k : Int} {v u : Value} (h : mget l k = some u) : (mset l c k v).2 = c := by simp [mset, h]
theorem TR.set {l1 lc : List Ent} {seen : Array Nat} {g : Value → Option Value} {c : Nat} (h : TR l1 lc seen g c) {p : Ent} (hp : p ∈ lc) (hn : p.2.2 ∉ seen) {v : Value} (hg : g p.2.1 = some v) : TR l1 (mset lc c p.1 v).1 (seen.push p.2.2) g c := by
  have hm := mget_mem h.wf.keys hp
  refine ⟨h.wf1, ?_, fun q hq => ?_, fun q hq => ?_⟩
  · have := h.wf.set p.1 v; rw [mset_old hm] at this; exact this
  · simp only [mset, hm, Option.isSome_some, if_true] at hq
    obtain ⟨q', hq', rfl⟩ := List.mem_map.1 hq
    obtain ⟨q0, hq0, h1, h2⟩ := h.sub q' hq'
    refine ⟨q0, hq0, ?_, ?_⟩
    · split
      · rename_i e; rw [h1, e]
      · exact h1
    · split <;> exact h2
  · rw [mget_mset, h.val q hq]
    by_cases e : q = p
    · subst e; rw [if_pos rfl, if_pos ((h.mem_push hp hn hq).2 (.inr rfl)), hg]
    · have hk : ¬ q.1 = p.1 := fun hk => e (key_inj h.wf1.keys hq (h.old hp hn) hk)
      rw [if_neg hk]
      by_cases hs : q.2.2 ∈ seen
      · rw [if_pos hs, if_pos ((h.mem_push hp hn hq).2 (.inl hs))]
      · rw [if_neg hs, if_neg (fun hx => (((h.mem_push hp hn hq).1 hx).elim hs e))]
theorem TR.done {l1 lc : List Ent} {seen : Array Nat} {g : Value → Option Value} {c : Nat} (h : TR l1 lc seen g c) (hall : ∀ p ∈ lc, p.2.2 ∈ seen) (k : Int) : mget lc k = (mget l1 k).bind g := by
  cases hk : mget l1 k with
  | none =>
    rw [mget_none] at hk
    simp only [Option.bind_none]
    rw [mget_none]
    intro p hp e
    obtain ⟨q, hq, h1, _⟩ := h.sub p hp
    exact hk q hq (h1.trans e)
  | some v =>
    obtain ⟨b, hb⟩ := mget_some_mem hk
    have h2 := h.val _ hb
    simp only [] at h2
    rw [h2]
    by_cases hs : b ∈ seen
    · rw [if_pos hs]; rfl
    · exfalso
      rw [if_neg hs] at h2
      obtain ⟨b', hb'⟩ := mget_some_mem h2
      obtain ⟨q, hq, h3, h4⟩ := h.sub _ hb'
      have : q = (k, v, b) := key_inj h.wf1.keys hq hb h3
      subst this
      simp only [] at h4
      have := hall _ hb'
      simp only [] at this
      exact hs (h4 ▸ this)
end Go.W
