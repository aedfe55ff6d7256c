/-
  Access.
-/
import Derived.Test.YtblogcihkjhgkaaK3
set_option linter.unusedSimpArgs false
set_option linter.unusedVariables false
namespace Go.Proofs.Ytblogcihkjhgkaa
open Go.W Go.RowKit
theorem idxI_mem {cur : List Int} {n : Int} : 0 ≤ idxI cur n ↔ n ∈ cur := by
  unfold idxI
  split
  · rename_i i h
    constructor
    · intro _
      obtain ⟨hi, he, _⟩ := List.findIdx?_eq_some_iff_getElem.1 h
      exact (by simpa using he) ▸ List.getElem_mem hi
    · intro _; omega
  · rename_i h
    rw [List.idxOf?_eq_none_iff] at h
    constructor
    · intro h0; omega
    · intro h0; exact (h h0).elim
theorem idxI_lt {cur : List Int} {n : Int} (h : n ∈ cur) : ∃ i : Nat, idxI cur n = i ∧ i < cur.length := by
  unfold idxI
  split
  · rename_i i h
    exact ⟨i, rfl, (List.findIdx?_eq_some_iff_getElem.1 h).1⟩
  · rename_i h'
    rw [List.idxOf?_eq_none_iff] at h'
    exact (h' h).elim
/-- what holds in the region that stores the set's new slice: L says which operations have run -/
structure AccI (p q S : Nat) (i : Nat) (n x : Int) (v1 : Value) (vb : Option Nat) (k : Nat) (xs : List Value) (w3 : World) (L : Nat → Bool) (f : Fr) (w : World) : Prop where
  f0 : f 0 = ptr p
  f5 : f 5 = .int .i64 n
  f6 : f 6 = .int .i64 i
  f7 : f 7 = .int .i64 x
  f8 : f 8 = v1
  c0 : L 0 = true → f 54 = ptr p
  c1 : L 1 = true → f 55 = ptr p
  c2 : L 2 = true → f 56 = .pointer (some ⟨p, 3, none⟩)
  c3 : L 3 = true → f 57 = .slice (some ⟨q, 0, none⟩) S S
  c4 : L 4 = true → f 58 = .int .i64 i
  c5 : L 5 = true → f 59 = v1
  c6 : L 6 = true → f 60 = .int .i64 n
  c7 : L 7 = true → L 8 = false → ∃ b2, f 61 = .slice (some ⟨b2, 0, none⟩) 1 1 ∧ w.heap[b2]? = some (.cells #[.int .i64 n] 3 (0, 0)) ∧ w3.heap.size ≤ b2
  c8 : L 8 = true → w.ownsRow 0 3 1 (f 62) (k + 1) (.int .i64 n :: xs) ∧ ((f 62).ownBlock = vb ∨ ∃ b, (f 62).ownBlock = some b ∧ w3.heap.size ≤ b)
  d87 : L 8 = true → L 7 = true
  gr : w3.grownBy w vb
  e8 : L 8 = false → Ext w3 w
theorem grown_of_ext {w w' : World} {row : Option Nat} (h : Ext w w') : w.grownBy w' row := ⟨h.os, h.tape, h.output, h.size, fun k hk _ => h.get k hk⟩
/-- a set's slice has been replaced -/
theorem CacheIn.step {w w2 w4 : World} {F : Nat → Prop} {p : Nat} {s y l : Int} {L : List (List Int)} {q : Nat} {vs : List Value} (h : CacheIn w2 F p s y l L q vs) (hE : Ext w w2) (hw0 : ∀ b, F b → b < w.heap.size) {i : Nat} {v : Value} (hv : vs[i]? = some v) (hgg : w2.grownBy w4 v.ownBlock)
    {v' : Value} {l' : List Int} (hlen' : l'.length ≤ y.toNat) (ho' : w4.ownsRow 0 3 1 v' l'.length (iv l')) (hb' : v'.ownBlock = v.ownBlock ∨ ∃ b, v'.ownBlock = some b ∧ w2.heap.size ≤ b) (hlt : i < s.toNat) :
    CacheIn (w4.putb q (.cells (vs.set i v').toArray 32 (0, 0))) (fun b => F b ∨ (w.heap.size ≤ b ∧ b < (w4.putb q (.cells (vs.set i v').toArray 32 (0, 0))).heap.size)) p s y l (L.set i l') q (vs.set i v') ∧ Chg F w (w4.putb q (.cells (vs.set i v').toArray 32 (0, 0))) := by
  have hpv : some p ≠ v.ownBlock := fun e => (h.fb i v p hv e.symm).2.1 rfl
  have hqv : some q ≠ v.ownBlock := fun e => (h.fb i v q hv e.symm).2.2 rfl
  have hrow4 := grown_get hgg h.row hqv
  have hqlt := h.lt q h.fq
  have hplt := h.lt p h.fp
  have hib : i < vs.length := by rw [h.vlen]; exact hlt
  have hsz := hgg.size
  have hEs := hE.size
  have hq' : ∀ b, v'.ownBlock = some b → b ≠ p ∧ b ≠ q ∧ (F b ∨ w2.heap.size ≤ b) := by
    intro b hb
    rcases hb' with e | ⟨b1, e, hge⟩
    · have := h.fb i v b hv (e ▸ hb)
      exact ⟨this.2.1, this.2.2, .inl this.1⟩
    · rw [e] at hb
      simp only [Option.some.injEq] at hb
      subst hb
      exact ⟨by omega, by omega, .inr hge⟩
  refine ⟨⟨h.geo, ?_, putb_get_same (by omega) _, h.ne, .inl h.fp, .inl h.fq, ?_, by simp [h.len], by simp [h.vlen], ?_, ?_, ?_, ?_⟩, ?_⟩
  · rw [putb_get_ne h.ne]; exact grown_get hgg h.obj hpv
  · rintro b (hb | hb)
    · rw [putb_size]; have := hw0 b hb; omega
    · exact hb.2
  · intro li hli
    rcases List.mem_or_eq_of_mem_set hli with hm | rfl
    · exact h.ways li hm
    · exact hlen'
  · intro j u lj hu hlj
    by_cases hij : i = j
    · subst hij
      rw [List.getElem?_set_self (by omega)] at hu
      rw [List.getElem?_set_self (by rw [h.len]; omega)] at hlj
      simp only [Option.some.injEq] at hu hlj
      subst hu hlj
      exact own_putb ho' (fun e => (hq' q e.symm).2.1 rfl) _
    · rw [List.getElem?_set_ne hij] at hu hlj
      have ho := h.own j u lj hu hlj
      have hk : w4.ownsRow 0 3 1 u lj.length (iv lj) := by
        refine ho.kept hgg ?_
        cases hub : u.ownBlock with
        | none => exact .inl rfl
        | some b => exact .inr fun e => h.apart j i u v b (Ne.symm hij) hu hv hub e.symm
      exact own_putb hk (fun e => (h.fb j u q hu e.symm).2.2 rfl) _
  · intro j u b hu hub
    by_cases hij : i = j
    · subst hij
      rw [List.getElem?_set_self (by omega)] at hu
      simp only [Option.some.injEq] at hu
      subst hu
      obtain ⟨z1, z2, z3⟩ := hq' b hub
      refine ⟨?_, z1, z2⟩
      rcases z3 with z3 | z3
      · exact .inl z3
      · exact .inr ⟨by omega, by rw [putb_size]; exact (ho'.lt b hub).2⟩
    · rw [List.getElem?_set_ne hij] at hu
      have := h.fb j u b hu hub
      exact ⟨.inl this.1, this.2⟩
  · intro j k u x b hjk hu hx hub hxb
    by_cases hij : i = j
    · subst hij
      rw [List.getElem?_set_self (by omega)] at hu
      rw [List.getElem?_set_ne hjk] at hx
      simp only [Option.some.injEq] at hu
      subst hu
      rcases hb' with e | ⟨b1, e, hge⟩
      · exact h.apart i k v x b hjk hv hx (e ▸ hub) hxb
      · rw [e] at hub
        simp only [Option.some.injEq] at hub
        subst hub
        have := h.lt _ (h.fb k x _ hx hxb).1
        omega
    · rw [List.getElem?_set_ne hij] at hu
      by_cases hik : i = k
      · subst hik
        rw [List.getElem?_set_self (by omega)] at hx
        simp only [Option.some.injEq] at hx
        subst hx
        rcases hb' with e | ⟨b1, e, hge⟩
        · exact h.apart j i u v b hjk hu hv hub (e ▸ hxb)
        · rw [e] at hxb
          simp only [Option.some.injEq] at hxb
          subst hxb
          have := h.lt _ (h.fb j u _ hu hub).1
          omega
      · rw [List.getElem?_set_ne hik] at hx
        exact h.apart j k u x b hjk hu hx hub hxb
  · refine ⟨hgg.os.trans hE.os, hgg.tape.trans hE.tape, hgg.output.trans hE.output, by rw [putb_size]; omega, fun b hb hn => ?_⟩
    rw [putb_get_ne (by rintro rfl; exact hn h.fq)]
    exact (hgg.block b (by omega) (fun e => hn (h.fb i v b hv e.symm).1)).trans (hE.get b hb)
set_option maxRecDepth 100000 in
theorem Access_spec {F : Nat → Prop} {p : Nat} {s y l : Int} {L : List (List Int)} {w : World} (h : CacheAt w F p s y l L) (a : Int) (ha : 0 ≤ a) (ha63 : a ≤ 9223372036854775807) :
    VRet Try.prog 23 #[ptr p, .int .i64 a] w fun v w' => v = .bool (decide (a / l ∈ L.getD ((a / l) % s).toNat [])) ∧
      CacheAt w' (fun b => F b ∨ (w.heap.size ≤ b ∧ b < w'.heap.size)) p s y l (L.set ((a / l) % s).toNat (accL y (L.getD ((a / l) % s).toNat []) (a / l))) ∧ Chg F w w' := by
  obtain ⟨q, vs, h⟩ := h
  have hgs := Geo_spec h.geo
  have hl0 : 0 ≤ a / l := Int.ediv_nonneg ha (by omega)
  have hline : lineOf s y l a = a / l := by simp [lineOf, h.geo, ha]
  refine VRet_start T.mo ok23 rfl fun Ψ hΨ => ?_; simp only [vc23, rs23]
  have hobj := h.obj
  simp only [VS, VD, SV, SL, T, Nat.reduceEqDiff, Nat.reduceAdd, Nat.reduceSub, Nat.reduceMul, Nat.reduceLeDiff, Nat.reduceLT, reduceIte, hobj, Option.isNone_some]
  refine (Line_spec s y l a ha63 w).mono ?_
  rintro _ w1 ⟨rfl, hE1⟩
  rw [hline]
  generalize hn : a / l = n at *
  simp only [VS, VD, SV, SL, T, Nat.reduceEqDiff, Nat.reduceAdd, Nat.reduceSub, Nat.reduceMul, Nat.reduceLeDiff, Nat.reduceLT, reduceIte]
  refine cnd_d (fun hq => by exfalso; omega) (fun _ => ?_)
  simp only [VS, VD, SV, SL, T, Nat.reduceEqDiff, Nat.reduceAdd, Nat.reduceSub, Nat.reduceMul, Nat.reduceLeDiff, Nat.reduceLT, reduceIte]
  have h1 := h.ext hE1
  refine (find_spec h1 n).mono ?_
  rintro _ w2 ⟨rfl, hE2⟩
  obtain ⟨i, hi, hlt⟩ := setOf_lt h.geo hl0
  have hi' : (n % s).toNat = i := by
    simp only [setOf, h.geo, hl0, and_self, if_true] at hi
    omega
  rw [if_pos hl0, hi, Int.toNat_natCast]
  have h2 := h1.ext hE2
  have hE := hE1.trans hE2
  obtain ⟨v, li, hv, hva, hL, ho, hw, hw8⟩ := h2.at hlt
  obtain ⟨av, cv, hvf⟩ := own_form ho
  subst hvf
  generalize hvg : Value.slice av li.length cv = v at *
  have hgD : L.getD i [] = li := by rw [List.getD_eq_getElem?_getD, hL]; rfl
  rw [hgD]
  simp only [hi', hgD] at hΨ
  have hobj2 := h2.obj
  have hrow2 := h2.row
  have hi63 : (i : Int) < s.toNat := by omega
  have hi0 : (0 : Int) ≤ i := by omega
  simp only [VS, VD, SV, SL, T, Nat.reduceEqDiff, Nat.reduceAdd, Nat.reduceSub, Nat.reduceMul, Nat.reduceLeDiff, Nat.reduceLT, reduceIte, hobj2, hrow2, Int.toNat_natCast, hva, hi63, hi0, Nat.zero_add, Nat.mul_one, and_self]
  refine cnd_cB (fun f' w' => f' 0 = ptr p ∧ f' 5 = .int .i64 n ∧ f' 6 = .int .i64 i ∧ f' 7 = .int .i64 (idxI li n) ∧ w'.ownsRow 0 3 1 (f' 8) (accL y li n).tail.length (iv (accL y li n).tail) ∧ (accL y li n).tail.length < y.toNat ∧ (f' 8).ownBlock = v.ownBlock ∧ w2.grownBy w' v.ownBlock) ?_ ?_
  · refine cnd_d (fun hq => ?_) (fun hq => ?_)
    · simp only [VS, VD, SV, SL, T, Nat.reduceEqDiff, Nat.reduceAdd, Nat.reduceSub, Nat.reduceMul, Nat.reduceLeDiff, Nat.reduceLT, reduceIte]
      have hmem := idxI_mem.1 hq
      obtain ⟨j, hj, hjlt⟩ := idxI_lt hmem
      rw [hj]
      refine ⟨by omega, ?_⟩
      have hj1 : (j : Int) + 1 = ((j + 1 : Nat) : Int) := by omega
      rw [hj1]
      refine (Delete_spec 0 v li.length (iv li) (by omega) j hjlt _ ho (by intro u hu; obtain ⟨x, _, rfl⟩ := List.mem_map.1 hu; rfl)).mono ?_
      rintro v' w' ⟨q1, q2, q3⟩
      simp only [VS, VD, SV, SL, T, Nat.reduceEqDiff, Nat.reduceAdd, Nat.reduceSub, Nat.reduceMul, Nat.reduceLeDiff, Nat.reduceLT, reduceIte]
      have e1 : (accL y li n).tail = li.eraseIdx j := by simp [accL, hmem, hj]
      have e2 : (li.eraseIdx j).length = li.length - 1 := by rw [List.length_eraseIdx, if_pos hjlt]
      rw [e1, e2]
      refine ⟨?_, by omega, q3, q2⟩
      have e3 : iv (li.eraseIdx j) = (iv li).eraseIdx j := (eraseIdx_map' _ _ _).symm
      rw [e3]
      exact q1
    · subst hvg
      simp only [VS, VD, SV, SL, T, Nat.reduceEqDiff, Nat.reduceAdd, Nat.reduceSub, Nat.reduceMul, Nat.reduceLeDiff, Nat.reduceLT, reduceIte, hobj2]
      refine cnd_d (fun hq2 => ?_) (fun hq2 => ?_)
      · have hnm : n ∉ li := fun hm => hq (idxI_mem.2 hm)
        have e1 : (accL y li n).tail = li.dropLast := by simp only [accL, if_neg hnm, List.tail_cons]; rw [if_pos (by omega)]
        obtain ⟨ho1, ho2 | ⟨g, cap, cur, hvv, z1, z2, z3, z4, z5, z6⟩⟩ := ho
        · omega
        simp only [Value.slice.injEq] at hvv
        obtain ⟨rfl, _, rfl⟩ := hvv
        have hk1 : -9223372036854775808 ≤ (li.length : Int) - 1 ∧ (li.length : Int) - 1 ≤ 9223372036854775807 := by omega
        have hk2 : (0 : Int) ≤ (li.length : Int) - 1 ∧ (li.length : Int) - 1 ≤ (cv : Int) := by omega
        have c1 : (li.length : Int) - 1 = ((li.length - 1 : Nat) : Int) := by omega
        simp only [VS, VD, SV, SL, T, Nat.reduceEqDiff, Nat.reduceAdd, Nat.reduceSub, Nat.reduceMul, Nat.reduceLeDiff, Nat.reduceLT, reduceIte, hk1.1, hk1.2, hk2.1, hk2.2, and_self, true_and, Option.bind_some, Option.map_some, add_mk, ite_self, Nat.sub_zero, Nat.add_zero]
        rw [c1, Int.toNat_natCast, e1, List.length_dropLast]
        refine ⟨⟨by simp, .inr ⟨g, cv, cur, rfl, z1, z2, by omega, z4, z5, ?_⟩⟩, by omega, rfl, ⟨rfl, rfl, rfl, Nat.le_refl _, fun _ _ _ => rfl⟩⟩
        rw [Nat.mul_one] at z6 ⊢
        have : iv li.dropLast = (iv li).take (li.length - 1) := by simp [iv, List.dropLast_eq_take, List.map_take]
        rw [this, ← z6, List.take_take, Nat.min_eq_left (by omega)]
      · have hnm : n ∉ li := fun hm => hq (idxI_mem.2 hm)
        have e1 : (accL y li n).tail = li := by simp only [accL, if_neg hnm, List.tail_cons]; rw [if_neg (by omega)]
        simp only [VS, VD, SV, SL, T, Nat.reduceEqDiff, Nat.reduceAdd, Nat.reduceSub, Nat.reduceMul, Nat.reduceLeDiff, Nat.reduceLT, reduceIte]
        rw [e1]
        exact ⟨ho, by omega, ⟨rfl, rfl, rfl, Nat.le_refl _, fun _ _ _ => rfl⟩⟩
  · rintro f' w3 ⟨f0, f5, f6, f7, ho3, hlen3, hob3, hg3⟩
    simp only [VS, VD, SV, SL, T, Nat.reduceEqDiff, Nat.reduceAdd, Nat.reduceSub, Nat.reduceMul, Nat.reduceLeDiff, Nat.reduceLT, reduceIte]
    have hpv : some p ≠ v.ownBlock := fun e => (h2.fb i v p hv e.symm).2.1 rfl
    have hqv : some q ≠ v.ownBlock := fun e => (h2.fb i v q hv e.symm).2.2 rfl
    have hobj3 := grown_get hg3 hobj2 hpv
    refine .inr ⟨fun L ok f w => AccI p q s.toNat i n (idxI li n) (f' 8) v.ownBlock (accL y li n).tail.length (iv (accL y li n).tail) w3 L f w, ?_, ?_, ?_⟩
    · exact ⟨f0, f5, f6, f7, rfl, nofun, nofun, nofun, nofun, nofun, nofun, nofun, nofun, nofun, nofun, ⟨rfl, rfl, rfl, Nat.le_refl _, fun _ _ _ => rfl⟩, fun _ => (Ext.refl w3).drew⟩
    · intro d hd L ok f w H hLd hdeps
      have hobjw := grown_get H.gr hobj3 hpv
      simp only [List.mem_cons, List.not_mem_nil, or_false] at hd
      rcases hd with rfl | rfl | rfl | rfl | rfl | rfl | rfl | rfl | rfl
      · have hx := H.f0
        simp only [stp, vi]
        simp only [VS, VD, SV, SL, T, Nat.reduceEqDiff, Nat.reduceAdd, Nat.reduceSub, Nat.reduceMul, Nat.reduceLeDiff, Nat.reduceLT, reduceIte, hx, hobjw]
        exact ⟨H.f0, H.f5, H.f6, H.f7, H.f8, fun _ => rfl, H.c1, H.c2, H.c3, H.c4, H.c5, H.c6, H.c7, H.c8, H.d87, H.gr, H.e8⟩
      · have hx := H.c0 (hdeps 0 (by simp))
        simp only [stp, vi]
        simp only [VS, VD, SV, SL, T, Nat.reduceEqDiff, Nat.reduceAdd, Nat.reduceSub, Nat.reduceMul, Nat.reduceLeDiff, Nat.reduceLT, reduceIte, hx, hobjw]
        exact ⟨H.f0, H.f5, H.f6, H.f7, H.f8, H.c0, fun _ => rfl, H.c2, H.c3, H.c4, H.c5, H.c6, H.c7, H.c8, H.d87, H.gr, H.e8⟩
      · have hx := H.c1 (hdeps 1 (by simp))
        simp only [stp, vi]
        simp only [VS, VD, SV, SL, T, Nat.reduceEqDiff, Nat.reduceAdd, Nat.reduceSub, Nat.reduceMul, Nat.reduceLeDiff, Nat.reduceLT, reduceIte, hx, hobjw]
        exact ⟨H.f0, H.f5, H.f6, H.f7, H.f8, H.c0, H.c1, fun _ => rfl, H.c3, H.c4, H.c5, H.c6, H.c7, H.c8, H.d87, H.gr, H.e8⟩
      · have hx := H.c2 (hdeps 2 (by simp))
        simp only [stp, vi]
        simp only [VS, VD, SV, SL, T, Nat.reduceEqDiff, Nat.reduceAdd, Nat.reduceSub, Nat.reduceMul, Nat.reduceLeDiff, Nat.reduceLT, reduceIte, hx, hobjw]
        exact ⟨H.f0, H.f5, H.f6, H.f7, H.f8, H.c0, H.c1, H.c2, fun _ => rfl, H.c4, H.c5, H.c6, H.c7, H.c8, H.d87, H.gr, H.e8⟩
      · have hx := H.f6
        simp only [stp, vi]
        simp only [VS, VD, SV, SL, T, Nat.reduceEqDiff, Nat.reduceAdd, Nat.reduceSub, Nat.reduceMul, Nat.reduceLeDiff, Nat.reduceLT, reduceIte, hx, hobjw]
        exact ⟨H.f0, H.f5, H.f6, H.f7, H.f8, H.c0, H.c1, H.c2, H.c3, fun _ => rfl, H.c5, H.c6, H.c7, H.c8, H.d87, H.gr, H.e8⟩
      · have hx := H.f8
        simp only [stp, vi]
        simp only [VS, VD, SV, SL, T, Nat.reduceEqDiff, Nat.reduceAdd, Nat.reduceSub, Nat.reduceMul, Nat.reduceLeDiff, Nat.reduceLT, reduceIte, hx, hobjw]
        exact ⟨H.f0, H.f5, H.f6, H.f7, H.f8, H.c0, H.c1, H.c2, H.c3, H.c4, fun _ => rfl, H.c6, H.c7, H.c8, H.d87, H.gr, H.e8⟩
      · have hx := H.f5
        simp only [stp, vi]
        simp only [VS, VD, SV, SL, T, Nat.reduceEqDiff, Nat.reduceAdd, Nat.reduceSub, Nat.reduceMul, Nat.reduceLeDiff, Nat.reduceLT, reduceIte, hx, hobjw]
        exact ⟨H.f0, H.f5, H.f6, H.f7, H.f8, H.c0, H.c1, H.c2, H.c3, H.c4, H.c5, fun _ => rfl, H.c7, H.c8, H.d87, H.gr, H.e8⟩
      · have hx := H.c6 (hdeps 6 (by simp))
        have hL8 : L 8 = false := by cases hc : L 8 with | false => rfl | true => rw [H.d87 hc] at hLd; cases hLd
        have hEx := H.e8 hL8
        simp only [stp, vi]
        simp only [VS, VD, SV, SL, T, Nat.reduceEqDiff, Nat.reduceAdd, Nat.reduceSub, Nat.reduceMul, Nat.reduceLeDiff, Nat.reduceLT, reduceIte, hx]
        exact ⟨H.f0, H.f5, H.f6, H.f7, H.f8, H.c0, H.c1, H.c2, H.c3, H.c4, H.c5, H.c6, fun _ _ => ⟨w.heap.size, rfl, alloc_get_new _ _, hEx.size⟩, fun h8 => (by simp only [setL, Nat.reduceEqDiff, reduceIte] at h8; rw [hL8] at h8; cases h8), fun _ => rfl, grown_of_ext (hEx.alloc _), fun _ => hEx.alloc _⟩
      · have hx5 := H.c5 (hdeps 5 (by simp))
        have hEx := H.e8 hLd
        obtain ⟨b2, hb, hb2, hge⟩ := H.c7 (hdeps 7 (by simp)) hLd
        simp only [stp, vi]
        simp only [VS, VD, SV, SL, T, Nat.reduceEqDiff, Nat.reduceAdd, Nat.reduceSub, Nat.reduceMul, Nat.reduceLeDiff, Nat.reduceLT, reduceIte, hx5, hb]
        have hoE := own_ext ho3 hEx
        refine (Insert_spec 0 (f' 8) _ _ (by omega) (.int .i64 n) b2 w hoE (by intro u hu; obtain ⟨x, _, rfl⟩ := List.mem_map.1 hu; rfl) (Nat.zero_le _) hb2 (fun e => by have := (ho3.lt _ e.symm).2; omega) rfl).mono ?_
        rintro v' w' ⟨q1, q2, q3⟩
        simp only [VS, VD, SV, SL, T, Nat.reduceEqDiff, Nat.reduceAdd, Nat.reduceSub, Nat.reduceMul, Nat.reduceLeDiff, Nat.reduceLT, reduceIte]
        rw [hob3] at q2 q3
        exact ⟨H.f0, H.f5, H.f6, H.f7, H.f8, H.c0, H.c1, H.c2, H.c3, H.c4, H.c5, H.c6, fun _ h8 => (by simp only [setL, reduceIte] at h8; cases h8), fun _ => ⟨q1, q3.imp id fun e => ⟨_, e, hEx.size⟩⟩, fun _ => hdeps 7 (by simp), grown_trans H.gr q2, fun h8 => (by simp only [setL, reduceIte] at h8; cases h8)⟩
    · intro Lx ok f w4 hall H
      simp only [List.mem_cons, List.not_mem_nil, or_false, forall_eq_or_imp, forall_eq] at hall
      obtain ⟨l0, l1, l2, l3, l4, l5, l6, l7, l8⟩ := hall
      have x57 := H.c3 l3
      have x58 := H.c4 l4
      obtain ⟨o62, b62⟩ := H.c8 l8
      have hrow4 := grown_get H.gr (grown_get hg3 hrow2 hqv) hqv
      have hgg := grown_trans hg3 H.gr
      have one62 : one (f 62) = true := by
        obtain ⟨a1, c1, e1⟩ := own_form o62
        rw [e1]; rfl
      have hisz : i < vs.toArray.size := by simp [h2.vlen, hlt]
      generalize hv62 : f 62 = v' at *
      have x7 := H.f7
      simp only [VS, VD, SV, SL, T, Nat.reduceEqDiff, Nat.reduceAdd, Nat.reduceSub, Nat.reduceMul, Nat.reduceLeDiff, Nat.reduceLT, reduceIte, x57, x58, hv62, hi63, hi0, hrow4, Int.toNat_natCast, Nat.zero_add, Nat.mul_one, and_self, one62, hisz, x7]
      have cl62 : v'.cells = #[v'] := by
        obtain ⟨a1, c1, e1⟩ := own_form o62
        rw [e1]; rfl
      rw [cl62]
      have hvl := h2.vlen
      refine ⟨⟨rfl, by simp; omega, by simp [one62], by simp⟩, ?_⟩
      have eset : spl vs.toArray i #[v'].toList = (vs.set i v').toArray := by
        show (vs.toArray.setIfInBounds i v') = _
        simp
      rw [eset]
      have hh : accL y li n = n :: (accL y li n).tail := rfl
      have hst := h2.step hE h.lt hv hgg (l' := accL y li n) (by rw [hh, List.length_cons]; omega) (by rw [hh]; exact o62) (b62.imp id fun ⟨b, e1, e2⟩ => ⟨b, e1, Nat.le_trans hg3.size e2⟩) hlt
      exact hΨ _ _ ⟨by simp [idxI_mem], ⟨q, _, hst.1⟩, hst.2⟩
end Go.Proofs.Ytblogcihkjhgkaa
