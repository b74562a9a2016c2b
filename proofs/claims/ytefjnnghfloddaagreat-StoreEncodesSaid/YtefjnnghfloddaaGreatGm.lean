/- A part of a proof of a law of the store, without conditions: its texts are: Ua Ub Uc Ud Ue Uf Ug Uh Ui Uj Uk Ul. -/
import Derived.Test.YtefjnnghfloddaaGreatGk
import Derived.Test.YtefjnnghfloddaaGreatGl
/- Specifications: a vector times a matrix. -/
namespace Go.Proofs.YtefjnnghfloddaaGreat.Abs
set_option linter.unusedVariables false
set_option linter.unusedSimpArgs false
set_option linter.unusedSectionVars false
open Ff
def cmb (F : Ff) (x : List Int) (rows : List (List Int)) (cols : Nat) : Nat → List Int
  | 0 => List.replicate cols 0
  | i + 1 => if x.getD i 0 = 0 then cmb F x rows cols i else F.rowAdd (cmb F x rows cols i) (x.getD i 0) (rw_ rows i)
@[simp] theorem cmb_len (F : Ff) (x : List Int) (rows : List (List Int)) (cols : Nat) : ∀ i, (cmb F x rows cols i).length = cols
  | 0 => by simp [cmb]
  | i + 1 => by
    rw [cmb]
    split
    · exact cmb_len F x rows cols i
    · rw [rowAdd_len]; exact cmb_len F x rows cols i
theorem cmb_E {F : Ff} (hF : F.Ok) {x : List Int} {rows : List (List Int)} {cols : Nat} : ∀ i j, F.E ((cmb F x rows cols i).getD j 0)
  | 0, j => by
    rw [cmb, List.getD_eq_getElem?_getD, List.getElem?_replicate]
    split <;> exact hF.zeroE
  | i + 1, j => by
    rw [cmb]
    split
    · exact cmb_E hF i j
    · exact rowAdd_E hF (cmb_E hF i) j
theorem pre_lc {m m' : Mem} (h : Pre m m') {b o : Nat} {u : V} (hl : lc m b o = some u) : lc m' b o = some u := by
  unfold lc at *
  cases hk : m[b]? with
  | none => rw [hk] at hl; cases hl
  | some k => rw [Pre.at h hk]; rw [hk] at hl; exact hl
structure A3I (f : Fd) (g vu : V) (v u : List Int) (a : Int) (m : Mem) (bv : Nat) (y : Bool) (k : Nat) (e : Env) (m' : Mem) : Prop where
  d : ∃ i : Nat, e 0 = g ∧ e 1 = .sl bv 0 v.length v.length 1 y ∧ e 2 = I a ∧ e 10 = vu ∧ e 11 = I v.length ∧ e 12 = I i ∧ i ≤ v.length ∧ v.length - i = k ∧ m' = m.set bv ⟨(mapTo v (ra1 f.F v a u) i).map I, 2⟩
theorem add3_wv {f : Fd} {g vu : V} {v u : List Int} {a : Int} {m0 m : Mem} {bv : Nat} {y : Bool} {Q : V → Mem → Prop} (hg : GFAt m0 g f) (hp : Pre m0 m) (hb : m0.length ≤ bv) (hv : At m bv (v.map I) 2) (hu : Ints m0 vu u) (hl : u.length = v.length) (hl2 : v.length ≤ 1000000)
    (ha : f.F.E a) (vE : ∀ j, f.F.E (v.getD j 0)) (uE : ∀ j, f.F.E (u.getD j 0)) (hQ : Q (.tup []) (m.set bv ⟨(f.F.rowAdd v a u).map I, 2⟩)) : WV (DD 161 [g, .sl bv 0 v.length v.length 1 y, I a, vu] m) Q := by
  rw [e161]
  refine WV_fin ?_
  simp [r161_0, r161_1, r161_2, r161_3, r161_4, r161_5, c161, (hu.pre hp).len, hl]
  refine W_loop (A3I f g vu v u a m bv y) ?_ v.length _ _ ⟨⟨0, by simp, by simp, by simp, by simp, by simp, by simp, by omega, by omega, by rw [mapTo_0, set_id hv]⟩⟩
  rintro c e m' ⟨⟨i, e0, e1, e2, e10, e11, e12, hi, hc, rfl⟩⟩
  have hv' : At (m.set bv ⟨(mapTo v (ra1 f.F v a u) i).map I, 2⟩) bv ((mapTo v (ra1 f.F v a u) i).map I) 2 := At.set_self hv
  have hpre : Pre m0 (m.set bv ⟨(mapTo v (ra1 f.F v a u) i).map I, 2⟩) := hp.set hb _
  by_cases hlt : i < v.length
  · have w1 : IntKind.i64.wrap ((i : Int) + 1) = i + 1 := wrap64_in (by omega) (by omega)
    obtain ⟨b1, o1, i1, l1⟩ := (hu.pre hpre).at (ix := i) (by omega) (by omega)
    rw [Int.toNat_natCast] at l1
    have i2 := ia22 (b := bv) (o := 0) (n := v.length) (c := v.length) (ex := y) (ix := (i : Int)) (by omega) (by omega)
    simp only [Int.toNat_natCast, Nat.zero_add] at i2
    have l2 := lc_ints hv' (by omega) (o := i) (by simpa using hlt)
    rw [List.getD_eq_getElem?_getD (l := mapTo _ _ _), mapTo_get _ _ _ _ hlt, if_neg (by omega), Option.getD_some] at l2
    have hset := mapTo_set v (ra1 f.F v a u) i hlt
    by_cases h0 : u.getD i 0 = 0
    · simp [l161_6, r161_0, r161_1, r161_2, r161_3, r161_4, r161_5, c161, e0, e1, e2, e10, e11, e12, hlt, i1, l1, h0, w1, -List.getD_eq_getElem?_getD]
      refine ⟨v.length - (i + 1), by omega, ⟨i + 1, by simp [e0], by simp [e1], by simp [e2], by simp [e10], by simp [e11], by simp, by omega, rfl, ?_⟩⟩
      congr 3
      rw [← hset]
      apply List.ext_getElem?
      intro j
      rw [List.getElem?_set]
      by_cases e : i = j
      · subst e
        rw [if_pos rfl, if_pos (by simpa using hlt), mapTo_get _ _ _ _ hlt, if_neg (by omega), ra1, if_pos h0]
      · rw [if_neg e]
    · simp [l161_6, r161_0, r161_1, r161_2, r161_3, r161_4, r161_5, c161, e0, e1, e2, e10, e11, e12, hlt, i1, i2, l1, l2, h0, w1, -List.getD_eq_getElem?_getD]
      refine WR_bnd (mul_wv (hg.pre hpre) ha (uE i) ?_)
      simp [-List.getD_eq_getElem?_getD]
      refine WR_bnd (add_wv (hg.pre hpre) (vE i) (by have := hg.ok.F; exact this.mulE) ?_)
      have hst := sc_ints hv' (o := i) (x := ra1 f.F v a u i) (by simpa using hlt)
      rw [hset, List.set_set, ra1, if_neg h0] at hst
      simp [i2, hst, e0, e1, e2, e10, e11, e12, w1, -List.getD_eq_getElem?_getD]
      exact ⟨v.length - (i + 1), by omega, ⟨i + 1, by simp [e0], by simp [e1], by simp [e2], by simp [e10], by simp [e11], by simp, by omega, rfl, rfl⟩⟩
  · have hil : i = v.length := by omega
    subst hil
    simp [l161_6, r161_0, r161_1, r161_2, r161_3, r161_4, r161_5, c161, e0, e1, e2, e10, e11, e12]
    rw [rowAdd_map] at hQ
    simpa [packV] using hQ
structure VeI (g xv rv : V) (F : Ff) (x : List Int) (rows : List (List Int)) (cols : Nat) (m : Mem) (k : Nat) (e : Env) (m' : Mem) : Prop where
  d : ∃ i : Nat, e 0 = g ∧ e 2 = rv ∧ e 9 = .sl m.length 0 cols cols 1 true ∧ e 14 = xv ∧ e 15 = I x.length ∧ e 16 = I i ∧ i ≤ x.length ∧ x.length - i = k ∧ m' = m ++ [⟨(cmb F x rows cols i).map I, 2⟩]
theorem vec_wv {f : Fd} {g xv rv : V} {x : List Int} {rows : List (List Int)} {cols : Nat} {m : Mem} {Q : V → Mem → Prop} (hg : GFAt m g f) (hx : Ints m xv x) (hr : Rows m rv rows) (hM : f.F.Mat rows cols) (hxE : ∀ j, f.F.E (x.getD j 0)) (hl : x.length = rows.length) (hlx : x.length ≤ 1000000) (hc : cols ≤ 1000000)
    (hQ : Q (.sl m.length 0 cols cols 1 true) (m ++ [⟨(cmb f.F x rows cols x.length).map I, 2⟩])) : WV (DD 143 [g, xv, rv, I cols] m) Q := by
  rw [e143]
  refine WV_fin ?_
  simp [r143_0, r143_1, r143_2, r143_3, r143_4, r143_5, r143_6, r143_7, r143_9, c143, mk22 (l := cols) (c := cols) (by omega) (by omega) (by omega)]
  have hx0 := (hx.pre (List.prefix_append m [⟨List.replicate cols (I 0), 2⟩])).len
  simp [hx0]
  refine W_loop (VeI g xv rv f.F x rows cols m) ?_ x.length _ _ ⟨⟨0, by simp, by simp, by simp, by simp, by simp, by simp, by omega, by omega, by simp [cmb]⟩⟩
  rintro c e m' ⟨⟨i, e0, e2, e9, e14, e15, e16, hi, hk, rfl⟩⟩
  have hpre : Pre m (m ++ [⟨(cmb f.F x rows cols i).map I, 2⟩]) := List.prefix_append _ _
  have hat : At (m ++ [⟨(cmb f.F x rows cols i).map I, 2⟩]) m.length ((cmb f.F x rows cols i).map I) 2 := by simp [At]
  by_cases hlt : i < x.length
  · have w1 : IntKind.i64.wrap ((i : Int) + 1) = i + 1 := wrap64_in (by omega) (by omega)
    obtain ⟨b1, o1, i1, l1⟩ := (hx.pre hpre).at (ix := i) (by omega) (by omega)
    rw [Int.toNat_natCast] at l1
    by_cases h0 : x.getD i 0 = 0
    · simp [l143_8, r143_0, r143_1, r143_2, r143_3, r143_4, r143_5, r143_6, r143_7, r143_9, c143, e0, e2, e9, e14, e15, e16, hlt, i1, l1, h0, w1, -List.getD_eq_getElem?_getD]
      exact ⟨x.length - (i + 1), by omega, ⟨i + 1, by simp [e0], by simp [e2], by simp [e9], by simp [e14], by simp [e15], by simp, by omega, rfl, by rw [cmb, if_pos h0]⟩⟩
    · obtain ⟨b2, o2, u, i2, l2, hu⟩ := hr.at (ix := i) (by omega) (by omega)
      obtain ⟨b2', o2', u', i2', l2', hu'⟩ := (hr.pre hpre).at (ix := i) (by omega) (by omega)
      rw [i2] at i2'
      injection i2' with i2'
      injection i2' with e3 e4
      subst e3 e4
      have hu2 : u' = u := by
        have := pre_lc hpre l2
        rw [l2'] at this
        exact Option.some.inj this
      subst hu2
      rw [Int.toNat_natCast] at hu
      have hadd := fun (Q : V → Mem → Prop) => @add3_wv f g u' (cmb f.F x rows cols i) (rw_ rows i) (x.getD i 0) m (m ++ [⟨(cmb f.F x rows cols i).map I, 2⟩]) m.length true Q
      simp only [cmb_len] at hadd
      simp [l143_8, r143_0, r143_1, r143_2, r143_3, r143_4, r143_5, r143_6, r143_7, r143_9, c143, e0, e2, e9, e14, e15, e16, hlt, i1, l1, h0, w1, i2, l2', -List.getD_eq_getElem?_getD]
      refine WR_bnd (hadd _ hg hpre (Nat.le_refl _) hat hu (hM.len i (by omega)) hc (hxE i) (cmb_E hg.ok.F i) (fun j => hM.el i j) ?_)
      simp [e16, w1, -List.getD_eq_getElem?_getD]
      exact ⟨x.length - (i + 1), by omega, ⟨i + 1, by simp [e0], by simp [e2], by simp [e9], by simp [e14], by simp [e15], by simp, by omega, rfl, by rw [cmb, if_neg h0]⟩⟩
  · have hil : i = x.length := by omega
    subst hil
    simp [l143_8, r143_0, r143_1, r143_2, r143_3, r143_4, r143_5, r143_6, r143_7, r143_9, c143, e9, e15, e16]
    exact hQ
end Go.Proofs.YtefjnnghfloddaaGreat.Abs

/- Specifications: the codeword of a message, in the program and in the reference. -/
namespace Go.Proofs.YtefjnnghfloddaaGreat.Abs
set_option linter.unusedVariables false
set_option linter.unusedSimpArgs false
set_option linter.unusedSectionVars false
open Ff
theorem notIn_wv {f : Fd} {g : V} {b : Nat} {x : Int} {m : Mem} {Q : V → Mem → Prop} {n : Nat} (hn : n = 71 ∨ n = 140) (hg : GFAt m g f) (hb : At m b [g] 2) (hQ : ∀ t : Bool, (t = true ↔ ¬ f.F.E x) → Q (.bool t) m) : WV (DD n [I x, .ptr b 0] m) Q := by
  have hl : lc m b 0 = some g := by rw [lc_at hb (by omega)]; rfl
  rcases hn with rfl | rfl
  · rw [e71]
    refine WV_fin ?_
    simp [r71_0, r71_1, c71, hl]
    refine WR_bnd (is_wv hg fun t ht => ?_)
    have := hQ (!t) (by cases t <;> simp_all)
    simpa [packV] using this
  · rw [e140]
    refine WV_fin ?_
    simp [r140_0, r140_1, c140, hl]
    refine WR_bnd (is_wv hg fun t ht => ?_)
    have := hQ (!t) (by cases t <;> simp_all)
    simpa [packV] using this
structure IfE (va fv : V) (F : Ff) (l : List Int) (m : Mem) (k : Nat) (e : Env) (m' : Mem) : Prop where
  d : ∃ i : Nat, e 0 = va ∧ e 1 = fv ∧ e 7 = I l.length ∧ e 8 = I i ∧ i ≤ l.length ∧ l.length - i = k ∧ ∀ j, j < i → F.E (l.getD j 0)
  m : m' = m
theorem anyNot_wv {f : Fd} {g va : V} {b : Nat} {l : List Int} {m : Mem} {Q : V → Mem → Prop} {n : Nat} (hn : n = 71 ∨ n = 140) (hg : GFAt m g f) (hb : At m b [g] 2) (ha : Ints m va l) (hl : l.length ≤ 1000000) (hQ : ∀ t : Bool, (t = true ↔ ¬ AllE f.F l) → Q (.bool t) m) :
    WV (DD 46 [va, .fn n [] [.ptr b 0]] m) Q := by
  rw [e46]
  refine WV_fin ?_
  simp [r46_0, r46_1, c46]
  refine WR_bnd ?_
  rw [e80]
  refine WV_fin ?_
  simp [r80_0, r80_1, r80_2, r80_3, r80_4, r80_5, r80_6, r80_8, c80, ha.len]
  refine W_loop (IfE va (.fn n [] [.ptr b 0]) f.F l m) ?_ l.length _ _ ⟨⟨0, by simp, by simp, by simp, by simp, by omega, by omega, fun j hj => by omega⟩, rfl⟩
  rintro k e m' ⟨⟨i, e0, e1, e7, e8, hi, hk, hall⟩, rfl⟩
  have w1 : IntKind.i64.wrap ((i : Int) + 1) = i + 1 := wrap64_in (by omega) (by omega)
  by_cases hlt : i < l.length
  · obtain ⟨b1, o1, a1, a2⟩ := ha.at (ix := i) (by omega) (by omega)
    rw [Int.toNat_natCast] at a2
    simp [l80_7, r80_0, r80_1, r80_2, r80_3, r80_4, r80_5, r80_6, r80_8, c80, e0, e1, e7, e8, hlt, a1, a2, -List.getD_eq_getElem?_getD]
    refine WR_bnd (notIn_wv hn hg hb fun t ht => ?_)
    cases t with
    | false =>
      have hE : f.F.E (l.getD i 0) := Classical.byContradiction fun h => by have := ht.2 h; cases this
      simp [e8, w1, -List.getD_eq_getElem?_getD]
      refine ⟨l.length - (i + 1), by omega, ⟨i + 1, by simp [e0], by simp [e1], by simp [e7], by simp, by omega, rfl, fun j hj => ?_⟩, rfl⟩
      by_cases e : j = i
      · subst e; exact hE
      · exact hall j (by omega)
    | true =>
      have hE := ht.1 rfl
      have : (0 : Int) ≤ i := by omega
      simp [packV, this, -List.getD_eq_getElem?_getD]
      exact hQ true (by simp; exact fun h => hE (h i hlt))
  · have hil : i = l.length := by omega
    subst hil
    simp [l80_7, r80_0, r80_1, r80_2, r80_3, r80_4, r80_5, r80_6, r80_8, c80, e7, e8, packV]
    exact hQ false (by simp; exact hall)
theorem al76 (m : Mem) : opAlloc T 76 m = some (.ptr m.length 0, m ++ [⟨[.nilp], 2⟩]) := by simp [opAlloc, T76]
theorem GFAt.cell {m : Mem} {v : V} {f : Fd} (h : GFAt m v f) : v.isCell = true := by
  obtain ⟨b, _, _, _, _, _, rfl, _⟩ := h.at_; rfl
theorem st76n {u : V} (hu : u.isCell = true) (m : Mem) : opStore T 76 (.ptr m.length 0) u (m ++ [⟨[.nilp], 2⟩]) = some (m ++ [⟨[u], 2⟩]) := by
  rw [st76 _ _ _ _ hu, sc_at (At.new1 m [.nilp] 2) hu (by simp)]
  simp
theorem list_wv {f : Fd} {vm xv : V} {x : List Int} {m : Mem} {Q : V → Mem → Prop} (hf : f.Ok) (hv : Ints m vm f.mod) (hx : Ints m xv x) (hl : x.length ≤ 1000000) (hE : AllE f.F x) (hQ : ∀ m', Pre m m' → Q (I 0) m') : WV (DD 113 [.agg [I f.p, I f.n, vm], xv, I x.length] m) Q := by
  rw [e113]
  refine WV_fin ?_
  have hp0 := List.prefix_append m ([⟨[I f.p, I f.n, vm], 2⟩] : Mem)
  have hA := At.new1 m [I f.p, I f.n, vm] 2
  simp [r113_0, r113_1, r113_2, r113_3, r113_4, r113_5, r113_6, r113_7, r113_8, c113, hv.cell, (hx.pre hp0).len, (box_la hA (m := m)).1]
  refine WR_bnd (fieldNew_wv (hv.pre hp0) (fun f' g m1 hf' e1 e2 e3 hp hg => ?_) fun hno m1 hp => ?_)
  · have hF : f'.F = f.F := by
      have := F_eq (f := f') e1 e2 e3
      exact this.symm
    simp [al76, st76n hg.cell]
    have hpb := List.prefix_append m1 ([⟨[g], 2⟩] : Mem)
    refine WR_bnd (anyNot_wv (.inr rfl) (hg.pre hpb) (At.new1 _ _ _) (hx.pre ((hp0.trans hp).trans hpb)) hl fun t ht => ?_)
    rw [hF] at ht
    cases t with
    | true => exact (ht.1 rfl hE).elim
    | false =>
      simp [packV]
      exact hQ _ ((hp0.trans hp).trans hpb)
  · exact (hno ⟨f, hf, rfl, rfl, rfl⟩).elim
theorem mvec_wv {f : Fd} {vm rv xv : V} {cols : Nat} {x : List Int} {rows : List (List Int)} {m : Mem} {Q : V → Mem → Prop} (hf : f.Ok) (hv : Ints m vm f.mod) (hr : Rows m rv rows) (hx : Ints m xv x) (hl : x.length = rows.length) (hE : AllE f.F x) (he : matE f.F cols rows = 0)
    (hQ : ∀ v' m', Pre m m' → Fresh m m' v' (cmb f.F x rows cols x.length) → Q (.tup [v', I 0]) m') : WV (DD 114 [.agg [I f.p, I f.n, vm], xv, .agg [I cols, rv]] m) Q := by
  rw [e114]
  refine WV_fin ?_
  have hrc := hr.cell
  have hvc := hv.cell
  simp [r114_0, r114_1, r114_2, r114_3, r114_4, r114_5, r114_6, r114_7, r114_8, r114_9, c114, hvc, hrc, bs181 (a := I cols) (b := rv) rfl hrc]
  generalize hM1 : m ++ [⟨[I f.p, I f.n, vm], 2⟩, ⟨[I cols, rv], 2⟩, ⟨[I cols, rv], 2⟩] = m1 at *
  have hp1 : Pre m m1 := hM1 ▸ List.prefix_append _ _
  have hA : At m1 (m.length + 1) [I cols, rv] 2 := by rw [← hM1]; simp [At]
  have hC : At m1 (m.length + 2) [I cols, rv] 2 := by rw [← hM1]; simp [At]
  refine WR_bnd (mopen_wv (hv.pre hp1) (hr.pre hp1) hC (fun hno m2 hp2 => ?_) (fun f' m2 hf' e1 e2 e3 he' hp2 => ?_) fun f' g m2 hf' e1 e2 e3 he' hp2 hg => ?_)
  · exact (hno ⟨f, hf, rfl, rfl, rfl⟩).elim
  · exact (he' (by rw [← F_eq (f := f') e1 e2 e3]; exact he)).elim
  · have hF : f'.F = f.F := (F_eq (f := f') e1 e2 e3).symm
    obtain ⟨b0, b1, b2, b3⟩ := matE_Mat hf.F he
    simp only [Int.toNat_natCast] at b3
    have hx2 := (hx.pre hp1).pre hp2
    have hr2 := (hr.pre hp1).pre hp2
    obtain ⟨c0, c1, c2⟩ := box_la2 (Pre.at hp2 hA)
    simp [c2, hx2.len, hr2.len, hl]
    refine WR_bnd (entries_wv hg hx2 (by omega) (fun _ => ?_) fun h => (h (by rw [hF]; exact hE)).elim)
    simp [c1, c2]
    have hxE : ∀ j, f'.F.E (x.getD j 0) := by
      intro j
      rw [hF]
      by_cases hj : j < x.length
      · exact hE j hj
      · rw [List.getD_eq_getElem?_getD, List.getElem?_eq_none (by omega)]; exact hf.F.zeroE
    refine WR_bnd (vec_wv hg hx2 hr2 (by rw [hF]; exact b3) hxE hl (by omega) (by omega) ?_)
    simp [packV]
    rw [hF]
    exact hQ _ _ ((hp1.trans hp2).trans (List.prefix_append _ _)) ⟨m2.length, by simp, by have := Pre.len (hp1.trans hp2); omega, At.new1 _ _ _⟩
theorem cencode_wv {f : Fd} {vm rv xv : V} {N : Nat} {x : List Int} {gen : List (List Int)} {m : Mem} {Q : V → Mem → Prop} (hf : f.Ok) (hv : Ints m vm f.mod) (hr : Rows m rv gen) (hx : Ints m xv x) (hl : x.length = gen.length) (hE : AllE f.F x) (h0 : codeE f.p f.n f.mod N gen = 0) (he : matE f.F N gen = 0)
    (hQ : ∀ v' m', Pre m m' → Fresh m m' v' (cmb f.F x gen N x.length) → Q (.tup [v', I 0]) m') : WV (DD 73 [.agg [I f.p, I f.n, vm, I N, rv], xv] m) Q := by
  rw [e73]
  refine WV_fin ?_
  have hrc := hr.cell
  have hvc := hv.cell
  have hA := At.new1 m [I f.p, I f.n, vm, I N, rv] 2
  have hp0 := List.prefix_append m ([⟨[I f.p, I f.n, vm, I N, rv], 2⟩] : Mem)
  obtain ⟨c0, c1, c2, c3⟩ := box_la5 hA
  have hgl : gen.length ≤ 256 := (matE_Mat hf.F he).2.2.1
  simp [r73_0, r73_1, r73_2, r73_3, r73_4, r73_5, r73_6, c73, hvc, hrc, c1]
  refine WR_bnd (codeCheck_wv (hv.pre hp0) (hr.pre hp0) fun m1 hp1 => ?_)
  rw [h0]
  have hp1 := hp0.trans hp1
  have hA1 := Pre.at (by assumption) hA
  obtain ⟨c0, c1, c2, c3⟩ := box_la5 hA1
  simp [c0, c3, (hr.pre hp1).len]
  rw [← hl]
  refine WR_bnd (list_wv hf (hv.pre hp1) (hx.pre hp1) (by omega) hE fun m2 hp2 => ?_)
  obtain ⟨c0, c1, c2, c3⟩ := box_la5 (Pre.at hp2 hA1)
  have hp2' := hp1.trans hp2
  simp [c0, c1]
  refine WR_bnd (gen_wv (by simp [hvc, hrc]) fun m3 hp3 => ?_)
  simp [chkd_of hp3]
  have hp3' := hp2'.trans hp3
  refine WR_bnd (mvec_wv hf (hv.pre hp3') (hr.pre hp3') (hx.pre hp3') hl hE he fun v' m4 hp4 hF => ?_)
  simp [packV]
  obtain ⟨b, h1, h2, h3⟩ := hF
  exact hQ v' m4 (hp3'.trans hp4) ⟨b, h1, by have := Pre.len hp3'; omega, h3⟩
end Go.Proofs.YtefjnnghfloddaaGreat.Abs

/- Rows that are made by append; lists of stripes. -/
namespace Go.Proofs.YtefjnnghfloddaaGreat.Abs
set_option linter.unusedVariables false
set_option linter.unusedSimpArgs false
set_option linter.unusedSectionVars false
open Ff
structure RV (m0 m : Mem) (B : Nat) (cs : List V) (l : List (List Int)) : Prop where
  p : Pre m0 m
  B0 : m0.length ≤ B
  at_ : At m B cs 2
  len : cs.length = l.length
  row : ∀ (i : Nat) (u : V), cs[i]? = some u → FreshA m0 m u (rw_ l i)
  off : ∀ (i : Nat) (u : V), cs[i]? = some u → Off u B
  inj : ∀ (i j : Nat) (u v : V) (y : Nat), i ≠ j → cs[i]? = some u → cs[j]? = some v → ¬ Off u y → Off v y
theorem FreshV.lo {m0 m : Mem} {v : V} {cs : List V} (h : FreshV m0 m v cs) {y : Nat} (hy : ¬ Off v y) : m0.length ≤ y ∧ y < m.length := by
  rcases h with ⟨rfl, _⟩ | ⟨b, ex, rfl, h2, h3⟩
  · exact (hy (Off.nils y)).elim
  · obtain ⟨o, n, c, z, ex', e⟩ := notOff hy
    injection e with e
    subst e
    exact ⟨h2, At.lt h3⟩
section
variable {m0 m : Mem} {B : Nat} {cs : List V} {l : List (List Int)} (h : RV m0 m B cs l)
include h
theorem RV.keep {m' : Mem} (hp : Pre m0 m') (hk : ∀ y k, m0.length ≤ y → m[y]? = some k → m'[y]? = some k) : RV m0 m' B cs l :=
  ⟨hp, h.B0, hk B _ h.B0 h.at_, h.len, fun i u hu => (h.row i u hu).keep fun y k hy hm => hk y k (FreshV.lo (h.row i u hu) hy).1 hm, h.off, h.inj⟩
theorem RV.pre {m' : Mem} (hm : Pre m m') : RV m0 m' B cs l := h.keep (h.p.trans hm) fun y k _ hk => Pre.at hm hk
theorem RV.rows (ex : Bool) : Rows m (.sl B 0 l.length l.length 1 ex) l := by
  refine .inr (.inr ⟨B, 0, l.length, ex, _, rfl, h.at_, by simp, Nat.le_refl _, fun i hi => ?_⟩)
  have hi' : i < cs.length := by rw [h.len]; exact hi
  refine ⟨cs[i], by simp [hi'], ?_⟩
  have := (h.row i cs[i] (by simp [hi'])).ints
  rw [rw_, List.getD_eq_getElem?_getD, List.getElem?_eq_getElem hi] at this
  exact this
theorem RV.get {i : Nat} (hi : i < l.length) : ∃ u, cs[i]? = some u ∧ lc m B i = some u ∧ u.isCell = true := by
  have hi' : i < cs.length := by rw [h.len]; exact hi
  refine ⟨cs[i], by simp [hi'], by rw [lc_at h.at_ (by omega)]; simp [hi'], (h.row i cs[i] (by simp [hi'])).cell⟩
theorem RV.put {i : Nat} {x : Int} (hi : i < l.length) (hl : (rw_ l i).length < 1000000000) {u : V} (hu : cs[i]? = some u) :
    ∃ v' m1, opAppend T 22 22 u (.sl m.length 0 1 1 1 true) (m ++ [⟨[I x], 2⟩]) = some (v', m1) ∧ v'.isCell = true ∧ At m1 B cs 2 ∧ RV m0 (m1.set B ⟨cs.set i v', 2⟩) B (cs.set i v') (l.set i (rw_ l i ++ [x])) ∧
      (∀ y k, Off u y → m[y]? = some k → m1[y]? = some k) ∧ (∀ y, y < m.length → Off u y → Off v' y) ∧ Pre m0 m1 := by
  have hr := h.row i u hu
  obtain ⟨v', m1, a1, a2, a3, a4, a5, a6⟩ := append22 (x := x) hr h.p hl
  have hB := a5 B _ (h.off i u hu) h.at_
  have hlt := At.lt h.at_
  have hvB : Off v' B := a6 B hlt (h.off i u hu)
  have hic : i < cs.length := by rw [h.len]; exact hi
  refine ⟨v', m1, a1, a2.cell, hB, ⟨a3.set h.B0 _, h.B0, At.set_self hB, by simp [h.len], ?_, ?_, ?_⟩, a5, a6, a3⟩
  · intro j w hw
    rw [List.getElem?_set] at hw
    split at hw
    · rename_i e; subst e
      obtain rfl := Option.some.inj hw
      rw [rw_set _ _ _ _ hi, if_pos rfl]
      exact FreshV.set_off a2 hvB _
    · rename_i e
      rw [rw_set _ _ _ _ hi, if_neg (Ne.symm e)]
      refine FreshV.set_off ((h.row j w hw).keep fun y k hy hm => a5 y k ?_ hm) (h.off j w hw) _
      exact h.inj j i w u y (Ne.symm e) hw hu hy
  · intro j w hw
    rw [List.getElem?_set] at hw
    split at hw
    · rename_i e; subst e
      obtain rfl := Option.some.inj hw
      exact hvB
    · exact h.off j w hw
  · intro j k w z y hne hw hz hy
    rw [List.getElem?_set] at hw hz
    split at hw
    · rename_i e; subst e
      obtain rfl := Option.some.inj hw
      rw [if_neg hne] at hz
      by_cases hy2 : y < m.length
      · by_cases hou : Off u y
        · exact (hy (a6 y hy2 hou)).elim
        · exact h.inj i k u z y hne hu hz hou
      · exact (h.row k z hz).off (by omega)
    · rename_i e
      split at hz
      · rename_i e2; subst e2
        obtain rfl := Option.some.inj hz
        exact a6 y (FreshV.lo (h.row j w hw) hy).2 (h.inj j i w u y hne hw hu hy)
      · exact h.inj j k w z y hne hw hz hy
end
end Go.Proofs.YtefjnnghfloddaaGreat.Abs

/- Lists of stripes. -/
namespace Go.Proofs.YtefjnnghfloddaaGreat.Abs
set_option linter.unusedVariables false
set_option linter.unusedSimpArgs false
set_option linter.unusedSectionVars false
open Ff
abbrev Rows3 (m : Mem) (v : V) (l : List (List (List Int))) : Prop := Sl (Rows m) m v l
theorem Rows3.len {m : Mem} {v : V} {l : List (List (List Int))} (h : Rows3 m v l) : opLen T 40 v = some (I l.length) := h.len_of T40 rfl
theorem Rows3.at {m : Mem} {v : V} {l : List (List (List Int))} (h : Rows3 m v l) {ix : Int} (h0 : 0 ≤ ix) (h1 : ix < l.length) : ∃ b o u, opIndexAddr T 40 v (I ix) = some (.ptr b o) ∧ lc m b o = some u ∧ Rows m u (l.getD ix.toNat []) := by
  obtain ⟨b, o, u, e1, e2, e3⟩ := h.at_of T40 rfl T25 rfl rfl h0 h1
  have hl : ix.toNat < l.length := by omega
  have := e3 l[ix.toNat] (by simp [hl])
  refine ⟨b, o, u, e1, (ld25 b o m) ▸ e2, ?_⟩
  simpa [hl] using this
theorem Rows3.keep {m m' : Mem} {v : V} {l : List (List (List Int))} (h : Rows3 m v l) (hm : Keep m m') : Rows3 m' v l := Sl.mono h (fun _ _ h => Rows.keep h hm) hm
theorem Rows3.pre {m m' : Mem} {v : V} {l : List (List (List Int))} (h : Rows3 m v l) (hm : Pre m m') : Rows3 m' v l := h.keep (.pre hm)
def RowsK (P : Nat → Prop) (m : Mem) (u : V) (l : List (List Int)) : Prop := ∀ m', (∀ y k, P y → m[y]? = some k → m'[y]? = some k) → Rows m' u l
theorem RowsK.rows {P : Nat → Prop} {m : Mem} {u : V} {l : List (List Int)} (h : RowsK P m u l) : Rows m u l := h m fun _ _ _ h => h
theorem RowsK.keep {P P' : Nat → Prop} {m m' : Mem} {u : V} {l : List (List Int)} (h : RowsK P m u l) (hP : ∀ y, y < m.length → P y → P' y) (hm : ∀ y k, P y → m[y]? = some k → m'[y]? = some k) : RowsK P' m' u l := by
  intro m2 h2
  refine h m2 fun y k hy hk => h2 y k (hP y ?_ hy) (hm y k hy hk)
  rcases Nat.lt_or_ge y m.length with h3 | h3
  · exact h3
  · rw [List.getElem?_eq_none h3] at hk; cases hk
theorem RV.rowsK {m0 m : Mem} {B : Nat} {cs : List V} {l : List (List Int)} (h : RV m0 m B cs l) (ex : Bool) : RowsK (fun y => m0.length ≤ y) m (.sl B 0 l.length l.length 1 ex) l := by
  intro m' hm
  refine .inr (.inr ⟨B, 0, l.length, ex, _, rfl, hm B _ h.B0 h.at_, by simp, Nat.le_refl _, fun i hi => ?_⟩)
  have hi' : i < cs.length := by rw [h.len]; exact hi
  refine ⟨cs[i], by simp [hi'], ?_⟩
  have h0 := h.row i cs[i] (by simp [hi'])
  have := FreshA.ints (m0 := m0) (FreshV.keep (m' := m') h0 fun y k hy hk => hm y k (FreshV.lo h0 hy).1 hk)
  rw [rw_, List.getD_eq_getElem?_getD, List.getElem?_eq_getElem hi] at this
  exact this
structure OUT (A : Nat → Prop) (m0 m : Mem) (ov : V) (L : List (List (List Int))) : Prop where
  p : Pre m0 m
  d : ∃ vs : List V, FreshV m0 m ov vs ∧ vs.length = L.length ∧ ∀ (i : Nat) (u : V), vs[i]? = some u → RowsK (fun y => Off ov y ∧ A y) m u (L.getD i [])
section
variable {A : Nat → Prop} {m0 m : Mem} {ov : V} {L : List (List (List Int))} (h : OUT A m0 m ov L)
include h
theorem OUT.pre {m' : Mem} (hm : Pre m m') : OUT A m0 m' ov L := by
  obtain ⟨vs, h1, h2, h3⟩ := h.d
  exact ⟨h.p.trans hm, vs, h1.pre hm, h2, fun i u hu => (h3 i u hu).keep (fun _ _ h => h) fun y k _ hk => Pre.at hm hk⟩
theorem OUT.set {b : Nat} (hb : m0.length ≤ b) (ho : Off ov b) (hA : ¬ A b) (k : Blk) : OUT A m0 (m.set b k) ov L := by
  obtain ⟨vs, h1, h2, h3⟩ := h.d
  refine ⟨h.p.set hb k, vs, h1.set_off ho k, h2, fun i u hu => (h3 i u hu).keep (fun _ _ h => h) fun y k' hy hk => ?_⟩
  have hne : b ≠ y := by rintro rfl; exact hA hy.2
  rw [List.getElem?_set_ne hne]; exact hk
theorem OUT.rows : Rows3 m ov L := by
  obtain ⟨vs, h1, h2, h3⟩ := h.d
  rcases h1 with ⟨rfl, rfl⟩ | ⟨b, ex, rfl, hb, hat⟩
  · exact .inl ⟨rfl, List.length_eq_zero_iff.1 h2.symm⟩
  · rw [h2]
    refine .inr (.inr ⟨b, 0, _, ex, _, rfl, hat, by simp, Nat.le_refl _, fun i hi => ?_⟩)
    have hi' : i < vs.length := by omega
    refine ⟨vs[i], by simp [hi'], ?_⟩
    have := (h3 i vs[i] (by simp [hi'])).rows
    rwa [List.getD_eq_getElem?_getD, List.getElem?_eq_getElem hi] at this
theorem OUT.push {u : V} {st : List (List Int)} (hu : RowsK (fun y => Off ov y ∧ A y) m u st) (hl : L.length < 1000000) :
    ∃ v' m1, opAppend T 40 40 ov (.sl m.length 0 1 1 1 true) (m ++ [⟨[u], 2⟩]) = some (v', m1) ∧ v'.isCell = true ∧ OUT A m0 m1 v' (L ++ [st]) ∧ m.length ≤ m1.length ∧ (∀ y k, Off ov y → m[y]? = some k → m1[y]? = some k) ∧ (∀ y, y < m.length → Off ov y → Off v' y) := by
  obtain ⟨vs, h1, h2, h3⟩ := h.d
  obtain ⟨v', m1, a1, a2, a3, a4, a5, a6⟩ := append_fresh (t := 40) (t2 := 40) (news := [u]) T40 rfl T40 rfl T25 rfl (by decide) (h1.app [⟨[u], 2⟩]) (h.p.app _) (x := .sl m.length 0 1 1 1 true) rfl (by
    have := cells_of (o := 0) (n := 1) (c := 1) (k := 1) (ex := true) (At.new1 m [u] 2) (by omega) (by omega) (by simp)
    simpa using this) (by simp; omega)
  have a5' : ∀ y k, Off ov y → m[y]? = some k → m1[y]? = some k := fun y k ho hk => a5 y k ho (At.app (l := k.cells) (st := k.st) hk _)
  have a6' : ∀ y, y < m.length → Off ov y → Off v' y := fun y hy ho => a6 y (by simp; omega) ho
  refine ⟨v', m1, a1, a2.cell, ⟨a3, _, a2, by simp [h2], ?_⟩, by simp at a4; omega, a5', a6'⟩
  intro i w hw
  rw [List.getElem?_append] at hw
  split at hw
  · rename_i hi
    rw [List.getD_eq_getElem?_getD, List.getElem?_append_left (by omega), ← List.getD_eq_getElem?_getD]
    exact (h3 i w hw).keep (fun y hy hp => ⟨a6' y hy hp.1, hp.2⟩) fun y k hp hk => a5' y k hp.1 hk
  · rename_i hi
    have hi0 : i = vs.length := by
      rcases Nat.lt_or_ge (i - vs.length) 1 with h4 | h4
      · omega
      · rw [List.getElem?_eq_none (by simpa using h4)] at hw; cases hw
    subst hi0
    obtain rfl : u = w := by simpa using hw
    rw [h2, List.getD_eq_getElem?_getD, List.getElem?_append_right (Nat.le_refl _)]
    simp
    exact hu.keep (fun y hy hp => ⟨a6' y hy hp.1, hp.2⟩) fun y k hp hk => a5' y k hp.1 hk
end
theorem OUT.nil (A : Nat → Prop) {m0 m : Mem} (hp : Pre m0 m) : OUT A m0 m .nils [] := ⟨hp, [], .inl ⟨rfl, rfl⟩, rfl, fun i u hu => by cases hu⟩
theorem OUT.lit (A : Nat → Prop) {m0 m : Mem} (hp : Pre m0 m) : OUT A m0 (m ++ [⟨[], 2⟩]) (.sl m.length 0 0 0 1 true) [] := ⟨hp.app _, [], FreshV.lit0 m0 m hp, rfl, fun i u hu => by cases hu⟩
end Go.Proofs.YtefjnnghfloddaaGreat.Abs

/- Data cut into stripes, in plain Lean; following a range over slices.Chunk. -/
namespace Go.Proofs.YtefjnnghfloddaaGreat.Abs
set_option linter.unusedVariables false
set_option linter.unusedSimpArgs false
set_option linter.unusedSectionVars false
open Ff
theorem W_rf {f : Env → Option V} {p : Tmp} {r : Run} {e : Env} {m : Mem} {Q : Ex → Env → Mem → Prop} {g : FuncId} {caps vs : List V} (hf : f e = some (.fn g [] caps)) (hI : IT g caps m = some vs) (Inv : Nat → Mem → Prop) (h0 : Inv 0 m)
    (hs : ∀ i v m1, Inv i m1 → vs[i]? = some v → W (r (e.upd (some p) v) m1) fun x _ m2 => x = .normal ∧ caps.map (boxAt m2) = caps.map (boxAt m) ∧ Inv (i + 1) m2) (hd : ∀ m', Inv vs.length m' → Q .normal e m') : W (rf f p r e m) Q := by
  have key : ∀ (l : List V) (i : Nat) (m1 : Mem), Inv i m1 → i + l.length = vs.length → (∀ j, l[j]? = vs[i + j]?) → ∃ m2, rngR caps m p r e l m1 = some (.normal, e, m2) ∧ Inv vs.length m2 := by
    intro l
    induction l with
    | nil => intro i m1 h1 h2 _; exact ⟨m1, rfl, by simpa [← h2] using h1⟩
    | cons v l ih =>
      intro i m1 h1 h2 h3
      obtain ⟨x, e', m2, g1, rfl, g2, g3⟩ := hs i v m1 h1 (by have := h3 0; simpa using this.symm)
      obtain ⟨m3, g4, g5⟩ := ih (i + 1) m2 g3 (by simp at h2; omega) (fun j => by have := h3 (j + 1); rw [List.getElem?_cons_succ] at this; rw [this]; congr 1; omega)
      refine ⟨m3, ?_, g5⟩
      rw [rngR, g1]
      simp only
      rw [if_pos g2, g4]
  obtain ⟨m2, h1, h2⟩ := key vs 0 m h0 (by simp) (fun j => by simp)
  refine ⟨.normal, e, m2, ?_, hd m2 h2⟩
  unfold rf rngC
  rw [hf]
  simp only [hI]
  exact h1
def colsL (cw : Nat → List Int) (N j b : Nat) : List (List Int) := (List.range N).map fun r => (List.range (if r < b then j + 1 else j)).map fun t => (cw t).getD r 0
@[simp] theorem colsL_len (cw : Nat → List Int) (N j b : Nat) : (colsL cw N j b).length = N := by simp [colsL]
theorem colsL_row {cw : Nat → List Int} {N j b r : Nat} (h : r < N) : rw_ (colsL cw N j b) r = (List.range (if r < b then j + 1 else j)).map fun t => (cw t).getD r 0 := by simp [rw_, colsL, h]
theorem colsL_set {cw : Nat → List Int} {N j b : Nat} (h : b < N) : (colsL cw N j b).set b (rw_ (colsL cw N j b) b ++ [(cw j).getD b 0]) = colsL cw N j (b + 1) := by
  apply List.ext_getElem?
  intro r
  rw [List.getElem?_set]
  by_cases hr : r < N
  · by_cases e : b = r
    · subst e
      rw [if_pos rfl, if_pos (by simpa using h), colsL_row h]
      simp [colsL, h, List.range_succ]
    · rw [if_neg e]
      have : (r < b + 1) = (r < b) := by simp; omega
      simp [colsL, hr, this]
  · rw [List.getElem?_eq_none (l := colsL cw N j (b + 1)) (by simp; omega)]
    split
    · omega
    · exact List.getElem?_eq_none (by simp; omega)
theorem colsL_next (cw : Nat → List Int) (N j : Nat) : colsL cw N j N = colsL cw N (j + 1) 0 := by
  apply List.ext_getElem?
  intro r
  by_cases hr : r < N
  · simp [colsL, hr]
  · rw [List.getElem?_eq_none (by simp; omega), List.getElem?_eq_none (by simp; omega)]
theorem colsL_zero (cw : Nat → List Int) (N : Nat) : colsL cw N 0 0 = List.replicate N [] := by
  apply List.ext_getElem?
  intro r
  by_cases hr : r < N <;> simp [colsL, hr]
def msgL (full : List Int) (k j : Nat) : List Int := (full.drop (j * k)).take k
noncomputable def cwOf (F : Ff) (gen : List (List Int)) (N : Nat) (full : List Int) (j : Nat) : List Int := cmb F (msgL full gen.length j) gen N gen.length
def padL (S : Nat) (part : List Int) : List Int := part ++ List.replicate (S - part.length) 0
def chunkL (S : Nat) (data : List Int) (i : Nat) : List Int := (data.drop (i * S)).take S
noncomputable def stripeOf (F : Ff) (gen : List (List Int)) (N w : Nat) (data : List Int) (i : Nat) : List (List Int) := colsL (cwOf F gen N (padL (gen.length * w) (chunkL (gen.length * w) data i))) N w 0
def cntL (S n : Nat) : Nat := (n + S - 1) / S
noncomputable def stripesL (F : Ff) (gen : List (List Int)) (N w : Nat) (data : List Int) : List (List (List Int)) := (List.range (cntL (gen.length * w) data.length)).map (stripeOf F gen N w data)
theorem cntL_lt {S n i : Nat} (hS : 1 ≤ S) : i < cntL S n ↔ i * S < n := by
  rw [cntL, Nat.lt_div_iff_mul_lt (by omega)]
  omega
theorem cntL_of {S n c : Nat} (hS : 1 ≤ S) (h : ∀ i, i < c ↔ i * S < n) : c = cntL S n := by
  rcases Nat.lt_trichotomy c (cntL S n) with h1 | h1 | h1
  · have := (h c).2 ((cntL_lt hS).1 h1); omega
  · exact h1
  · have := (cntL_lt hS).2 ((h _).1 h1); omega
theorem padL_len {S : Nat} {part : List Int} (h : part.length ≤ S) : (padL S part).length = S := by simp [padL]; omega
theorem chunkL_len (S : Nat) (data : List Int) (i : Nat) : (chunkL S data i).length = min S (data.length - i * S) := by simp [chunkL]
theorem msgL_len {full : List Int} {k j w : Nat} (h : full.length = k * w) (hj : j < w) : (msgL full k j).length = k := by
  have : (j + 1) * k ≤ k * w := by rw [Nat.mul_comm k w]; exact Nat.mul_le_mul_right k hj
  have e : (j + 1) * k = j * k + k := Nat.succ_mul j k
  simp [msgL]; omega
theorem AllE_pad {F : Ff} (hF : F.Ok) {S : Nat} {part : List Int} (h : AllE F part) : AllE F (padL S part) := by
  intro j hj
  rw [padL, List.getD_eq_getElem?_getD, List.getElem?_append]
  split
  · rename_i h1; rw [← List.getD_eq_getElem?_getD]; exact h j h1
  · rw [List.getElem?_replicate]; split <;> exact hF.zeroE
theorem AllE_sub {F : Ff} {l : List Int} (h : AllE F l) (a b : Nat) : AllE F ((l.drop a).take b) := by
  intro j hj
  simp at hj
  rw [List.getD_eq_getElem?_getD, List.getElem?_take_of_lt (by omega), List.getElem?_drop, ← List.getD_eq_getElem?_getD]
  exact h _ (by omega)
theorem partsOf_get {b k : Nat} (hk : 1 ≤ k) : ∀ (f o n j : Nat) (v : V), n ≤ f → (partsOf b k f o n)[j]? = some v → j * k < n ∧ v = .sl b (o + j * k) (min k (n - j * k)) (min k (n - j * k)) 1 true
  | 0, o, n, j, v, h, h2 => by simp [partsOf] at h2
  | f + 1, o, n, j, v, h, h2 => by
    simp only [partsOf] at h2
    by_cases hn : n = 0
    · simp [hn] at h2
    · simp only [hn, if_false] at h2
      cases j with
      | zero => simp at h2; subst h2; simp; omega
      | succ j =>
        have e : (j + 1) * k = j * k + k := Nat.succ_mul j k
        rw [List.getElem?_cons_succ] at h2
        obtain ⟨h3, h4⟩ := partsOf_get hk f _ _ j v (by omega) h2
        by_cases h5 : k ≤ n
        · rw [Nat.min_eq_left h5] at h3 h4
          refine ⟨by omega, ?_⟩
          rw [h4, show o + k + j * k = o + (j + 1) * k by omega, show n - k - j * k = n - (j + 1) * k by omega]
        · rw [Nat.min_eq_right (by omega)] at h3
          omega
theorem partsOf_len {b k : Nat} (hk : 1 ≤ k) : ∀ (f o n j : Nat), n ≤ f → (j < (partsOf b k f o n).length ↔ j * k < n)
  | 0, o, n, j, h => by simp [partsOf]; omega
  | f + 1, o, n, j, h => by
    simp only [partsOf]
    by_cases hn : n = 0
    · simp [hn]
    · simp only [hn, if_false, List.length_cons]
      cases j with
      | zero => simp; omega
      | succ j =>
        have e : (j + 1) * k = j * k + k := Nat.succ_mul j k
        have := partsOf_len hk f (o + min k n) (n - min k n) j (by omega) (b := b)
        rw [Nat.add_lt_add_iff_right, this]
        omega
theorem Ints.sub {m : Mem} {b o c : Nat} {ex ex' : Bool} {l : List Int} (h : Ints m (.sl b o l.length c 1 ex) l) (a n c' : Nat) (hn : a + n ≤ l.length) (hc : n ≤ c') : Ints m (.sl b (o + a) n c' 1 ex') ((l.drop a).take n) := by
  rcases h with ⟨h, _⟩ | ⟨h, _⟩ | ⟨b1, o1, c1, ex1, k, h, hb, h3, h4, h5⟩
  · cases h
  · cases h
  · injection h with e1 e2 e3 e4 e5 e6
    subst e1 e2
    have hlen : ((l.drop a).take n).length = n := by simp; omega
    refine .inr (.inr ⟨b, o + a, c', ex', k, by rw [hlen], hb, h3, by omega, fun i hi => ?_⟩)
    rw [hlen] at hi
    obtain ⟨u, hu, hr⟩ := h5 (a + i) (by omega)
    refine ⟨u, by rw [Nat.add_assoc]; exact hu, ?_⟩
    rw [hr]
    congr 1
    rw [List.getElem_take, List.getElem_drop]
end Go.Proofs.YtefjnnghfloddaaGreat.Abs

/- Specifications: the program's encode. -/
namespace Go.Proofs.YtefjnnghfloddaaGreat.Abs
set_option linter.unusedVariables false
set_option linter.unusedSimpArgs false
set_option linter.unusedSectionVars false
open Ff
theorem copy_pad {m : Mem} {B S : Nat} {sv : V} {part : List Int} (hB : At m B ((List.replicate S 0).map I) 2) (hx : Ints m sv part) (h0 : 0 < part.length) (hS : part.length ≤ S) : ∃ v, opCopy T 22 (.sl B 0 S S 1 true) sv m = some (v, m.set B ⟨(padL S part).map I, 2⟩) := by
  refine ⟨I part.length, ?_⟩
  have hl := hx.vlen
  have hc := hx.cells
  have e : put ((List.replicate S 0).map I) 0 (part.map I) = (padL S part).map I := by
    apply List.ext_getElem?
    intro i
    rcases Nat.lt_or_ge i part.length with h1 | h1
    · have := put_get_in ((List.replicate S 0).map I) 0 (part.map I) i (by simpa using h1) (by simp; omega)
      rw [Nat.zero_add] at this
      rw [this, padL, List.getElem?_map, List.getElem?_map, List.getElem?_append_left h1]
    · rw [put_get_ge _ _ _ _ (by simpa using h1), padL, List.getElem?_map, List.getElem?_map, List.getElem?_append_right h1]
      congr 1
      rw [List.getElem?_replicate, List.getElem?_replicate]
      split <;> split <;> first | rfl | omega
  have hd : (V.sl B 0 S S 1 true).len = some S := rfl
  simp only [opCopy, T22, T3, hd, hl]
  rw [Nat.min_eq_left hS, if_neg (by omega), hc]
  simp only [At] at hB
  simp only [hB]
  rw [if_pos ⟨trivial, by simp; omega⟩, e]
theorem slice22_mid {b o n c a z : Nat} {ex : Bool} (h0 : a ≤ z) (h1 : z ≤ c) : opSlice T 22 (.sl b o n c 1 ex) (some (I a)) (some (I z)) none = some (.sl b (o + a) (z - a) (c - a) 1 ex) := by
  have e1 : ((z : Int) - a).toNat = z - a := by omega
  have e2 : ((c : Int) - a).toNat = c - a := by omega
  simp [opSlice, T22, T3, optInt, h0, h1, e1, e2]
theorem lit40 (u : V) (hu : u.isCell = true) (m : Mem) : opBuildSlice T 40 1 [(0, u)] m = some (.sl m.length 0 1 1 1 true, m ++ [⟨[u], 2⟩]) := by
  have h : u.cells = [u] := by cases u <;> simp [V.cells, V.isCell] at hu ⊢
  simp [opBuildSlice, T40, T25, fillA, zeros, h, hu]
theorem OUT.off {A : Nat → Prop} {m0 m : Mem} {ov : V} {L : List (List (List Int))} (h : OUT A m0 m ov L) {y : Nat} (hy : m.length ≤ y) : Off ov y := by
  obtain ⟨vs, h1, _⟩ := h.d; exact h1.off hy
theorem OUT.cell {A : Nat → Prop} {m0 m : Mem} {ov : V} {L : List (List (List Int))} (h : OUT A m0 m ov L) : ov.isCell = true := by
  obtain ⟨vs, h1, _⟩ := h.d; exact h1.cell
structure EcI (nb : Nat) (mr : Mem) (cw : Nat → List Int) (N w j B b2 b6 b10 S Sb : Nat) (k : Nat) (e : Env) (m' : Mem) : Prop where
  d : ∃ (i : Nat) (cs : List V), e 2 = .ptr b2 0 ∧ e 6 = .ptr b6 0 ∧ e 10 = .ptr b10 0 ∧ e 12 = .sl Sb 0 S S 1 true ∧ e 13 = .sl B 0 N N 1 true ∧ e 56 = I w ∧ e 57 = I j ∧ e 75 = .sl nb 0 N N 1 true ∧ e 76 = I N ∧ e 77 = I i ∧ i ≤ N ∧ N - i = k ∧
    RV mr m' B cs (colsL cw N j i) ∧ At m' nb ((cw j).map I) 2 ∧ nb ≠ B ∧ (∀ (r : Nat) (u : V), cs[r]? = some u → Off u nb)
structure EcJ (mr : Mem) (cw : Nat → List Int) (N w B b2 b6 b10 S Sb : Nat) (k : Nat) (e : Env) (m' : Mem) : Prop where
  d : ∃ (j : Nat) (cs : List V), e 2 = .ptr b2 0 ∧ e 6 = .ptr b6 0 ∧ e 10 = .ptr b10 0 ∧ e 12 = .sl Sb 0 S S 1 true ∧ e 13 = .sl B 0 N N 1 true ∧ e 56 = I w ∧ e 57 = I j ∧ j ≤ w ∧ w - j = k ∧ RV mr m' B cs (colsL cw N j 0)
theorem eround_wv {f : Fd} {N w b2 b6 b7 b10 : Nat} {d : Int} {vm gv sv rv pv ov : V} {gen : List (List Int)} {part : List Int} {A : Nat → Prop} {m0 m : Mem} {L : List (List (List Int))} {e : Env} {Q : Ex → Env → Mem → Prop}
    (e2 : e 2 = .ptr b2 0) (e6 : e 6 = .ptr b6 0) (e7 : e 7 = .ptr b7 0) (e10 : e 10 = .ptr b10 0) (e45 : e 45 = pv)
    (h2 : At m b2 (gcells f.p f.n vm N gv d sv rv w) 2) (h6 : At m b6 [I gen.length] 2) (h7 : At m b7 [I (gen.length * w : Nat)] 2) (h10 : At m b10 [ov] 2)
    (hf : f.Ok) (hv : Ints m vm f.mod) (hg : Rows m gv gen) (hp : Ints m pv part) (hp0 : 0 < part.length) (hpS : part.length ≤ gen.length * w) (hpE : AllE f.F part)
    (hc0 : codeE f.p f.n f.mod N gen = 0) (he0 : matE f.F N gen = 0) (hw : w ≤ 16) (hN : N ≤ 64) (hg1 : gen.length ≤ 256)
    (hO : OUT A m0 m ov L) (hL : L.length < 1000000) (hA : ¬ A b10) (hAl : ∀ y, m.length ≤ y → A y) (hob : Off ov b10) (hb0 : m0.length ≤ b10)
    (hQ : ∀ e' ov' m', At m' b10 [ov'] 2 → OUT A m0 m' ov' (L ++ [colsL (cwOf f.F gen N (padL (gen.length * w) part)) N w 0]) → Off ov' b10 → m.length ≤ m'.length → (∀ y k, Off ov y → y ≠ b10 → m[y]? = some k → m'[y]? = some k) → (∀ y, y < m.length → Off ov y → Off ov' y) → Q .normal e' m') :
    W (l40_27 DD e m) Q := by
  have hK : gen.length * w ≤ 256 * 16 := Nat.mul_le_mul hg1 hw
  obtain ⟨S, hS⟩ : ∃ S, gen.length * w = S := ⟨_, rfl⟩
  rw [hS] at hpS h7 hQ hK
  have l7 : lc m b7 0 = some (I S) := by rw [lc_at h7 (by omega)]; rfl
  have hz : At (m ++ ([⟨(List.replicate S (0 : Int)).map I, 2⟩] : Mem)) m.length ((List.replicate S (0 : Int)).map I) 2 := At.new1 _ _ _
  obtain ⟨cv, hcp⟩ := copy_pad hz (hp.pre (List.prefix_append _ _)) hp0 hpS
  have hset : (m ++ ([⟨(List.replicate S (0 : Int)).map I, 2⟩] : Mem)).set m.length ⟨(padL S part).map I, 2⟩ = m ++ [⟨(padL S part).map I, 2⟩] := by simp
  rw [hset] at hcp
  have hrep : List.replicate S (I 0) = (List.replicate S (0 : Int)).map I := by simp
  obtain ⟨mr, hmr⟩ : ∃ mr, m ++ ([⟨(padL S part).map I, 2⟩] : Mem) = mr := ⟨_, rfl⟩
  have hpr : Pre m mr := hmr ▸ List.prefix_append _ _
  have hlr : mr.length = m.length + 1 := by rw [← hmr]; simp
  rw [hmr] at hcp
  have h2r := Pre.at hpr h2
  obtain ⟨c0, c1, c2, c3, c4, c5, c6, c7, c8⟩ := box_la9g h2r
  have h2x := Pre.at (List.prefix_append mr ([⟨List.replicate N V.nils, 2⟩] : Mem)) h2r
  obtain ⟨g0, g1, g2, g3, g4, g5, g6, g7, g8⟩ := box_la9g h2x
  have hsym : At mr m.length ((padL S part).map I) 2 := by rw [← hmr]; exact At.new1 _ _ _
  simp [l40_27, r40_0, r40_1, r40_2, r40_3, r40_4, r40_5, r40_6, r40_7, r40_8, r40_9, r40_10, r40_11, r40_12, r40_13, r40_14, r40_15, r40_16, r40_17, r40_18, r40_19, r40_20, r40_21, r40_22, r40_24, r40_26, r40_28, c40, e45, e2, e7, l7, mk22 (l := S) (c := S) (by omega) (by omega) (by omega), hrep, hcp, c2, mk25 (l := N) (c := N) (by omega) (by omega) (by omega), g7, -List.map_replicate]
  obtain ⟨B, hBe⟩ : ∃ B, mr.length = B := ⟨_, rfl⟩
  rw [hBe]
  have hB0 : m.length < B := by omega
  obtain ⟨cw, hcw⟩ : ∃ cw, cwOf f.F gen N (padL S part) = cw := ⟨_, rfl⟩
  rw [hcw] at hQ
  have hfl : (padL S part).length = S := padL_len hpS
  have hfE : AllE f.F (padL S part) := AllE_pad hf.F hpE
  have hcwl : ∀ j, (cw j).length = N := fun j => by rw [← hcw]; simp [cwOf]
  refine W_loop (EcJ mr cw N w B b2 b6 b10 S m.length) ?_ w _ _ ⟨⟨0, List.replicate N .nils, by simp [e2], by simp [e6], by simp [e10], by simp, by simp, by simp, by simp, by omega, by omega, ?_⟩⟩
  rotate_left
  · rw [colsL_zero]
    refine ⟨List.prefix_append _ _, by omega, by rw [← hBe]; exact At.new1 _ _ _, by simp, ?_, ?_, ?_⟩
    · intro i u hu
      rw [List.getElem?_replicate] at hu
      split at hu
      · obtain rfl := Option.some.inj hu
        exact .inl ⟨rfl, by simp [rw_]; rename_i h; simp [h]⟩
      · cases hu
    · intro i u hu
      rw [List.getElem?_replicate] at hu
      split at hu
      · obtain rfl := Option.some.inj hu; exact Off.nils _
      · cases hu
    · intro i j u v y _ _ hu _
      rw [List.getElem?_replicate] at hu
      split at hu
      · obtain rfl := Option.some.inj hu; exact Off.nils _
      · cases hu
  rintro k e1 m1 ⟨⟨j, cs, d2, d6, d10, d12, d13, d56, d57, hj, hk, hR⟩⟩
  have hp1 : Pre m m1 := hpr.trans hR.p
  have hA2 := Pre.at hp1 h2
  have hA6 := Pre.at hp1 h6
  have hAs := Pre.at hR.p hsym
  obtain ⟨c0, c1, c2, c3, c4, c5, c6, c7, c8⟩ := box_la9g hA2
  have l6 : lc m1 b6 0 = some (I gen.length) := by rw [lc_at hA6 (by omega)]; rfl
  by_cases hlt : j < w
  · have w1 : IntKind.i64.wrap ((j : Int) + 1) = j + 1 := wrap64_in (by omega) (by omega)
    obtain ⟨K, hKe⟩ : ∃ K, gen.length = K := ⟨_, rfl⟩
    have hjk : (j + 1) * K ≤ S := by rw [← hS, hKe, Nat.mul_comm K w]; exact Nat.mul_le_mul_right K hlt
    have hjk1 : (j + 1) * K = j * K + K := Nat.succ_mul j K
    have w2 : IntKind.i64.wrap ((j : Int) * (gen.length : Int)) = (j * K : Nat) := by rw [hKe]; simp only [Int.natCast_mul]; exact wrap64_in (by rw [← Int.natCast_mul]; omega) (by rw [← Int.natCast_mul]; omega)
    have w3 : IntKind.i64.wrap (((j : Int) + 1) * (gen.length : Int)) = ((j + 1) * K : Nat) := by rw [hKe, show ((j : Int) + 1) = ((j + 1 : Nat) : Int) by simp, ← Int.natCast_mul]; exact wrap64_in (by omega) (by omega)
    have hsl := slice22_mid (b := m.length) (o := 0) (n := S) (c := S) (a := j * K) (z := (j + 1) * K) (ex := true) (by omega) hjk
    rw [show (j + 1) * K - j * K = K by omega] at hsl
    have hms : Ints m1 (.sl m.length (0 + j * K) K (S - j * K) 1 true) (msgL (padL S part) K j) := by
      have := At.ints hAs (by omega) true
      rw [hfl] at this
      exact Ints.sub (l := padL S part) (c := S) (by rw [hfl]; exact this) (j * K) K (S - j * K) (by rw [hfl]; omega) (by omega)
    have hml : (msgL (padL S part) K j).length = gen.length := by rw [hKe]; exact msgL_len (w := w) (by rw [hfl, ← hS, hKe]) hlt
    rw [Nat.zero_add] at hms
    simp [l40_25, r40_0, r40_1, r40_2, r40_3, r40_4, r40_5, r40_6, r40_7, r40_8, r40_9, r40_10, r40_11, r40_12, r40_13, r40_14, r40_15, r40_16, r40_17, r40_18, r40_19, r40_20, r40_21, r40_22, r40_24, r40_26, r40_28, c40, d2, d6, d10, d12, d13, d56, d57, hlt, c0, l6, w1, w2, w3, hsl, -Int.natCast_mul, -Int.natCast_add]
    refine WR_bnd (cencode_wv hf (hv.pre hp1) (hg.pre hp1) hms hml (AllE_sub hfE _ _) hc0 he0 fun v' m2 hp2 hF => ?_)
    have hcj : cmb f.F (msgL (padL S part) K j) gen N (msgL (padL S part) K j).length = cw j := by rw [← hcw, cwOf, hml, hKe]
    rw [hcj] at hF
    obtain ⟨nb, rfl, hnb, hatn⟩ := hF
    rw [hcwl]
    have hR2 := hR.pre hp2
    simp
    refine W_loop (EcI nb mr cw N w j B b2 b6 b10 S m.length) ?_ N _ _ ⟨⟨0, cs, by simp [d2], by simp [d6], by simp [d10], by simp [d12], by simp [d13], by simp [d56], by simp [d57], by simp, by simp, by simp, by omega, by omega, hR2, hatn, ?_, ?_⟩⟩
    rotate_left
    · have := At.lt hR.at_; omega
    · intro r u hu; exact (hR.row r u hu).off hnb
    rintro k2 e2' m3 ⟨⟨i, cs, d2, d6, d10, d12, d13, d56, d57, d75, d76, d77, hi, hk2, hR3, hatn, hnB, hoff⟩⟩
    by_cases hlt2 : i < N
    · have w4 : IntKind.i64.wrap ((i : Int) + 1) = i + 1 := wrap64_in (by omega) (by omega)
      have i1 := ia22 (b := nb) (o := 0) (n := N) (c := N) (ex := true) (ix := (i : Int)) (by omega) (by omega)
      have i2 := ia25 (b := B) (o := 0) (n := N) (c := N) (ex := true) (ix := (i : Int)) (by omega) (by omega)
      simp only [Int.toNat_natCast, Nat.zero_add] at i1 i2
      have l1 := lc_ints hatn (by omega) (o := i) (by rw [hcwl]; omega)
      obtain ⟨u, hu, lu, cu⟩ := hR3.get (i := i) (by simpa using hlt2)
      obtain ⟨v', m4, a1, a2, a3, a4, a5, a6, a7⟩ := hR3.put (i := i) (x := (cw j).getD i 0) (by simpa using hlt2) (by rw [colsL_row hlt2]; simp; omega) hu
      rw [colsL_set hlt2] at a4
      have hlc : cs.length = N := by rw [hR3.len]; simp
      have hst : opStore T 22 (.ptr B i) v' m4 = some (m4.set B ⟨cs.set i v', 2⟩) := by rw [st22 _ _ _ _ a2, sc_at a3 a2 (by omega)]
      have hnl := At.lt hatn
      simp [l40_23, r40_0, r40_1, r40_2, r40_3, r40_4, r40_5, r40_6, r40_7, r40_8, r40_9, r40_10, r40_11, r40_12, r40_13, r40_14, r40_15, r40_16, r40_17, r40_18, r40_19, r40_20, r40_21, r40_22, r40_24, r40_26, r40_28, c40, d2, d6, d10, d12, d13, d56, d57, d75, d76, d77, hlt2, i1, i2, l1, lu, lit22, a1, hst, w4, -List.getD_eq_getElem?_getD]
      refine ⟨N - (i + 1), by omega, ⟨i + 1, _, by simp [d2], by simp [d6], by simp [d10], by simp [d12], by simp [d13], by simp [d56], by simp [d57], by simp [d75], by simp [d76], by simp, by omega, rfl, a4, ?_, hnB, ?_⟩⟩
      · exact At.set_ne (a5 nb _ (hoff i u hu) hatn) (Ne.symm hnB)
      · intro r w hw
        rw [List.getElem?_set] at hw
        split at hw
        · rw [if_pos (by omega)] at hw
          obtain rfl := Option.some.inj hw
          exact a6 nb hnl (hoff i u hu)
        · exact hoff r w hw
    · have hiN : i = N := by omega
      subst hiN
      simp [l40_23, r40_0, r40_1, r40_2, r40_3, r40_4, r40_5, r40_6, r40_7, r40_8, r40_9, r40_10, r40_11, r40_12, r40_13, r40_14, r40_15, r40_16, r40_17, r40_18, r40_19, r40_20, r40_21, r40_22, r40_24, r40_26, r40_28, c40, d76, d77, d57, w1]
      rw [colsL_next] at hR3
      exact ⟨w - (j + 1), by omega, ⟨j + 1, cs, by simp [d2], by simp [d6], by simp [d10], by simp [d12], by simp [d13], by simp [d56], by simp, by omega, rfl, hR3⟩⟩
  · have hjw : j = w := by omega
    subst hjw
    have hK2 := hR.rowsK true
    rw [colsL_len] at hK2
    have hO1 := hO.pre hp1
    have hl1 := Pre.len hp1
    have hB10 := Pre.at hp1 h10
    have l10 : lc m1 b10 0 = some ov := by rw [lc_at hB10 (by omega)]; rfl
    obtain ⟨v', m2, a1, a2, a3, a4, a5, a6⟩ := hO1.push (st := colsL cw N j 0) (hK2.keep (P' := fun y => Off ov y ∧ A y) (m' := m1) (fun y _ hy => ⟨hO.off (by have : mr.length ≤ y := hy; omega), hAl y (by have : mr.length ≤ y := hy; omega)⟩) fun y k _ hk => hk) hL
    have hB11 := a5 b10 _ hob hB10
    have hst : opStore T 40 (.ptr b10 0) v' m2 = some (m2.set b10 ⟨[v'], 2⟩) := by rw [st40 _ _ _ _ a2, sc_at hB11 a2 (by simp)]; rfl
    have hlt10 := At.lt h10
    simp [l40_25, r40_0, r40_1, r40_2, r40_3, r40_4, r40_5, r40_6, r40_7, r40_8, r40_9, r40_10, r40_11, r40_12, r40_13, r40_14, r40_15, r40_16, r40_17, r40_18, r40_19, r40_20, r40_21, r40_22, r40_24, r40_26, r40_28, c40, d10, d13, d56, d57, l10, lit40 (.sl B 0 N N 1 true) rfl, a1, hst]
    refine hQ _ v' _ (At.set_self hB11) (a3.set hb0 (a6 b10 (by omega) hob) hA _) (a6 b10 (by omega) hob) (by simp; omega) (fun y k ho hne hk => ?_) fun y hy ho => a6 y (by omega) ho
    rw [List.getElem?_set_ne (Ne.symm hne)]
    exact a5 y k ho (Pre.at hp1 hk)
end Go.Proofs.YtefjnnghfloddaaGreat.Abs

/- Specifications: the program's encode, whole. -/
namespace Go.Proofs.YtefjnnghfloddaaGreat.Abs
set_option linter.unusedVariables false
set_option linter.unusedSimpArgs false
set_option linter.unusedSectionVars false
open Ff
theorem al40 (m : Mem) : opAlloc T 40 m = some (.ptr m.length 0, m ++ [⟨[.nils], 2⟩]) := by simp [opAlloc, T40]
theorem box_one {u : V} (hu : u.isCell = true) (m : Mem) : opBox u m = some (.ptr m.length 0, m ++ [⟨[u], 2⟩]) := by
  have h : u.cells = [u] := by cases u <;> simp [V.cells, V.isCell] at hu ⊢
  simp [opBox, h, hu]
theorem chunk_wv {dv : V} {S : Nat} {m : Mem} {Q : V → Mem → Prop} (hc : dv.isCell = true) (hS : 1 ≤ S) (hQ : Q (.fn 112 [] [.ptr m.length 0, .ptr (m.length + 1) 0]) (m ++ [⟨[dv], 2⟩, ⟨[I S], 2⟩])) : WV (DD 72 [dv, I S] m) Q := by
  rw [e72]
  refine WV_fin ?_
  have hb : ∀ m, opBox dv m = some (.ptr m.length 0, m ++ [⟨[dv], 2⟩]) := fun m => box_one hc m
  have hS' : ¬ (S : Int) < 1 := by omega
  simp [r72_0, r72_1, r72_2, r72_3, c72, hb, box_one, hS']
  exact hQ
theorem it_chunk {m : Mem} {a1 a2 S : Nat} {dv : V} {data : List Int} (h1 : At m a1 [dv] 2) (h2 : At m a2 [I S] 2) (hx : Ints m dv data) (hS : 1 ≤ S) (hS2 : S ≤ 17592186044416) (hd : data.length ≤ 17592186044416) :
    ∃ vs, IT 112 [.ptr a1 0, .ptr a2 0] m = some vs ∧ vs.length = cntL S data.length ∧ ∀ (i : Nat) (v : V), vs[i]? = some v → i * S < data.length ∧ ∀ m', Ints m' dv data → Ints m' v (chunkL S data i) := by
  have b1 : boxAt m (.ptr a1 0) = some dv := by simp only [boxAt]; rw [h1]; simp
  have b2 : boxAt m (.ptr a2 0) = some (I S) := by simp only [boxAt]; rw [h2]; simp
  rcases hx with ⟨rfl, rfl⟩ | ⟨rfl, rfl⟩ | ⟨b, o, c, ex, k, rfl, _, _, hc, _⟩
  · refine ⟨[], ?_, cntL_of hS (fun i => by simp), fun i v h => by cases h⟩
    simp [IT, chunkNo, b1, b2]; omega
  · refine ⟨[], ?_, cntL_of hS (fun i => by simp), fun i v h => by cases h⟩
    simp [IT, chunkNo, b1, b2]; omega
  · refine ⟨partsOf b S data.length o data.length, ?_, cntL_of hS (fun i => partsOf_len hS _ _ _ i (Nat.le_refl _)), fun i v h => ?_⟩
    · simp [IT, chunkNo, b1, b2]; omega
    · obtain ⟨h3, rfl⟩ := partsOf_get hS _ _ _ i v (Nat.le_refl _) h
      refine ⟨h3, fun m' hx' => ?_⟩
      have := Ints.sub (ex' := true) hx' (i * S) (min S (data.length - i * S)) (min S (data.length - i * S)) (by omega) (Nat.le_refl _)
      have e : (data.drop (i * S)).take (min S (data.length - i * S)) = chunkL S data i := by
        rw [chunkL]
        apply List.ext_getElem?
        intro j
        rw [List.getElem?_take, List.getElem?_take]
        split <;> split
        · rfl
        · omega
        · rw [List.getElem?_eq_none (by simp; omega)]
        · rfl
      rw [e] at this
      exact this
structure EnInv (F : Ff) (gen : List (List Int)) (N w S : Nat) (data : List Int) (cfg : List V) (b2 b6 b7 b10 x1 x2 : Nat) (dv : V) (m : Mem) (i : Nat) (m' : Mem) : Prop where
  d : ∃ ov, At m' b10 [ov] 2 ∧ OUT (fun y => y ≠ b10) m m' ov ((List.range i).map (stripeOf F gen N w data)) ∧ (∀ y, y = b2 ∨ y = b6 ∨ y = b7 ∨ y = b10 ∨ y = x1 ∨ y = x2 → Off ov y)
  h2 : At m' b2 cfg 2
  h6 : At m' b6 [I gen.length] 2
  h7 : At m' b7 [I S] 2
  y1 : At m' x1 [dv] 2
  y2 : At m' x2 [I S] 2
theorem sencode_wv {f : Fd} {N w : Nat} {d : Int} {vm gv sv rv dv : V} {gen : List (List Int)} {data : List Int} {m : Mem} {Q : V → Mem → Prop}
    (hf : f.Ok) (hv : Ints m vm f.mod) (hg : Rows m gv gen) (hsv : sv.isCell = true) (hrv : rv.isCell = true) (hx : Ints m dv data)
    (hc0 : codeE f.p f.n f.mod N gen = 0) (he0 : matE f.F N gen = 0) (hk : 1 ≤ gen.length) (hw1 : 1 ≤ w) (hw : w ≤ 16) (hN : N ≤ 64) (hdl : data.length ≤ 3000)
    (h1 : 64 * (gen.length * w) < data.length → ∀ m', Pre m m' → Q (.tup [.nils, I 8]) m')
    (h2 : ¬ 64 * (gen.length * w) < data.length → ¬ AllE f.F data → ∀ m', Pre m m' → Q (.tup [.nils, I 2]) m')
    (h3 : ¬ 64 * (gen.length * w) < data.length → AllE f.F data → ∀ v m', Pre m m' → Rows3 m' v (stripesL f.F gen N w data) → Q (.tup [v, I 0]) m') :
    WV (DD 40 [.agg (gcells f.p f.n vm N gv d sv rv w), dv] m) Q := by
  have hvc := hv.cell
  have hgc := hg.cell
  have hdc := hx.cell
  have hgl : gen.length ≤ 256 := (matE_Mat hf.F he0).2.2.1
  have hK : gen.length * w ≤ 256 * 16 := Nat.mul_le_mul hgl hw
  have hK1 : 1 ≤ gen.length * w := Nat.mul_pos hk hw1
  have hall : ((gcells f.p f.n vm N gv d sv rv w).all V.isCell) = true := by simp [hvc, hgc, hsv, hrv]
  rw [e40]
  refine WV_fin ?_
  obtain ⟨S, hS⟩ : ∃ S, gen.length * w = S := ⟨_, rfl⟩
  have w1 : IntKind.i64.wrap ((gen.length : Int) * (w : Int)) = S := by rw [← Int.natCast_mul, hS]; exact wrap64_in (by omega) (by omega)
  have w2 : IntKind.i64.wrap ((S : Int) * 64) = (64 * S : Nat) := by rw [wrap64_in (by omega) (by omega)]; omega
  rw [hS] at h1 h2 h3 hK hK1
  have hA := At.new1 m (gcells f.p f.n vm N gv d sv rv w) 2
  obtain ⟨c0, c1, c2, c3, c4, c5, c6, c7, c8⟩ := box_la9g hA
  simp only [r40_0, r40_1, r40_2, r40_3, r40_4, r40_5, r40_6, r40_7, r40_8, r40_9, r40_10, r40_11, r40_12, r40_13, r40_14, r40_15, r40_16, r40_17, r40_18, r40_19, r40_20, r40_21, r40_22, r40_24, r40_26, r40_28, c40, box12 hall]
  simp [r40_0, r40_1, r40_2, r40_3, r40_4, r40_5, r40_6, r40_7, r40_8, r40_9, r40_10, r40_11, r40_12, r40_13, r40_14, r40_15, r40_16, r40_17, r40_18, r40_19, r40_20, r40_21, r40_22, r40_24, r40_26, r40_28, c40, box12 hall, hvc, hgc, hsv, hrv, (hg.pre (List.prefix_append m ([⟨gcells f.p f.n vm N gv d sv rv w, 2⟩] : Mem))).len, w1, w2, -Int.natCast_mul]
  obtain ⟨m1, hm1⟩ : ∃ m1, m ++ ([⟨gcells f.p f.n vm N gv d sv rv w, 2⟩, ⟨[I gen.length], 2⟩, ⟨[I S], 2⟩] : Mem) = m1 := ⟨_, rfl⟩
  rw [hm1]
  have hp1 : Pre m m1 := hm1 ▸ List.prefix_append _ _
  have hl1 : m1.length = m.length + 3 := by rw [← hm1]; simp
  have hA1 : At m1 m.length (gcells f.p f.n vm N gv d sv rv w) 2 := by rw [← hm1]; simp [At]
  have h61 : At m1 (m.length + 1) [I gen.length] 2 := by rw [← hm1]; simp [At]
  have h71 : At m1 (m.length + 2) [I S] 2 := by rw [← hm1]; simp [At]
  have l7 : lc m1 (m.length + 2) 0 = some (I S) := by rw [lc_at h71 (by omega)]; rfl
  obtain ⟨c0, c1, c2, c3, c4, c5, c6, c7, c8⟩ := box_la9g hA1
  have c9 : la 3 m1 m.length 0 = some (.agg [I f.p, I f.n, vm]) := by rw [la, hA1]; simp
  by_cases hbig : 64 * S < data.length
  · have hb' : (64 : Int) * S < data.length := by omega
    simp [(hx.pre hp1).len, l7, w2, hb', packV]
    exact h1 hbig _ hp1
  · have hb' : ¬ (64 : Int) * S < data.length := by omega
    simp [(hx.pre hp1).len, l7, w2, hb', c9]
    refine WR_bnd (fieldNew_wv (hv.pre hp1) (fun f' g m2 hf' e1 e2 e3 hp2 hG => ?_) fun hno m2 hp2 => (hno ⟨f, hf, rfl, rfl, rfl⟩).elim)
    have hF : f'.F = f.F := (F_eq (f := f') e1 e2 e3).symm
    have hp2' := hp1.trans hp2
    simp [al76, st76n hG.cell]
    have hpb := List.prefix_append m2 ([⟨[g], 2⟩] : Mem)
    refine WR_bnd (anyNot_wv (.inl rfl) (hG.pre hpb) (At.new1 _ _ _) (hx.pre (hp2'.trans hpb)) (by omega) fun t ht => ?_)
    rw [hF] at ht
    cases t with
    | true =>
      simp [packV]
      exact h2 hbig (ht.1 rfl) _ (hp2'.trans hpb)
    | false =>
      have hE : AllE f.F data := Classical.byContradiction fun h => by have := ht.2 h; cases this
      obtain ⟨m3, hm3⟩ : ∃ m3, m2 ++ ([⟨[g], 2⟩] : Mem) = m3 := ⟨_, rfl⟩
      rw [hm3] at hpb ⊢
      have hp3 : Pre m m3 := hp2'.trans hpb
      have hl71 := Pre.at (List.prefix_append m3 ([⟨[.nils], 2⟩] : Mem)) (Pre.at (hp2.trans hpb) h71)
      have l71 : lc (m3 ++ ([⟨[.nils], 2⟩] : Mem)) (m.length + 2) 0 = some (I S) := by rw [lc_at hl71 (by omega)]; rfl
      simp [al40, l71]
      refine WR_bnd (chunk_wv hdc hK1 ?_)
      simp
      obtain ⟨m4, hm4⟩ : ∃ m4, m3 ++ ([⟨[.nils], 2⟩, ⟨[dv], 2⟩, ⟨[I S], 2⟩] : Mem) = m4 := ⟨_, rfl⟩
      rw [hm4]
      have hp34 : Pre m3 m4 := hm4 ▸ List.prefix_append _ _
      have hp4 : Pre m m4 := hp3.trans hp34
      have hp14 : Pre m1 m4 := (hp2.trans hpb).trans hp34
      have g10 : At m4 m3.length [.nils] 2 := by rw [← hm4]; simp [At]
      have y1 : At m4 (m3.length + 1) [dv] 2 := by rw [← hm4]; simp [At]
      have y2 : At m4 (m3.length + 2) [I S] 2 := by rw [← hm4]; simp [At]
      obtain ⟨vs, hIT, hvl, hvs⟩ := it_chunk y1 y2 (hx.pre hp4) hK1 (by omega) (by omega)
      have hl3 := Pre.len (hp2.trans hpb)
      refine W_rf (by simp) hIT (EnInv f.F gen N w S data (gcells f.p f.n vm N gv d sv rv w) m.length (m.length + 1) (m.length + 2) m3.length (m3.length + 1) (m3.length + 2) dv m) ?_ ?_ ?_
      · exact ⟨⟨.nils, g10, OUT.nil _ hp4, fun y _ => Off.nils y⟩, Pre.at hp14 hA1, Pre.at hp14 h61, Pre.at hp14 h71, y1, y2⟩
      · rintro i v m5 ⟨⟨ov, g5, hO, hoff⟩, k2, k6, k7, z1, z2⟩ hv5
        obtain ⟨hi, hch⟩ := hvs i v hv5
        have hcl := chunkL_len S data i
        have hp5 := hO.p
        have hlt10 := At.lt g5
        refine eround_wv (b2 := m.length) (b6 := m.length + 1) (b7 := m.length + 2) (b10 := m3.length) (pv := v) (ov := ov) (d := d) (sv := sv) (rv := rv) (by simp) (by simp) (by simp) (by simp) (by simp) k2 k6 (by rw [hS]; exact k7) g5 hf (hv.pre hp5) (hg.pre hp5) (hch m5 (hx.pre hp5)) (by omega) (by rw [hS]; omega) (AllE_sub hE _ _) hc0 he0 hw hN hgl
          hO (by simp; have := (cntL_lt (S := S) (n := data.length) hK1).2 hi; rw [cntL] at this; have := Nat.div_le_self (data.length + S - 1) S; omega) (by simp) (fun y hy => by omega) (hoff _ (by simp)) (by omega) ?_
        intro e' ov' m6 q1 q2 q3 q4 q5 q6
        have keep : ∀ y k, (y = m.length ∨ y = m.length + 1 ∨ y = m.length + 2 ∨ y = m3.length ∨ y = m3.length + 1 ∨ y = m3.length + 2) → y ≠ m3.length → m5[y]? = some k → m6[y]? = some k := fun y k hy hne hk => q5 y k (hoff y hy) hne hk
        have z1' := keep _ _ (by simp) (by omega) z1
        have z2' := keep _ _ (by simp) (by omega) z2
        refine ⟨rfl, ?_, ⟨⟨ov', q1, ?_, fun y hy => ?_⟩, keep _ _ (by simp) (by omega) k2, keep _ _ (by simp) (by omega) k6, keep _ _ (by simp) (by omega) k7, z1', z2'⟩⟩
        · simp only [List.map_cons, List.map_nil, boxAt]
          rw [z1', z2', y1, y2]
        · rw [List.range_succ, List.map_append]
          rw [hS] at q2
          simpa [stripeOf, hS] using q2
        · have hlt : y < m5.length := by
            rcases hy with rfl | rfl | rfl | rfl | rfl | rfl
            · exact At.lt k2
            · exact At.lt k6
            · exact At.lt k7
            · exact hlt10
            · exact At.lt z1
            · exact At.lt z2
          exact q6 y hlt (hoff y hy)
      · rintro m5 ⟨⟨ov, g5, hO, hoff⟩, k2, k6, k7, z1, z2⟩
        have l10 : lc m5 m3.length 0 = some ov := by rw [lc_at g5 (by omega)]; rfl
        simp [r40_0, r40_1, r40_2, r40_3, r40_4, r40_5, r40_6, r40_7, r40_8, r40_9, r40_10, r40_11, r40_12, r40_13, r40_14, r40_15, r40_16, r40_17, r40_18, r40_19, r40_20, r40_21, r40_22, r40_24, r40_26, r40_28, c40, l10, packV]
        rw [hvl] at hO
        have := hO.rows
        refine h3 hbig hE ov m5 hO.p ?_
        rw [stripesL, hS]
        exact this
end Go.Proofs.YtefjnnghfloddaaGreat.Abs

/- Specifications: equal stripes are the same. -/
namespace Go.Proofs.YtefjnnghfloddaaGreat.Abs
set_option linter.unusedVariables false
set_option linter.unusedSimpArgs false
set_option linter.unusedSectionVars false
open Ff
structure CmI (va vb : V) (l : List Int) (m : Mem) (k : Nat) (e : Env) (m' : Mem) : Prop where
  d : ∃ i : Nat, e 0 = va ∧ e 1 = vb ∧ e 5 = I i ∧ i ≤ l.length ∧ l.length - i = k
  m : m' = m
theorem compare_wv {va vb : V} {l : List Int} {m : Mem} {Q : V → Mem → Prop} (ha : Ints m va l) (hb : Ints m vb l) (hl : l.length ≤ 1000000) (hQ : Q (I 0) m) : WV (DD 53 [va, vb] m) Q := by
  rw [e53]
  refine WV_fin ?_
  simp [r53_0, r53_1, r53_2, r53_3, r53_4, r53_5, r53_6, r53_7, r53_9, r53_10, r53_11, r53_12, r53_13, c53]
  refine W_loop (CmI va vb l m) ?_ l.length _ _ ⟨⟨0, by simp, by simp, by simp, by omega, by omega⟩, rfl⟩
  rintro k e m' ⟨⟨i, e0, e1, e5, hi, hk⟩, rfl⟩
  have w1 : IntKind.i64.wrap ((i : Int) + 1) = i + 1 := wrap64_in (by omega) (by omega)
  by_cases hlt : i < l.length
  · obtain ⟨b1, o1, a1, a2⟩ := ha.at (ix := i) (by omega) (by omega)
    obtain ⟨b2, o2, a3, a4⟩ := hb.at (ix := i) (by omega) (by omega)
    rw [Int.toNat_natCast] at a2 a4
    simp [l53_8, r53_0, r53_1, r53_2, r53_3, r53_4, r53_5, r53_6, r53_7, r53_9, r53_10, r53_11, r53_12, r53_13, c53, e0, e1, e5, ha.len, hb.len, hlt, a1, a2, a3, a4, w1, -List.getD_eq_getElem?_getD]
    exact ⟨l.length - (i + 1), by omega, ⟨i + 1, by simp [e0], by simp [e1], by simp, by omega, rfl⟩, rfl⟩
  · have hil : i = l.length := by omega
    subst hil
    simp [l53_8, r53_0, r53_1, r53_2, r53_3, r53_4, r53_5, r53_6, r53_7, r53_9, r53_10, r53_11, r53_12, r53_13, c53, e0, e1, e5, ha.len, hb.len, packV]
    exact hQ
structure SlI (va vb : V) (l : List (List Int)) (m : Mem) (k : Nat) (e : Env) (m' : Mem) : Prop where
  d : ∃ i : Nat, e 0 = va ∧ e 1 = vb ∧ e 5 = I i ∧ i ≤ l.length ∧ l.length - i = k
  m : m' = m
theorem sameLists_wv {va vb : V} {l : List (List Int)} {m : Mem} {Q : V → Mem → Prop} (ha : Rows m va l) (hb : Rows m vb l) (hl : l.length ≤ 1000000) (hr : ∀ i, (rw_ l i).length ≤ 1000000) (hQ : Q (.bool true) m) : WV (DD 52 [va, vb] m) Q := by
  rw [e52]
  refine WV_fin ?_
  simp [r52_0, r52_1, r52_2, r52_3, r52_4, r52_5, r52_6, r52_7, r52_9, c52, ha.len, hb.len]
  refine W_loop (SlI va vb l m) ?_ l.length _ _ ⟨⟨0, by simp, by simp, by simp, by omega, by omega⟩, rfl⟩
  rintro k e m' ⟨⟨i, e0, e1, e5, hi, hk⟩, rfl⟩
  have w1 : IntKind.i64.wrap ((i : Int) + 1) = i + 1 := wrap64_in (by omega) (by omega)
  by_cases hlt : i < l.length
  · obtain ⟨b1, o1, u1, a1, a2, a3⟩ := ha.at (ix := i) (by omega) (by omega)
    obtain ⟨b2, o2, u2, a4, a5, a6⟩ := hb.at (ix := i) (by omega) (by omega)
    rw [Int.toNat_natCast] at a3 a6
    simp [l52_8, r52_0, r52_1, r52_2, r52_3, r52_4, r52_5, r52_6, r52_7, r52_9, c52, e0, e1, e5, ha.len, hb.len, hlt, a1, a2, a4, a5, -List.getD_eq_getElem?_getD]
    refine WR_bnd (compare_wv a3 a6 (hr i) ?_)
    simp [e5, w1, -List.getD_eq_getElem?_getD]
    exact ⟨l.length - (i + 1), by omega, ⟨i + 1, by simp [e0], by simp [e1], by simp, by omega, rfl⟩, rfl⟩
  · have hil : i = l.length := by omega
    subst hil
    simp [l52_8, r52_0, r52_1, r52_2, r52_3, r52_4, r52_5, r52_6, r52_7, r52_9, c52, e0, e1, e5, ha.len, hb.len, packV]
    exact hQ
theorem sameStripe_wv {va vb : V} {l : List (List Int)} {m : Mem} {Q : V → Mem → Prop} (ha : Rows m va l) (hb : Rows m vb l) (hl : l.length ≤ 1000000) (hr : ∀ i, (rw_ l i).length ≤ 1000000) (hQ : Q (.bool true) m) : WV (DD 22 [va, vb] m) Q := by
  rw [e22]
  refine WV_fin ?_
  simp [r22_0, r22_1, c22]
  refine WR_bnd (sameLists_wv ha hb hl hr ?_)
  simp [packV]
  exact hQ
structure SsI (va vb : V) (l : List (List (List Int))) (m : Mem) (k : Nat) (e : Env) (m' : Mem) : Prop where
  d : ∃ i : Nat, e 0 = va ∧ e 1 = vb ∧ e 5 = I i ∧ i ≤ l.length ∧ l.length - i = k
  m : m' = m
theorem sameStripes_wv {va vb : V} {l : List (List (List Int))} {m : Mem} {Q : V → Mem → Prop} (ha : Rows3 m va l) (hb : Rows3 m vb l) (hl : l.length ≤ 1000000) (hr : ∀ i, (l.getD i []).length ≤ 1000000 ∧ ∀ j, (rw_ (l.getD i []) j).length ≤ 1000000) (hQ : Q (.bool true) m) : WV (DD 19 [va, vb] m) Q := by
  rw [e19]
  refine WV_fin ?_
  simp [r19_0, r19_1, r19_2, r19_3, r19_4, r19_5, r19_6, r19_7, r19_9, c19, Rows3.len ha, Rows3.len hb]
  refine W_loop (SsI va vb l m) ?_ l.length _ _ ⟨⟨0, by simp, by simp, by simp, by omega, by omega⟩, rfl⟩
  rintro k e m' ⟨⟨i, e0, e1, e5, hi, hk⟩, rfl⟩
  have w1 : IntKind.i64.wrap ((i : Int) + 1) = i + 1 := wrap64_in (by omega) (by omega)
  by_cases hlt : i < l.length
  · obtain ⟨b1, o1, u1, a1, a2, a3⟩ := Rows3.at ha (ix := i) (by omega) (by omega)
    obtain ⟨b2, o2, u2, a4, a5, a6⟩ := Rows3.at hb (ix := i) (by omega) (by omega)
    rw [Int.toNat_natCast] at a3 a6
    simp [l19_8, r19_0, r19_1, r19_2, r19_3, r19_4, r19_5, r19_6, r19_7, r19_9, c19, e0, e1, e5, Rows3.len ha, Rows3.len hb, hlt, a1, a2, a4, a5, -List.getD_eq_getElem?_getD]
    refine WR_bnd (sameStripe_wv a3 a6 (hr i).1 (hr i).2 ?_)
    simp [e5, w1, -List.getD_eq_getElem?_getD]
    exact ⟨l.length - (i + 1), by omega, ⟨i + 1, by simp [e0], by simp [e1], by simp, by omega, rfl⟩, rfl⟩
  · have hil : i = l.length := by omega
    subst hil
    simp [l19_8, r19_0, r19_1, r19_2, r19_3, r19_4, r19_5, r19_6, r19_7, r19_9, c19, e0, e1, e5, Rows3.len ha, Rows3.len hb, packV]
    exact hQ
end Go.Proofs.YtefjnnghfloddaaGreat.Abs

/- Specifications: the reference's codeword of a message; rows that are replaced or stored into. -/
namespace Go.Proofs.YtefjnnghfloddaaGreat.Abs
set_option linter.unusedVariables false
set_option linter.unusedSimpArgs false
set_option linter.unusedSectionVars false
open Ff
structure RbI (f : Fd) (vm xv rv : V) (x : List Int) (rows : List (List Int)) (cols : Nat) (m : Mem) (k : Nat) (e : Env) (m' : Mem) : Prop where
  d : ∃ (i b : Nat), e 1 = xv ∧ e 2 = rv ∧ e 4 = .ptr m.length 0 ∧ e 9 = .sl b 0 cols cols 1 true ∧ e 10 = I i ∧ i ≤ x.length ∧ x.length - i = k ∧ Pre m m' ∧ m.length ≤ b ∧ At m' m.length [I f.p, I f.n, vm] 2 ∧ At m' b ((cmb f.F x rows cols i).map I) 2
theorem rcombine_wv {f : Fd} {fv xv rv : V} {x : List Int} {rows : List (List Int)} {cols : Nat} {m : Mem} {Q : V → Mem → Prop} (hg : RF m fv f) (hx : Ints m xv x) (hr : Rows m rv rows) (hM : f.F.Mat rows cols) (hxE : ∀ j, f.F.E (x.getD j 0)) (hl : x.length = rows.length) (hlx : x.length ≤ 1000000) (hc : cols ≤ 1000000)
    (hQ : ∀ v' m', Pre m m' → Fresh m m' v' (cmb f.F x rows cols x.length) → Q v' m') : WV (DD 42 [fv, xv, rv, I cols] m) Q := by
  have hg' := hg
  obtain ⟨hf, vm, rfl, hv⟩ := hg
  rw [e42]
  refine WV_fin ?_
  simp [r42_0, r42_1, r42_2, r42_3, r42_4, r42_5, r42_6, r42_8, c42, hv.cell, mk22 (l := cols) (c := cols) (by omega) (by omega) (by omega)]
  refine W_loop (RbI f vm xv rv x rows cols m) ?_ x.length _ _ ⟨⟨0, m.length + 1, by simp, by simp, by simp, by simp, by simp, by omega, by omega, List.prefix_append _ _, by omega, by simp [At], by simp [At, cmb]⟩⟩
  rintro c e m' ⟨⟨i, b, d1, d2, d4, d9, d10, hi, hk, hpre, hb, hA, hB⟩⟩
  obtain ⟨c0, c1, c2, c3⟩ := box_la hA (m := m)
  have hx' := hx.pre hpre
  have hr' := hr.pre hpre
  by_cases hlt : i < x.length
  · have w1 : IntKind.i64.wrap ((i : Int) + 1) = i + 1 := wrap64_in (by omega) (by omega)
    have hlt2 : i < rows.length := by omega
    obtain ⟨b1, o1, i1, l1⟩ := hx'.at (ix := i) (by omega) (by omega)
    rw [Int.toNat_natCast] at l1
    by_cases h0 : x.getD i 0 = 0
    · simp [l42_7, r42_0, r42_1, r42_2, r42_3, r42_4, r42_5, r42_6, r42_8, c42, d1, d2, d4, d9, d10, hx'.len, hr'.len, hlt, hlt2, i1, l1, h0, w1, -List.getD_eq_getElem?_getD]
      exact ⟨x.length - (i + 1), by omega, ⟨i + 1, b, by simp [d1], by simp [d2], by simp [d4], by simp [d9], by simp, by omega, rfl, hpre, hb, hA, by rw [cmb, if_pos h0]; exact hB⟩⟩
    · obtain ⟨b2, o2, u, i2, l2, hu⟩ := hr'.at (ix := i) (by omega) (by omega)
      rw [Int.toNat_natCast] at hu
      have hout := At.ints hB (by omega) true
      rw [cmb_len] at hout
      have hadd := fun (Q : V → Mem → Prop) => @raddTo_wv (.agg [I f.p, I f.n, vm]) (.sl b 0 cols cols 1 true) u f (x.getD i 0) (cmb f.F x rows cols i) (rw_ rows i) m' Q
      simp only [cmb_len] at hadd
      simp [l42_7, r42_0, r42_1, r42_2, r42_3, r42_4, r42_5, r42_6, r42_8, c42, d1, d2, d4, d9, d10, hx'.len, hr'.len, hlt, hlt2, i1, l1, h0, c0, i2, l2, -List.getD_eq_getElem?_getD]
      refine WR_bnd (hadd _ (hg'.pre hpre) (hxE i) hout hu (cmb_E hf.F i) (fun j => hM.el i j) (hM.len i (by omega)) hc fun b' m2 hp2 hb' hB2 => ?_)
      simp [d10, w1, -List.getD_eq_getElem?_getD]
      have := Pre.len hpre
      exact ⟨x.length - (i + 1), by omega, ⟨i + 1, b', by simp [d1], by simp [d2], by simp [d4], by simp, by simp, by omega, rfl, hpre.trans hp2, by omega, Pre.at hp2 hA, by rw [cmb, if_neg h0]; exact hB2⟩⟩
  · have hil : i = x.length := by omega
    subst hil
    have hlt2 : ¬ x.length < rows.length := by omega
    simp [l42_7, r42_0, r42_1, r42_2, r42_3, r42_4, r42_5, r42_6, r42_8, c42, d1, d2, d9, d10, hx'.len, hr'.len, hlt2, packV]
    exact hQ _ m' hpre ⟨b, by rw [cmb_len], hb, hB⟩
theorem RV.nils (m : Mem) (N : Nat) : RV m (m ++ [⟨List.replicate N .nils, 2⟩]) m.length (List.replicate N .nils) (List.replicate N []) := by
  refine ⟨List.prefix_append _ _, Nat.le_refl _, At.new1 _ _ _, by simp, ?_, ?_, ?_⟩
  · intro i u hu
    rw [List.getElem?_replicate] at hu
    split at hu
    · obtain rfl := Option.some.inj hu
      exact .inl ⟨rfl, by simp [rw_]; rename_i h; simp [h]⟩
    · cases hu
  · intro i u hu
    rw [List.getElem?_replicate] at hu
    split at hu
    · obtain rfl := Option.some.inj hu; exact Off.nils _
    · cases hu
  · intro i j u v y _ _ hu _
    rw [List.getElem?_replicate] at hu
    split at hu
    · obtain rfl := Option.some.inj hu; exact Off.nils _
    · cases hu
section
variable {m0 m : Mem} {B : Nat} {cs : List V} {l : List (List Int)} (h : RV m0 m B cs l)
include h
theorem RV.new {m1 : Mem} {i nb : Nat} {r : List Int} (hi : i < l.length) (hp : Pre m m1) (hn : m.length ≤ nb) (hat : At m1 nb (r.map I) 2) :
    RV m0 (m1.set B ⟨cs.set i (.sl nb 0 r.length r.length 1 true), 2⟩) B (cs.set i (.sl nb 0 r.length r.length 1 true)) (l.set i r) := by
  have h1 := h.pre hp
  have hlt := At.lt h.at_
  have hl0 := Pre.len h.p
  have hne : nb ≠ B := by omega
  have hic : i < cs.length := by rw [h.len]; exact hi
  refine ⟨h1.p.set h.B0 _, h.B0, At.set_self h1.at_, by simp [h.len], ?_, ?_, ?_⟩
  · intro j w hw
    rw [List.getElem?_set] at hw
    rw [rw_set _ _ _ _ hi]
    split at hw
    · rename_i e; subst e
      obtain rfl := Option.some.inj hw
      rw [if_pos rfl]
      exact .inr ⟨nb, true, by rw [List.length_map], by omega, At.set_ne hat (Ne.symm hne)⟩
    · rename_i e
      rw [if_neg (Ne.symm e)]
      exact FreshV.set_off (h1.row j w hw) (h1.off j w hw) _
  · intro j w hw
    rw [List.getElem?_set] at hw
    split at hw
    · obtain rfl := Option.some.inj hw
      exact Off.sl hne
    · exact h.off j w hw
  · intro j k w z y hne2 hw hz hy
    rw [List.getElem?_set] at hw hz
    split at hw
    · rename_i e; subst e
      obtain rfl := Option.some.inj hw
      rw [if_neg hne2] at hz
      obtain ⟨o, n, c, z', ex', e⟩ := notOff hy
      injection e with e
      subst e
      exact (h.row k z hz).off hn
    · rename_i e
      split at hz
      · rename_i e2; subst e2
        obtain rfl := Option.some.inj hz
        have := (FreshV.lo (h.row j w hw) hy).2
        exact Off.sl (by omega)
      · exact h.inj j k w z y hne2 hw hz hy
theorem RV.store {i j : Nat} {x : Int} (hi : i < l.length) (hj : j < (rw_ l i).length) : ∃ R ex, cs[i]? = some (.sl R 0 (rw_ l i).length (rw_ l i).length 1 ex) ∧ At m R ((rw_ l i).map I) 2 ∧ RV m0 (m.set R ⟨((rw_ l i).set j x).map I, 2⟩) B cs (l.set i ((rw_ l i).set j x)) ∧ R ≠ B ∧ m0.length ≤ R := by
  obtain ⟨u, hu, _, _⟩ := h.get hi
  rcases h.row i u hu with ⟨_, h2⟩ | ⟨R, ex, rfl, h2, h3⟩
  · rw [List.map_eq_nil_iff.1 h2] at hj; simp at hj
  · rw [List.length_map] at hu
    have hRB : R ≠ B := fun e => h.off i _ hu _ _ _ _ _ (by rw [e])
    refine ⟨R, ex, hu, h3, ⟨h.p.set h2 _, h.B0, At.set_ne h.at_ hRB, by simp [h.len], ?_, h.off, h.inj⟩, hRB, h2⟩
    intro k w hw
    rw [rw_set _ _ _ _ hi]
    split
    · rename_i e; subst e
      rw [hu] at hw
      obtain rfl := Option.some.inj hw
      exact .inr ⟨R, ex, by simp, h2, At.set_self h3⟩
    · rename_i e
      refine FreshV.set_off (h.row k w hw) ?_ _
      exact h.inj i k _ w R (Ne.symm e) hu hw (fun ho => ho _ _ _ _ _ rfl)
end
def refL (cw : Nat → List Int) (N w j b : Nat) : List (List Int) := (List.range N).map fun r => (List.range w).map fun t => if t < (if r < b then j + 1 else j) then (cw t).getD r 0 else 0
@[simp] theorem refL_len (cw : Nat → List Int) (N w j b : Nat) : (refL cw N w j b).length = N := by simp [refL]
theorem refL_row {cw : Nat → List Int} {N w j b r : Nat} (h : r < N) : rw_ (refL cw N w j b) r = (List.range w).map fun t => if t < (if r < b then j + 1 else j) then (cw t).getD r 0 else 0 := by simp [rw_, refL, h]
theorem refL_set {cw : Nat → List Int} {N w j b : Nat} (h : b < N) (hj : j < w) : (refL cw N w j b).set b ((rw_ (refL cw N w j b) b).set j ((cw j).getD b 0)) = refL cw N w j (b + 1) := by
  apply List.ext_getElem?
  intro r
  rw [List.getElem?_set]
  by_cases hr : r < N
  · by_cases e : b = r
    · subst e
      rw [if_pos rfl, if_pos (by simpa using h), refL_row h]
      have : (refL cw N w j (b + 1))[b]? = some ((List.range w).map fun t => if t < j + 1 then (cw t).getD b 0 else 0) := by simp [refL, h]
      rw [this]
      congr 1
      apply List.ext_getElem?
      intro t
      rw [List.getElem?_set]
      by_cases ht : t < w
      · by_cases e : j = t
        · subst e; simp [ht]
        · rw [if_neg e]
          have : (t < j) = (t < j + 1) := by simp; omega
          simp [ht, this]
      · rw [List.getElem?_eq_none (l := List.map (fun t => if t < j + 1 then (cw t).getD b 0 else 0) _) (by simp; omega)]
        split
        · omega
        · exact List.getElem?_eq_none (by simp; omega)
    · rw [if_neg e]
      have : (r < b + 1) = (r < b) := by simp; omega
      simp [refL, hr, this]
  · rw [List.getElem?_eq_none (l := refL cw N w j (b + 1)) (by simp; omega)]
    split
    · omega
    · exact List.getElem?_eq_none (by simp; omega)
theorem refL_next (cw : Nat → List Int) (N w j : Nat) : refL cw N w j N = refL cw N w (j + 1) 0 := by
  apply List.ext_getElem?
  intro r
  by_cases hr : r < N
  · simp [refL, hr]
  · rw [List.getElem?_eq_none (by simp; omega), List.getElem?_eq_none (by simp; omega)]
theorem refL_zero (cw : Nat → List Int) (N w : Nat) : refL cw N w 0 0 = List.replicate N (List.replicate w 0) := by
  apply List.ext_getElem?
  intro r
  by_cases hr : r < N
  · simp [refL, hr]
    rw [List.map_const']; simp
  · rw [List.getElem?_eq_none (by simp; omega), List.getElem?_eq_none (by simp; omega)]
theorem refL_end (cw : Nat → List Int) (N w : Nat) : refL cw N w w 0 = colsL cw N w 0 := by
  apply List.ext_getElem?
  intro r
  by_cases hr : r < N
  · simp [refL, colsL, hr]
    intro a h1 h2; omega
  · rw [List.getElem?_eq_none (by simp; omega), List.getElem?_eq_none (by simp; omega)]
def zerL (N w b : Nat) : List (List Int) := (List.range N).map fun r => if r < b then List.replicate w 0 else []
@[simp] theorem zerL_len (N w b : Nat) : (zerL N w b).length = N := by simp [zerL]
theorem zerL_set {N w b : Nat} (h : b < N) : (zerL N w b).set b (List.replicate w 0) = zerL N w (b + 1) := by
  apply List.ext_getElem?
  intro r
  rw [List.getElem?_set]
  by_cases hr : r < N
  · by_cases e : b = r
    · subst e; simp [zerL, h]
    · rw [if_neg e]
      have : (r < b + 1) = (r < b) := by simp; omega
      simp [zerL, hr, this]
  · rw [List.getElem?_eq_none (l := zerL N w (b + 1)) (by simp; omega)]
    split
    · omega
    · exact List.getElem?_eq_none (by simp; omega)
theorem zerL_zero (N w : Nat) : zerL N w 0 = List.replicate N [] := by
  apply List.ext_getElem?
  intro r
  by_cases hr : r < N <;> simp [zerL, hr]
theorem zerL_end (cw : Nat → List Int) (N w : Nat) : zerL N w N = refL cw N w 0 0 := by
  rw [refL_zero]
  apply List.ext_getElem?
  intro r
  by_cases hr : r < N <;> simp [zerL, hr]
end Go.Proofs.YtefjnnghfloddaaGreat.Abs

/- Specifications: the reference's Encode. -/
namespace Go.Proofs.YtefjnnghfloddaaGreat.Abs
set_option linter.unusedVariables false
set_option linter.unusedSimpArgs false
set_option linter.unusedSectionVars false
open Ff
theorem matE_of {F : Ff} {t : Nat} {l : List (List Int)} (h : F.Mat l t) (ht : t ≤ 256) (hl : l.length ≤ 256) : matE F t l = 0 := by
  refine matE_0 ?_ ?_
  · rintro (h1 | h1 | h1 | ⟨i, hi, h1⟩)
    · omega
    · omega
    · omega
    · exact h1 (by rw [h.len i hi])
  · rintro ⟨i, hi, h1⟩
    exact h1 fun j _ => h.el i j
open Classical in
noncomputable def encE (E : Int) (F : Ff) (gen : List (List Int)) (N w : Nat) (data : List Int) : Int × List (List (List Int)) :=
  if E ≠ 0 then (E, []) else if 64 * (gen.length * w) < data.length then (8, []) else if ¬ AllE F data then (2, []) else (0, stripesL F gen N w data)
theorem padL_step {t : Nat} {part : List Int} : (part ++ List.replicate t 0) ++ [(0 : Int)] = part ++ List.replicate (t + 1) 0 := by
  rw [List.append_assoc]
  congr 1
  exact (List.replicate_succ' ..).symm
structure Fx (dv ov : V) (b2 K S fr : Nat) (e : Env) : Prop where
  s1 : e 1 = dv
  s2 : e 2 = .ptr b2 0
  s7 : e 7 = I K
  s8 : e 8 = I S
  s9 : e 9 = ov
  s10 : e 10 = I fr
structure RnP (dv ov : V) (b2 K S fr : Nat) (m : Mem) (part : List Int) (k : Nat) (e : Env) (m' : Mem) : Prop where
  x : Fx dv ov b2 K S fr e
  d : ∃ (t : Nat), part.length + t ≤ S ∧ S - (part.length + t) = k ∧ Pre m m' ∧ FreshA m m' (e 11) (part ++ List.replicate t 0)
structure RnZ (dv ov fv : V) (b2 K S fr : Nat) (mr : Mem) (B N w : Nat) (k : Nat) (e : Env) (m' : Mem) : Prop where
  x : Fx dv ov b2 K S fr e
  d : ∃ (b : Nat) (cs : List V), e 11 = fv ∧ e 12 = .sl B 0 N N 1 true ∧ e 13 = I b ∧ b ≤ N ∧ N - b = k ∧ RV mr m' B cs (zerL N w b)
structure RnJ (dv ov fv : V) (b2 K S fr : Nat) (mr : Mem) (cw : Nat → List Int) (B N w : Nat) (k : Nat) (e : Env) (m' : Mem) : Prop where
  x : Fx dv ov b2 K S fr e
  d : ∃ (j : Nat) (cs : List V), e 11 = fv ∧ e 12 = .sl B 0 N N 1 true ∧ e 14 = I j ∧ j ≤ w ∧ w - j = k ∧ RV mr m' B cs (refL cw N w j 0)
structure RnB (dv ov fv : V) (b2 K S fr : Nat) (mr : Mem) (cw : Nat → List Int) (B N w j nb : Nat) (k : Nat) (e : Env) (m' : Mem) : Prop where
  x : Fx dv ov b2 K S fr e
  d : ∃ (b : Nat) (cs : List V), e 11 = fv ∧ e 12 = .sl B 0 N N 1 true ∧ e 14 = I j ∧ e 15 = .sl nb 0 N N 1 true ∧ e 16 = I b ∧ b ≤ N ∧ N - b = k ∧ RV mr m' B cs (refL cw N w j b) ∧ At m' nb ((cw j).map I) 2 ∧ (∀ (r : Nat) (u : V), cs[r]? = some u → Off u nb)
theorem rround_wv {f : Fd} {N w b2 S i : Nat} {d : Int} {vm gv sv rv dv ov : V} {gen : List (List Int)} {data : List Int} {m0 m : Mem} {L : List (List (List Int))} {e : Env} {Q : Ex → Env → Mem → Prop}
    (hX : Fx dv ov b2 gen.length S (i * S) e) (hS : gen.length * w = S) (h2 : At m b2 (gcells f.p f.n vm N gv d sv rv w) 2) (hob : Off ov b2)
    (hf : f.Ok) (hv : Ints m vm f.mod) (hg : Rows m gv gen) (hx : Ints m dv data) (hE : AllE f.F data) (hlt : i * S < data.length) (hdl : data.length ≤ 3000)
    (hM : f.F.Mat gen N) (hw1 : 1 ≤ w) (hw : w ≤ 16) (hN : N ≤ 64) (hk1 : 1 ≤ gen.length) (hg1 : gen.length ≤ 256)
    (hO : OUT (fun _ => True) m0 m ov L) (hL : L.length < 1000000)
    (hQ : ∀ e' ov' m', Fx dv ov' b2 gen.length S ((i + 1) * S) e' → OUT (fun _ => True) m0 m' ov' (L ++ [stripeOf f.F gen N w data i]) → m.length ≤ m'.length → (∀ y k, Off ov y → m[y]? = some k → m'[y]? = some k) → (∀ y, y < m.length → Off ov y → Off ov' y) → Q .normal e' m') :
    W (l18_36 DD e m) Q := by
  have hK : S ≤ 256 * 16 := hS ▸ Nat.mul_le_mul hg1 hw
  have hK1 : 1 ≤ S := hS ▸ Nat.mul_pos hk1 hw1
  obtain ⟨s1, s2, s7, s8, s9, s10⟩ := hX
  have hxl := hx.len
  have hlen := hx.vlen
  have hdv : ∃ b o c ex, dv = .sl b o data.length c 1 ex ∧ data.length ≤ c := by
    rcases hx with ⟨_, rfl⟩ | ⟨_, rfl⟩ | ⟨b, o, c, ex, k, h, _, _, hc, _⟩
    · simp at hlt
    · simp at hlt
    · exact ⟨b, o, c, ex, h, hc⟩
  obtain ⟨db, dof, dc, dex, hdv, hdc⟩ := hdv
  have e1 : (i + 1) * S = i * S + S := Nat.succ_mul i S
  have w1 : IntKind.i64.wrap (((i * S : Nat) : Int) + (S : Int)) = ((i + 1) * S : Nat) := by rw [wrap64_in (by omega) (by omega), e1]; simp
  have hmin : (if data.length < (i + 1) * S then (data.length : Int) else (((i + 1) * S : Nat) : Int)) = ((min ((i + 1) * S) data.length : Nat) : Int) := by split <;> omega
  have hsl := slice22_mid (b := db) (o := dof) (n := data.length) (c := dc) (a := i * S) (z := min ((i + 1) * S) data.length) (ex := dex) (by omega) (by omega)
  obtain ⟨part, hpart⟩ : ∃ part, chunkL S data i = part := ⟨_, rfl⟩
  have hpl : part.length = min S (data.length - i * S) := by rw [← hpart]; exact chunkL_len S data i
  have hps : Ints m (.sl db (dof + i * S) (min ((i + 1) * S) data.length - i * S) (dc - i * S) 1 dex) part := by
    have hx1 := hx
    rw [hdv] at hx1
    have := Ints.sub (ex' := dex) hx1 (i * S) (min ((i + 1) * S) data.length - i * S) (dc - i * S) (by omega) (by omega)
    have e : (data.drop (i * S)).take (min ((i + 1) * S) data.length - i * S) = part := by
      rw [← hpart, chunkL]
      apply List.ext_getElem?
      intro j
      rw [List.getElem?_take, List.getElem?_take]
      split <;> split
      · rfl
      · omega
      · rw [List.getElem?_eq_none (by simp; omega)]
      · rfl
    rw [e] at this
    exact this
  obtain ⟨fv0, m1, a1, a2, a3, a4, a5⟩ := append_lit hps (by omega)
  rw [← hdv] at hsl
  have hltI : ((i * S : Nat) : Int) < data.length := by omega
  simp [l18_36, r18_0, r18_1, r18_2, r18_3, r18_4, r18_5, r18_6, r18_7, r18_8, r18_9, r18_10, r18_11, r18_12, r18_13, r18_14, r18_15, r18_16, r18_18, r18_19, r18_20, r18_21, r18_22, r18_24, r18_25, r18_26, r18_27, r18_28, r18_29, r18_30, r18_32, r18_34, r18_35, r18_37, c18, s1, s2, s7, s8, s9, s10, hxl, hltI, w1, min_two, hmin, hsl, a1, -Int.natCast_mul, -Int.natCast_add]
  have hl0 := Pre.len a3
  refine W_loop (RnP dv ov b2 gen.length S (i * S) m part) ?_ (S - part.length) _ _ ⟨⟨by simp [s1], by simp [s2], by simp [s7], by simp [s8], by simp [s9], by simp [s10, -Int.natCast_mul]⟩, ⟨0, by omega, by omega, a3, by simpa using a2⟩⟩
  rintro k e1 m2 ⟨⟨s1, s2, s7, s8, s9, s10⟩, ⟨t, ht, hk, hp2, hfr⟩⟩
  obtain ⟨fv, s11⟩ : ∃ fv, e1 11 = fv := ⟨_, rfl⟩
  rw [s11] at hfr
  have hfi := FreshA.ints hfr
  have hfl := hfi.len
  rw [List.length_append, List.length_replicate] at hfl
  by_cases hlt2 : part.length + t < S
  · have hlt2' : ((part.length : Int) + (t : Int)) < S := by omega
    have hle : (part ++ List.replicate t (0 : Int)).length < 1000000000 := by rw [List.length_append, List.length_replicate]; omega
    obtain ⟨v', m3, b1, b2', b3, b4, b5, b6⟩ := append22 (x := (0 : Int)) hfr hp2 hle
    simp [l18_17, r18_0, r18_1, r18_2, r18_3, r18_4, r18_5, r18_6, r18_7, r18_8, r18_9, r18_10, r18_11, r18_12, r18_13, r18_14, r18_15, r18_16, r18_18, r18_19, r18_20, r18_21, r18_22, r18_24, r18_25, r18_26, r18_27, r18_28, r18_29, r18_30, r18_32, r18_34, r18_35, r18_37, c18, s1, s2, s7, s8, s9, s10, s11, hfl, hlt2', lit22, b1, -Int.natCast_mul]
    refine ⟨S - (part.length + (t + 1)), by omega, ⟨by simp [s1], by simp [s2], by simp [s7], by simp [s8], by simp [s9], by simp [s10, -Int.natCast_mul]⟩, ⟨t + 1, by omega, rfl, b3, ?_⟩⟩
    rw [← padL_step]
    simpa using b2'
  have htS : t = S - part.length := by omega
  subst htS
  have hnl : ¬ ((part.length : Int) + ((S - part.length : Nat) : Int)) < S := by omega
  have hpad : part ++ List.replicate (S - part.length) 0 = padL S part := rfl
  rw [hpad] at hfr hfi
  have hpadl : (padL S part).length = S := padL_len (by omega)
  obtain ⟨fb, fex, hfv, hfb0, hfat⟩ : ∃ fb fex, fv = .sl fb 0 S S 1 fex ∧ m.length ≤ fb ∧ At m2 fb ((padL S part).map I) 2 := by
    rcases hfr with ⟨_, h⟩ | ⟨fb, fex, h1, h2, h3⟩
    · have := List.map_eq_nil_iff.1 h
      rw [this] at hpadl; simp at hpadl; omega
    · rw [List.length_map, hpadl] at h1
      exact ⟨fb, fex, h1, h2, h3⟩
  have hA2 := Pre.at hp2 h2
  obtain ⟨c0, c1, c2, c3, c4, c5, c6, c7, c8⟩ := box_la9g hA2
  simp [l18_17, r18_0, r18_1, r18_2, r18_3, r18_4, r18_5, r18_6, r18_7, r18_8, r18_9, r18_10, r18_11, r18_12, r18_13, r18_14, r18_15, r18_16, r18_18, r18_19, r18_20, r18_21, r18_22, r18_24, r18_25, r18_26, r18_27, r18_28, r18_29, r18_30, r18_32, r18_34, r18_35, r18_37, c18, s1, s2, s7, s8, s9, s10, s11, hfl, hnl, c2, mk25 (l := N) (c := N) (by omega) (by omega) (by omega), -Int.natCast_mul]
  obtain ⟨cw, hcw⟩ : ∃ cw, cwOf f.F gen N (padL S part) = cw := ⟨_, rfl⟩
  have hcwl : ∀ j, (cw j).length = N := fun j => by rw [← hcw]; simp [cwOf]
  refine W_loop (RnZ dv ov fv b2 gen.length S (i * S) m2 m2.length N w) ?_ N _ _ ⟨⟨by simp [s1], by simp [s2], by simp [s7], by simp [s8], by simp [s9], by simp [s10, -Int.natCast_mul]⟩, ⟨0, List.replicate N .nils, by simp [s11], by simp, by simp, by omega, by omega, ?_⟩⟩
  rotate_left
  · rw [zerL_zero]
    exact RV.nils m2 N
  rintro k2 e2 m3 ⟨⟨s1, s2, s7, s8, s9, s10⟩, ⟨b, cs, s11, s12, s13, hb, hk2, hR⟩⟩
  have hp3 : Pre m m3 := hp2.trans hR.p
  have hA3 := Pre.at hp3 h2
  obtain ⟨c0, c1, c2, c3, c4, c5, c6, c7, c8⟩ := box_la9g hA3
  have hl2 := Pre.len hp2
  by_cases hlt3 : b < N
  · have w2 : IntKind.i64.wrap ((b : Int) + 1) = b + 1 := wrap64_in (by omega) (by omega)
    have i2 := ia25 (b := m2.length) (o := 0) (n := N) (c := N) (ex := true) (ix := (b : Int)) (by omega) (by omega)
    simp only [Int.toNat_natCast, Nat.zero_add] at i2
    have hz : At (m3 ++ ([⟨List.replicate w (I 0), 2⟩] : Mem)) m3.length ((List.replicate w (0 : Int)).map I) 2 := by rw [List.map_replicate]; exact At.new1 _ _ _
    have hR2 := RV.new hR (i := b) (by simpa using hlt3) (List.prefix_append m3 ([⟨List.replicate w (I 0), 2⟩] : Mem)) (Nat.le_refl _) hz
    rw [zerL_set hlt3, List.length_replicate] at hR2
    have hB3 := At.app (l := cs) (st := 2) hR.at_ ([⟨List.replicate w (I 0), 2⟩] : Mem)
    have hlc : cs.length = N := by rw [hR.len]; simp
    have hst : opStore T 22 (.ptr m2.length b) (.sl m3.length 0 w w 1 true) (m3 ++ ([⟨List.replicate w (I 0), 2⟩] : Mem)) = some ((m3 ++ ([⟨List.replicate w (I 0), 2⟩] : Mem)).set m2.length ⟨cs.set b (.sl m3.length 0 w w 1 true), 2⟩) := by rw [st22 _ _ _ _ rfl, sc_at hB3 rfl (by omega)]
    simp [l18_23, r18_0, r18_1, r18_2, r18_3, r18_4, r18_5, r18_6, r18_7, r18_8, r18_9, r18_10, r18_11, r18_12, r18_13, r18_14, r18_15, r18_16, r18_18, r18_19, r18_20, r18_21, r18_22, r18_24, r18_25, r18_26, r18_27, r18_28, r18_29, r18_30, r18_32, r18_34, r18_35, r18_37, c18, s1, s2, s7, s8, s9, s10, s11, s12, s13, c2, c7, hlt3, mk22 (l := w) (c := w) (by omega) (by omega) (by omega), i2, hst, w2, -Int.natCast_mul]
    exact ⟨N - (b + 1), by omega, ⟨by simp [s1], by simp [s2], by simp [s7], by simp [s8], by simp [s9], by simp [s10, -Int.natCast_mul]⟩, ⟨b + 1, _, by simp [s11], by simp [s12], by simp, by omega, rfl, hR2⟩⟩
  have hbN : N = b := by omega
  subst hbN
  rw [zerL_end cw] at hR
  simp [l18_23, r18_0, r18_1, r18_2, r18_3, r18_4, r18_5, r18_6, r18_7, r18_8, r18_9, r18_10, r18_11, r18_12, r18_13, r18_14, r18_15, r18_16, r18_18, r18_19, r18_20, r18_21, r18_22, r18_24, r18_25, r18_26, r18_27, r18_28, r18_29, r18_30, r18_32, r18_34, r18_35, r18_37, c18, s2, s13, c2]
  refine W_loop (RnJ dv ov fv b2 gen.length S (i * S) m2 cw m2.length N w) ?_ w _ _ ⟨⟨by simp [s1], by simp [s2], by simp [s7], by simp [s8], by simp [s9], by simp [s10, -Int.natCast_mul]⟩, ⟨0, cs, by simp [s11], by simp [s12], by simp, by omega, by omega, hR⟩⟩
  clear hR
  rintro k3 e3 m4 ⟨⟨s1, s2, s7, s8, s9, s10⟩, ⟨j, cs, s11, s12, s14, hj, hk3, hR⟩⟩
  have hp4 : Pre m m4 := hp2.trans hR.p
  have hA4 := Pre.at hp4 h2
  obtain ⟨c0, c1, c2, c3, c4, c5, c6, c7, c8⟩ := box_la9g hA4
  have c9 : la 3 m4 b2 0 = some (.agg [I f.p, I f.n, vm]) := by rw [la, hA4]; simp
  have hpE : AllE f.F part := by rw [← hpart]; exact AllE_sub hE _ _
  have hfE : AllE f.F (padL S part) := AllE_pad hf.F hpE
  have hfat4 := Pre.at hR.p hfat
  by_cases hlt4 : j < w
  · have w2 : IntKind.i64.wrap ((j : Int) + 1) = j + 1 := wrap64_in (by omega) (by omega)
    obtain ⟨K, hKe⟩ : ∃ K, gen.length = K := ⟨_, rfl⟩
    have hjk : (j + 1) * K ≤ S := by rw [← hS, hKe, Nat.mul_comm K w]; exact Nat.mul_le_mul_right K hlt4
    have hjk1 : (j + 1) * K = j * K + K := Nat.succ_mul j K
    have w3 : IntKind.i64.wrap ((j : Int) * (gen.length : Int)) = (j * K : Nat) := by rw [hKe]; simp only [Int.natCast_mul]; exact wrap64_in (by rw [← Int.natCast_mul]; omega) (by rw [← Int.natCast_mul]; omega)
    have w4 : IntKind.i64.wrap (((j : Int) + 1) * (gen.length : Int)) = ((j + 1) * K : Nat) := by rw [hKe, show ((j : Int) + 1) = ((j + 1 : Nat) : Int) by simp, ← Int.natCast_mul]; exact wrap64_in (by omega) (by omega)
    have hsl4 := slice22_mid (b := fb) (o := 0) (n := S) (c := S) (a := j * K) (z := (j + 1) * K) (ex := fex) (by omega) hjk
    rw [show (j + 1) * K - j * K = K by omega, ← hfv] at hsl4
    have hms : Ints m4 (.sl fb (0 + j * K) K (S - j * K) 1 fex) (msgL (padL S part) K j) := by
      have := At.ints hfat4 (by omega) fex
      rw [hpadl] at this
      exact Ints.sub (l := padL S part) (c := S) (by rw [hpadl]; exact this) (j * K) K (S - j * K) (by rw [hpadl]; omega) (by omega)
    rw [Nat.zero_add] at hms
    have hml : (msgL (padL S part) K j).length = gen.length := by rw [hKe]; exact msgL_len (w := w) (by rw [hpadl, ← hS, hKe]) hlt4
    have hmE : ∀ t, f.F.E ((msgL (padL S part) K j).getD t 0) := by
      intro t
      by_cases ht : t < (msgL (padL S part) K j).length
      · exact AllE_sub hfE _ _ t ht
      · rw [List.getD_eq_getElem?_getD, List.getElem?_eq_none (by omega)]; exact hf.F.zeroE
    simp [l18_33, r18_0, r18_1, r18_2, r18_3, r18_4, r18_5, r18_6, r18_7, r18_8, r18_9, r18_10, r18_11, r18_12, r18_13, r18_14, r18_15, r18_16, r18_18, r18_19, r18_20, r18_21, r18_22, r18_24, r18_25, r18_26, r18_27, r18_28, r18_29, r18_30, r18_32, r18_34, r18_35, r18_37, c18, s1, s2, s7, s8, s9, s10, s11, s12, s14, c2, c3, c7, c9, hlt4, w2, w3, w4, hsl4, -Int.natCast_mul, -Int.natCast_add]
    refine WR_bnd (rcombine_wv ⟨hf, vm, rfl, hv.pre hp4⟩ hms (hg.pre hp4) hM hmE hml (by omega) (by omega) fun v' m5 hp5 hF => ?_)
    have hcj : cmb f.F (msgL (padL S part) K j) gen N (msgL (padL S part) K j).length = cw j := by rw [← hcw, cwOf, hml, hKe]
    rw [hcj] at hF
    obtain ⟨nb, rfl, hnb, hatn⟩ := hF
    rw [hcwl]
    have hR5 := hR.pre hp5
    simp
    refine W_loop (RnB dv ov fv b2 gen.length S (i * S) m2 cw m2.length N w j nb) ?_ N _ _ ⟨⟨by simp [s1], by simp [s2], by simp [s7], by simp [s8], by simp [s9], by simp [s10, -Int.natCast_mul]⟩, ⟨0, cs, by simp [s11], by simp [s12], by simp [s14], by simp, by simp, by omega, by omega, hR5, hatn, ?_⟩⟩
    rotate_left
    · intro r u hu; exact (hR.row r u hu).off hnb
    clear hR5
    rintro k4 e4 m6 ⟨⟨s1, s2, s7, s8, s9, s10⟩, ⟨b, cs, s11, s12, s14, s15, s16, hb, hk4, hR6, hatn, hoff⟩⟩
    have hp6 : Pre m m6 := hp2.trans hR6.p
    have hA6 := Pre.at hp6 h2
    obtain ⟨c0, c1, c2, c3, c4, c5, c6, c7, c8⟩ := box_la9g hA6
    by_cases hlt5 : b < N
    · have w5 : IntKind.i64.wrap ((b : Int) + 1) = b + 1 := wrap64_in (by omega) (by omega)
      have hrl : (rw_ (refL cw N w j b) b).length = w := by rw [refL_row hlt5]; simp
      obtain ⟨R, ex, hcs, hatR, hR7, hRB, hR0⟩ := hR6.store (i := b) (j := j) (x := (cw j).getD b 0) (by simpa using hlt5) (by rw [hrl]; exact hlt4)
      rw [refL_set hlt5 hlt4] at hR7
      rw [hrl] at hcs
      have i1 := ia25 (b := m2.length) (o := 0) (n := N) (c := N) (ex := true) (ix := (b : Int)) (by omega) (by omega)
      have i2 := ia22 (b := nb) (o := 0) (n := N) (c := N) (ex := true) (ix := (b : Int)) (by omega) (by omega)
      have i3 := ia22 (b := R) (o := 0) (n := w) (c := w) (ex := ex) (ix := (j : Int)) (by omega) (by omega)
      simp only [Int.toNat_natCast, Nat.zero_add] at i1 i2 i3
      have l1 : lc m6 m2.length b = some (.sl R 0 w w 1 ex) := by rw [lc_at hR6.at_ (by omega), hcs]
      have l2 := lc_ints hatn (by omega) (o := b) (by rw [hcwl]; omega)
      have hst := sc_ints hatR (o := j) (x := (cw j).getD b 0) (by rw [hrl]; exact hlt4)
      have hne : R ≠ nb := by
        rintro rfl
        exact hoff b _ hcs _ _ _ _ _ rfl
      simp [l18_31, r18_0, r18_1, r18_2, r18_3, r18_4, r18_5, r18_6, r18_7, r18_8, r18_9, r18_10, r18_11, r18_12, r18_13, r18_14, r18_15, r18_16, r18_18, r18_19, r18_20, r18_21, r18_22, r18_24, r18_25, r18_26, r18_27, r18_28, r18_29, r18_30, r18_32, r18_34, r18_35, r18_37, c18, s1, s2, s7, s8, s9, s10, s11, s12, s14, s15, s16, c2, hlt5, i1, i2, i3, l1, l2, hst, w5, -Int.natCast_mul, -List.getD_eq_getElem?_getD, -List.map_set]
      exact ⟨N - (b + 1), by omega, ⟨by simp [s1], by simp [s2], by simp [s7], by simp [s8], by simp [s9], by simp [s10, -Int.natCast_mul]⟩, ⟨b + 1, cs, by simp [s11], by simp [s12], by simp [s14], by simp [s15], by simp, by omega, rfl, hR7, At.set_ne hatn hne, hoff⟩⟩
    have hbN : N = b := by omega
    subst hbN
    rw [refL_next] at hR6
    simp [l18_31, r18_0, r18_1, r18_2, r18_3, r18_4, r18_5, r18_6, r18_7, r18_8, r18_9, r18_10, r18_11, r18_12, r18_13, r18_14, r18_15, r18_16, r18_18, r18_19, r18_20, r18_21, r18_22, r18_24, r18_25, r18_26, r18_27, r18_28, r18_29, r18_30, r18_32, r18_34, r18_35, r18_37, c18, s2, s14, s16, c2, w2]
    exact ⟨w - (j + 1), by omega, ⟨by simp [s1], by simp [s2], by simp [s7], by simp [s8], by simp [s9], by simp [s10, -Int.natCast_mul]⟩, ⟨j + 1, cs, by simp [s11], by simp [s12], by simp, by omega, rfl, hR6⟩⟩
  have hjw : j = w := by omega
  subst hjw
  rw [refL_end] at hR
  have hK2 := hR.rowsK true
  rw [colsL_len] at hK2
  have hO1 := hO.pre hp4
  have hl4 := Pre.len hp4
  obtain ⟨v', m5, a1, a2, a3, a4, a5, a6⟩ := hO1.push (st := colsL cw N j 0) (hK2.keep (P' := fun y => Off ov y ∧ True) (m' := m4) (fun y _ hy => ⟨hO.off (by have : m2.length ≤ y := hy; omega), trivial⟩) fun y k _ hk => hk) hL
  simp [l18_33, r18_0, r18_1, r18_2, r18_3, r18_4, r18_5, r18_6, r18_7, r18_8, r18_9, r18_10, r18_11, r18_12, r18_13, r18_14, r18_15, r18_16, r18_18, r18_19, r18_20, r18_21, r18_22, r18_24, r18_25, r18_26, r18_27, r18_28, r18_29, r18_30, r18_32, r18_34, r18_35, r18_37, c18, s1, s2, s7, s8, s9, s10, s12, s14, c7, w1, lit40 (.sl m2.length 0 N N 1 true) rfl, a1, -Int.natCast_mul]
  refine hQ _ v' m5 ⟨by simp [s1], by simp [s2], by simp [s7], by simp [s8], by simp, by simp [-Int.natCast_mul]⟩ ?_ (by omega) (fun y k ho hk => a5 y k ho (Pre.at hp4 hk)) fun y hy ho => a6 y (by omega) ho
  rw [stripeOf, hS, hpart, hcw]
  exact a3
end Go.Proofs.YtefjnnghfloddaaGreat.Abs

/- Specifications: Encode, in the program and in the reference. -/
namespace Go.Proofs.YtefjnnghfloddaaGreat.Abs
set_option linter.unusedVariables false
set_option linter.unusedSimpArgs false
set_option linter.unusedSectionVars false
open Ff
theorem encE_err {E : Int} {F : Ff} {gen : List (List Int)} {N w : Nat} {data : List Int} (h : E ≠ 0) : encE E F gen N w data = (E, []) := if_pos h
theorem encE_big {F : Ff} {gen : List (List Int)} {N w : Nat} {data : List Int} (h : 64 * (gen.length * w) < data.length) : encE 0 F gen N w data = (8, []) := by rw [encE, if_neg (by simp), if_pos h]
theorem encE_el {F : Ff} {gen : List (List Int)} {N w : Nat} {data : List Int} (h : ¬ 64 * (gen.length * w) < data.length) (h2 : ¬ AllE F data) : encE 0 F gen N w data = (2, []) := by rw [encE, if_neg (by simp), if_neg h, if_pos h2]
theorem encE_ok {F : Ff} {gen : List (List Int)} {N w : Nat} {data : List Int} (h : ¬ 64 * (gen.length * w) < data.length) (h2 : AllE F data) : encE 0 F gen N w data = (0, stripesL F gen N w data) := by rw [encE, if_neg (by simp), if_neg h, if_neg (by simpa using h2)]
theorem encode_wv {p n N d wd : Int} {vm gv sv rv dv : V} {mod : List Int} {gen sets : List (List Int)} {racks data : List Int} {m : Mem} {Q : V → Mem → Prop} (hC : CfgAt m vm gv sv rv mod gen d sets racks) (hx : Ints m dv data) (hdl : data.length ≤ 3000)
    (hQ : ∀ v m', Pre m m' → Rows3 m' v (encE (cfgE p n mod N gen d sets racks wd) ⟨p, n.toNat, mod⟩ gen N.toNat wd.toNat data).2 → Q (.tup [v, I (encE (cfgE p n mod N gen d sets racks wd) ⟨p, n.toNat, mod⟩ gen N.toNat wd.toNat data).1]) m') : WV (DD 17 [.agg (gcells p n vm N gv d sv rv wd), dv] m) Q := by
  have h1 := hC.hv.cell
  have h2 := hC.hg.cell
  have h3 := hC.hs.cell
  have h4 := hC.hr.cell
  have hall : ((gcells p n vm N gv d sv rv wd).all V.isCell) = true := by simp [h1, h2, h3, h4]
  rw [e17]
  refine WV_fin ?_
  have hp0 := List.prefix_append m ([⟨gcells p n vm N gv d sv rv wd, 2⟩] : Mem)
  have hA := At.new1 m (gcells p n vm N gv d sv rv wd) 2
  obtain ⟨c0, c1, c2, c3, c4, c5, c6, c7, c8⟩ := box_la9g hA
  simp only [r17_0, r17_1, r17_2, r17_3, r17_4, c17, box12 hall]
  simp [r17_0, r17_1, r17_2, r17_3, r17_4, c17, box12 hall, h1, h2, h3, h4]
  generalize hm : m ++ [⟨gcells p n vm N gv d sv rv wd, 2⟩] = m0 at *
  refine WR_bnd (checkConfig_wv (hC.pre hp0) fun m1 hp1 => ?_)
  generalize hE : cfgE p n mod N gen d sets racks wd = E at *
  have hp1' := hp0.trans hp1
  by_cases he : E ≠ 0
  · have := hQ .nils m1 hp1' (by rw [encE_err he]; exact .inl ⟨rfl, rfl⟩)
    rw [encE_err he] at this
    simp [he, packV]
    exact this
  have he : E = 0 := Classical.byContradiction he
  subst he
  obtain ⟨k1, k2, k3, k4, k5, hk, hNs⟩ := cfgE_ok hE
  obtain ⟨f, Nn, rfl, rfl, rfl, rfl, hok⟩ := codeE_okF (hC.pre hp1').hv (hC.pre hp1').hg k1
  obtain ⟨w, rfl⟩ : ∃ w : Nat, wd = w := ⟨wd.toNat, by omega⟩
  have hC1 := hC.pre hp1'
  obtain ⟨d0, d1, d2, d3, d4, d5, d6, d7, d8⟩ := box_la9g (Pre.at hp1 hA)
  have hF : (⟨f.p, f.n, f.mod⟩ : Ff) = f.F := rfl
  simp only [Int.toNat_natCast, hF] at hQ
  have he0 := matE_of hok.mat (by have := hok.n2; omega) hok.gl
  simp [d1]
  refine WR_bnd (sencode_wv hok.ok hC1.hv hC1.hg hC1.hs.cell hC1.hr.cell (hx.pre hp1') k1 he0 (by omega) (by omega) (by omega) hok.n2 hdl (fun hb m2 hp2 => ?_) (fun hb hn m2 hp2 => ?_) fun hb hn v m2 hp2 hR => ?_)
  · have := hQ .nils m2 (hp1'.trans hp2) (by rw [encE_big hb]; exact .inl ⟨rfl, rfl⟩)
    rw [encE_big hb] at this
    simpa [packV] using this
  · have := hQ .nils m2 (hp1'.trans hp2) (by rw [encE_el hb hn]; exact .inl ⟨rfl, rfl⟩)
    rw [encE_el hb hn] at this
    simpa [packV] using this
  · have := hQ v m2 (hp1'.trans hp2) (by rw [encE_ok hb hn]; exact hR)
    rw [encE_ok hb hn] at this
    simpa [packV] using this
structure ReN (F : Ff) (gen : List (List Int)) (N w : Nat) (data : List Int) (cfg : List V) (dv : V) (b2 S : Nat) (m : Mem) (k : Nat) (e : Env) (m' : Mem) : Prop where
  d : ∃ (i : Nat) (ov : V), Fx dv ov b2 gen.length S (i * S) e ∧ OUT (fun _ => True) m m' ov ((List.range i).map (stripeOf F gen N w data)) ∧ Off ov b2 ∧ At m' b2 cfg 2 ∧ i ≤ cntL S data.length ∧ cntL S data.length - i = k
theorem lit40_0 (m : Mem) : opBuildSlice T 40 0 [] m = some (.sl m.length 0 0 0 1 true, m ++ [⟨[], 2⟩]) := by simp [opBuildSlice, T40, T25, fillA, zeros]
theorem rencode_wv {p n N d wd : Int} {vm gv sv rv dv : V} {mod : List Int} {gen sets : List (List Int)} {racks data : List Int} {m : Mem} {Q : V → Mem → Prop} (hC : CfgAt m vm gv sv rv mod gen d sets racks) (hx : Ints m dv data) (hdl : data.length ≤ 3000)
    (hQ : ∀ v m', Pre m m' → Rows3 m' v (encE (cfgE p n mod N gen d sets racks wd) ⟨p, n.toNat, mod⟩ gen N.toNat wd.toNat data).2 → Q (.tup [v, I (encE (cfgE p n mod N gen d sets racks wd) ⟨p, n.toNat, mod⟩ gen N.toNat wd.toNat data).1]) m') : WV (DD 18 [.agg (gcells p n vm N gv d sv rv wd), dv] m) Q := by
  have h1 := hC.hv.cell
  have h2 := hC.hg.cell
  have h3 := hC.hs.cell
  have h4 := hC.hr.cell
  have hall : ((gcells p n vm N gv d sv rv wd).all V.isCell) = true := by simp [h1, h2, h3, h4]
  rw [e18]
  refine WV_fin ?_
  have hp0 := List.prefix_append m ([⟨gcells p n vm N gv d sv rv wd, 2⟩] : Mem)
  have hA := At.new1 m (gcells p n vm N gv d sv rv wd) 2
  obtain ⟨c0, c1, c2, c3, c4, c5, c6, c7, c8⟩ := box_la9g hA
  simp only [r18_0, r18_1, r18_2, r18_3, r18_4, r18_5, r18_6, r18_7, r18_8, r18_9, r18_10, r18_11, r18_12, r18_13, r18_14, r18_15, r18_16, r18_18, r18_19, r18_20, r18_21, r18_22, r18_24, r18_25, r18_26, r18_27, r18_28, r18_29, r18_30, r18_32, r18_34, r18_35, r18_37, c18, box12 hall]
  simp [r18_0, r18_1, r18_2, r18_3, r18_4, r18_5, r18_6, r18_7, r18_8, r18_9, r18_10, r18_11, r18_12, r18_13, r18_14, r18_15, r18_16, r18_18, r18_19, r18_20, r18_21, r18_22, r18_24, r18_25, r18_26, r18_27, r18_28, r18_29, r18_30, r18_32, r18_34, r18_35, r18_37, c18, box12 hall, h1, h2, h3, h4]
  generalize hm : m ++ [⟨gcells p n vm N gv d sv rv wd, 2⟩] = m0 at *
  refine WR_bnd (rcheckConfig_wv (hC.pre hp0) fun m1 hp1 => ?_)
  generalize hE : cfgE p n mod N gen d sets racks wd = E at *
  have hp1' := hp0.trans hp1
  by_cases he : E ≠ 0
  · have := hQ .nils m1 hp1' (by rw [encE_err he]; exact .inl ⟨rfl, rfl⟩)
    rw [encE_err he] at this
    simp [he, packV]
    exact this
  have he : E = 0 := Classical.byContradiction he
  subst he
  obtain ⟨k1, k2, k3, k4, k5, hk, hNs⟩ := cfgE_ok hE
  obtain ⟨f, Nn, rfl, rfl, rfl, rfl, hok⟩ := codeE_okF (hC.pre hp1').hv (hC.pre hp1').hg k1
  obtain ⟨w, rfl⟩ : ∃ w : Nat, wd = w := ⟨wd.toNat, by omega⟩
  have hC1 := hC.pre hp1'
  have hA1 := Pre.at hp1 hA
  obtain ⟨d0, d1, d2, d3, d4, d5, d6, d7, d8⟩ := box_la9g hA1
  have d9 : la 3 m1 m.length 0 = some (.agg [I f.p, I f.n, vm]) := by rw [la, hA1]; simp
  have hF : (⟨f.p, f.n, f.mod⟩ : Ff) = f.F := rfl
  simp only [Int.toNat_natCast, hF] at hQ
  have hgl := hok.gl
  have hK : gen.length * w ≤ 256 * 16 := Nat.mul_le_mul hgl (by omega)
  have hK1 : 1 ≤ gen.length * w := Nat.mul_pos (by omega) (by omega)
  obtain ⟨S, hS⟩ : ∃ S, gen.length * w = S := ⟨_, rfl⟩
  have w1 : IntKind.i64.wrap ((gen.length : Int) * (w : Int)) = S := by rw [← Int.natCast_mul, hS]; exact wrap64_in (by omega) (by omega)
  rw [hS] at hK hK1
  have w2 : IntKind.i64.wrap (64 * (S : Int)) = (64 * S : Nat) := by rw [wrap64_in (by omega) (by omega)]; omega
  have hx1 := hx.pre hp1'
  by_cases hbig : 64 * S < data.length
  · have hb' : (64 : Int) * S < data.length := by omega
    have hbig' : 64 * (gen.length * w) < data.length := by rw [hS]; exact hbig
    have := hQ .nils m1 hp1' (by rw [encE_big hbig']; exact .inl ⟨rfl, rfl⟩)
    rw [encE_big hbig'] at this
    simp [d3, d7, d9, hC1.hg.len, hx1.len, w1, w2, hb', hbig, packV, -Int.natCast_mul]
    simpa using this
  have hb' : ¬ (64 : Int) * S < data.length := by omega
  have hbig' : ¬ 64 * (gen.length * w) < data.length := by rw [hS]; exact hbig
  simp [d3, d7, d9, hC1.hg.len, hx1.len, w1, w2, hb', hbig, -Int.natCast_mul]
  refine WR_bnd (rentries_wv ⟨hok.ok, vm, rfl, hC1.hv⟩ hx1 (by omega) (fun hE2 m2 hp2 => ?_) fun hn m2 hp2 => ?_)
  · have hp2' := hp1'.trans hp2
    have hx2 := hx.pre hp2'
    simp [lit40_0, -Int.natCast_mul]
    have hp3 := List.prefix_append m2 ([⟨[], 2⟩] : Mem)
    have hA3 := Pre.at (hp2.trans hp3) hA1
    have hl2 := Pre.len (hp1.trans hp2)
    have hl3 := At.lt hA
    refine W_loop (ReN f.F gen Nn w data (gcells f.p f.n vm Nn gv d sv rv w) dv m.length S m) ?_ (cntL S data.length) _ _ ⟨⟨0, .sl m2.length 0 0 0 1 true, ⟨by simp, by simp, by simp, by simp, by simp, by simp⟩, OUT.lit _ hp2', Off.sl (by omega), hA3, by omega, by omega⟩⟩
    rintro k e m4 ⟨⟨i, ov, hX, hO, hoff, hA4, hi, hk4⟩⟩
    have hp4 := hO.p
    have hC4 := hC.pre hp4
    by_cases hlt : i * S < data.length
    · have hic := (cntL_lt (S := S) hK1).2 hlt
      refine rround_wv hX hS hA4 hoff hok.ok hC4.hv hC4.hg (hx.pre hp4) hE2 hlt hdl hok.mat (by omega) (by omega) hok.n2 (by omega) hgl hO (by simp; have := Nat.div_le_self (data.length + S - 1) S; rw [cntL] at hic; omega) ?_
      intro e' ov' m5 hX' hO' hl' hk' ho'
      refine ⟨cntL S data.length - (i + 1), by omega, ⟨i + 1, ov', hX', ?_, ho' _ (At.lt hA4) hoff, hk' _ _ hoff hA4, by omega, rfl⟩⟩
      rw [List.range_succ, List.map_append]
      exact hO'
    · have hic : ¬ i < cntL S data.length := fun h => hlt ((cntL_lt (S := S) hK1).1 h)
      have hie : i = cntL S data.length := by omega
      obtain ⟨s1, s2, s7, s8, s9, s10⟩ := hX
      have hlt' : ¬ ((i * S : Nat) : Int) < data.length := by omega
      simp [l18_36, r18_0, r18_1, r18_2, r18_3, r18_4, r18_5, r18_6, r18_7, r18_8, r18_9, r18_10, r18_11, r18_12, r18_13, r18_14, r18_15, r18_16, r18_18, r18_19, r18_20, r18_21, r18_22, r18_24, r18_25, r18_26, r18_27, r18_28, r18_29, r18_30, r18_32, r18_34, r18_35, r18_37, c18, s1, s9, s10, (hx.pre hp4).len, hlt', packV, -Int.natCast_mul]
      have hR := hO.rows
      rw [hie] at hR
      have := hQ ov m4 hp4 (by rw [encE_ok hbig' hE2, stripesL, hS]; exact hR)
      rw [encE_ok hbig' hE2] at this
      exact this
  · have := hQ .nils m2 (hp1'.trans hp2) (by rw [encE_el hbig' hn]; exact .inl ⟨rfl, rfl⟩)
    rw [encE_el hbig' hn] at this
    simp [packV]
    exact this
end Go.Proofs.YtefjnnghfloddaaGreat.Abs

/- The law StoreEncodes, run. -/
namespace Go.Proofs.YtefjnnghfloddaaGreat.Abs
set_option linter.unusedVariables false
set_option linter.unusedSimpArgs false
set_option linter.unusedSectionVars false
open Ff
theorem encE_small {p n N d wd : Int} {mod : List Int} {gen sets : List (List Int)} {racks data : List Int} {F : Ff} (hdl : data.length ≤ 3000) :
    (encE (cfgE p n mod N gen d sets racks wd) F gen N.toNat wd.toNat data).2.length ≤ 1000000 ∧ ∀ i, ((encE (cfgE p n mod N gen d sets racks wd) F gen N.toNat wd.toNat data).2.getD i []).length ≤ 1000000 ∧ ∀ j, (rw_ ((encE (cfgE p n mod N gen d sets racks wd) F gen N.toNat wd.toNat data).2.getD i []) j).length ≤ 1000000 := by
  have h0 : ∀ (L : List (List (List Int))), L = [] → L.length ≤ 1000000 ∧ ∀ i, (L.getD i []).length ≤ 1000000 ∧ ∀ j, (rw_ (L.getD i []) j).length ≤ 1000000 := by
    rintro L rfl
    refine ⟨by simp, fun i => ⟨by simp, fun j => by simp [rw_]⟩⟩
  by_cases hE : cfgE p n mod N gen d sets racks wd = 0
  · obtain ⟨k1, k2, k3, k4, k5, hk, hNs⟩ := cfgE_ok hE
    obtain ⟨n1, n2⟩ := codeN k1
    rw [hE, encE, if_neg (by simp)]
    split
    · exact h0 _ rfl
    · split
      · exact h0 _ rfl
      · have hc : cntL (gen.length * wd.toNat) data.length ≤ 1000000 := by
          have hK1 : 1 ≤ gen.length * wd.toNat := Nat.mul_pos (by omega) (by omega)
          have := (cntL_lt (S := gen.length * wd.toNat) (n := data.length) (i := 3000) hK1)
          have h2 : 3000 * 1 ≤ 3000 * (gen.length * wd.toNat) := Nat.mul_le_mul_left 3000 hK1
          omega
        refine ⟨by simp [stripesL]; exact hc, fun i => ?_⟩
        simp only [stripesL]
        by_cases hi : i < cntL (gen.length * wd.toNat) data.length
        · have e : ((List.range (cntL (gen.length * wd.toNat) data.length)).map (stripeOf F gen N.toNat wd.toNat data)).getD i [] = stripeOf F gen N.toNat wd.toNat data i := by simp [hi]
          rw [e, stripeOf]
          refine ⟨by rw [colsL_len]; omega, fun j => ?_⟩
          by_cases hj : j < N.toNat
          · rw [colsL_row hj]; simp; omega
          · rw [rw_out (by rw [colsL_len]; omega)]; simp
        · have e : ((List.range (cntL (gen.length * wd.toNat) data.length)).map (stripeOf F gen N.toNat wd.toNat data)).getD i [] = [] := by simp [hi]
          rw [e]
          exact ⟨by simp, fun j => by simp [rw_]⟩
  · rw [encE_err hE]
    exact h0 _ rfl
theorem storeEncodes_wv {p n N d wd : Int} {vm gv sv rv dv : V} {mod : List Int} {gen sets : List (List Int)} {racks data : List Int} {m : Mem} {Q : V → Mem → Prop} (h : ([vm, gv, sv, rv].all V.isCell) = true) (hl : opLen T 25 sv = some (I sets.length)) (hC : sets.length ≤ 300 → CfgAt m vm gv sv rv mod gen d sets racks) (hx : Ints m dv data)
    (hQ : ∀ m', Pre m m' → Q (.bool true) m') : WV (DD 6 [.agg (gcells p n vm N gv d sv rv wd), dv] m) Q := by
  have hh := h
  simp at h
  obtain ⟨h1, h2, h3, h4⟩ := h
  have hall : ((gcells p n vm N gv d sv rv wd).all V.isCell) = true := by simp [h1, h2, h3, h4]
  rw [e6]
  refine WV_fin ?_
  have hp0 := List.prefix_append m ([⟨gcells p n vm N gv d sv rv wd, 2⟩] : Mem)
  have hA := At.new1 m (gcells p n vm N gv d sv rv wd) 2
  simp only [r6_0, r6_1, r6_2, r6_3, r6_4, r6_5, c6, box12 hall]
  simp [r6_0, r6_1, r6_2, r6_3, r6_4, r6_5, c6, box12 hall, h1, h2, h3, h4]
  generalize hm : m ++ [⟨gcells p n vm N gv d sv rv wd, 2⟩] = m0 at *
  refine WR_bnd (fit_wv hh hl fun m1 hp1 => ?_)
  by_cases hfit : ¬ (sets.length ≤ 300 ∧ N ≤ 8)
  · simp [hfit]
    refine WR_bnd (alive_wv fun m2 hp2 => ?_)
    simp
    exact hQ m2 (hp0.trans (hp1.trans hp2))
  have hfit : sets.length ≤ 300 ∧ N ≤ 8 := Classical.byContradiction hfit
  have hx1 := (hx.pre hp0).pre hp1
  by_cases hbig : 3000 < data.length
  · have hb : (3000 : Int) < data.length := by omega
    simp [hfit, hx1.len, hb]
    refine WR_bnd (alive_wv fun m2 hp2 => ?_)
    simp
    exact hQ m2 (hp0.trans (hp1.trans hp2))
  have hb : ¬ (3000 : Int) < data.length := by omega
  have hC0 := (hC hfit.1).pre hp0
  have hC1 := hC0.pre hp1
  obtain ⟨d0, d1, d2, d3, d4, d5, d6, d7, d8⟩ := box_la9g (Pre.at hp1 hA)
  simp [hfit, hx1.len, hb, d1]
  refine WR_bnd (encode_wv hC1 hx1 (by omega) fun v m2 hp2 hR => ?_)
  obtain ⟨f0, f1, f2, f3, f4, f5, f6, f7, f8⟩ := box_la9g (Pre.at (hp1.trans hp2) hA)
  simp [f1]
  refine WR_bnd (rencode_wv (hC1.pre hp2) (hx1.pre hp2) (by omega) fun v2 m3 hp3 hR2 => ?_)
  obtain ⟨s1, s2⟩ := encE_small (p := p) (n := n) (N := N) (d := d) (wd := wd) (mod := mod) (gen := gen) (sets := sets) (racks := racks) (data := data) (F := ⟨p, n.toNat, mod⟩) (by omega)
  simp
  refine WR_bnd (sameStripes_wv (Rows3.pre hR hp3) hR2 s1 s2 ?_)
  simp
  refine WR_bnd (alive_wv fun m4 hp4 => ?_)
  simp [packV]
  exact hQ m4 (hp0.trans (hp1.trans (hp2.trans (hp3.trans hp4))))
end Go.Proofs.YtefjnnghfloddaaGreat.Abs
