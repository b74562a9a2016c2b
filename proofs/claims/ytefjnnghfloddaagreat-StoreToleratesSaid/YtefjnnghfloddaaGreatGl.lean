/- A part of a proof of a law of the store, without conditions: its texts are: Ta Tb Tc. -/
import Derived.Test.YtefjnnghfloddaaGreatGk
/- The loads of the racks and the tolerance, in plain Lean. -/
namespace Go.Proofs.YtefjnnghfloddaaGreat.Abs
set_option linter.unusedVariables false
set_option linter.unusedSimpArgs false
set_option linter.unusedSectionVars false
def rackE (racks : List Int) (M : Nat) (s b : Int) : Nat := ((ringI racks M).getD (atI s b (ringI racks M).length) (0, 0)).2.toNat
theorem rackE_lt {racks : List Int} (hk : RkOk racks) {M : Nat} (hM : IsMax racks (M : Nat)) (s b : Int) : rackE racks M s b < racks.length ∧ ((ringI racks M)[atI s b (ringI racks M).length]'(atI_lt (ring_one hk hM).1)).2 = (rackE racks M s b : Int) ∧ nodeE racks M s b = ((ringI racks M)[atI s b (ringI racks M).length]'(atI_lt (ring_one hk hM).1)).1 ∧ ∃ k, IsNode racks k (rackE racks M s b) ((ringI racks M)[atI s b (ringI racks M).length]'(atI_lt (ring_one hk hM).1)) := by
  obtain ⟨k, i, hk2, hn⟩ := ringI_mem (List.getElem_mem (atI_lt (s := s) (b := b) (ring_one hk hM).1))
  have hr : rackE racks M s b = i := by
    rw [rackE, List.getD_eq_getElem?_getD, List.getElem?_eq_getElem (atI_lt (ring_one hk hM).1), Option.getD_some, hn.1]; rfl
  rw [hr]
  refine ⟨hn.2.1, by rw [hn.1], ?_, k, hn⟩
  rw [nodeE, fsts, List.getD_eq_getElem?_getD, List.getElem?_map, List.getElem?_eq_getElem (atI_lt (ring_one hk hM).1)]; rfl
def incAt (l : List Int) (i : Nat) : List Int := l.set i (l.getD i 0 + 1)
@[simp] theorem incAt_len (l : List Int) (i : Nat) : (incAt l i).length = l.length := by simp [incAt]
def loadI (racks : List Int) (M : Nat) (s : Int) : Nat → List Int
  | 0 => List.replicate racks.length 0
  | b + 1 => incAt (loadI racks M s b) (rackE racks M s b)
@[simp] theorem loadI_len (racks : List Int) (M : Nat) (s : Int) : ∀ b, (loadI racks M s b).length = racks.length
  | 0 => by simp [loadI]
  | b + 1 => by rw [loadI, incAt_len, loadI_len racks M s b]
theorem incAt_mem {l : List Int} {i : Nat} {B x : Int} (h : ∀ x ∈ l, 0 ≤ x ∧ x ≤ B) (hx : x ∈ incAt l i) : 0 ≤ x ∧ x ≤ B + 1 := by
  unfold incAt at hx
  rcases List.mem_or_eq_of_mem_set hx with h1 | h1
  · have := h x h1; omega
  · by_cases hi : i < l.length
    · have h2 := h l[i] (List.getElem_mem hi)
      have h3 : l.getD i 0 = l[i] := by simp [hi]
      omega
    · rw [List.set_eq_of_length_le (by omega)] at hx
      have := h x hx
      omega
theorem loadI_mem {racks : List Int} {M : Nat} {s : Int} : ∀ (b : Nat) (x : Int), x ∈ loadI racks M s b → 0 ≤ x ∧ x ≤ b
  | 0, x, hx => by
    have := List.eq_of_mem_replicate hx
    omega
  | b + 1, x, hx => by
    have := incAt_mem (fun y hy => loadI_mem b y hy) hx
    omega
def dsc (l : List Int) : List Int := (l.mergeSort fun x y => decide (x ≤ y)).reverse
theorem dsc_perm (l : List Int) : (dsc l).Perm l := (List.reverse_perm _).trans (List.mergeSort_perm _ _)
@[simp] theorem dsc_len (l : List Int) : (dsc l).length = l.length := (dsc_perm l).length_eq
def Desc (l : List Int) : Prop := l.Pairwise fun a b => b ≤ a
theorem dsc_desc (l : List Int) : Desc (dsc l) := by
  unfold Desc dsc
  rw [List.pairwise_reverse]
  have := List.pairwise_mergeSort (le := fun (x y : Int) => decide (x ≤ y)) (fun a b c h1 h2 => by simp at *; omega) (fun a b => by simp; omega) l
  exact this.imp fun h => by simpa using h
theorem dsc_eq {l k : List Int} (h : Desc k) (hp : k.Perm l) : k = dsc l :=
  List.Perm.eq_of_pairwise (le := fun a b : Int => b ≤ a) (fun a b _ _ h1 h2 => by omega) h (dsc_desc l) (hp.trans (dsc_perm l).symm)
theorem psum_bound {l : List Int} {B : Int} (h : ∀ x ∈ l, 0 ≤ x ∧ x ≤ B) (hB : 0 ≤ B) : ∀ i : Nat, 0 ≤ psum l i ∧ psum l i ≤ B * i
  | 0 => by simp [psum]
  | i + 1 => by
    have h1 := psum_bound h hB i
    have h2 : 0 ≤ l.getD i 0 ∧ l.getD i 0 ≤ B := by
      by_cases hi : i < l.length
      · have := h l[i] (List.getElem_mem hi)
        have h3 : l.getD i 0 = l[i] := by simp [hi]
        omega
      · have h3 : l.getD i 0 = 0 := by simp [hi]
        omega
    rw [psum, Int.natCast_add, Int.mul_add]
    omega
def cutF (l : List Int) (d : Int) : Nat → Nat → Nat
  | 0, r => r
  | f + 1, r => if r < l.length ∧ psum l (r + 1) < d then cutF l d f (r + 1) else r
def tcut (l : List Int) (d : Int) : Nat := cutF l d l.length 0
def IsCut (l : List Int) (d : Int) (r : Nat) : Prop := r ≤ l.length ∧ (∀ i, i < r → psum l (i + 1) < d) ∧ (r = l.length ∨ d ≤ psum l (r + 1))
theorem cutF_is {l : List Int} {d : Int} : ∀ (f r : Nat), r + f = l.length → (∀ i, i < r → psum l (i + 1) < d) → IsCut l d (cutF l d f r)
  | 0, r, h, hp => ⟨by rw [cutF]; omega, hp, .inl (by rw [cutF]; omega)⟩
  | f + 1, r, h, hp => by
    rw [cutF]
    split
    · rename_i hc
      exact cutF_is f (r + 1) (by omega) fun i hi => by
        by_cases e : i = r
        · subst e; exact hc.2
        · exact hp i (by omega)
    · exact ⟨by omega, hp, .inr (by omega)⟩
theorem tcut_is (l : List Int) (d : Int) : IsCut l d (tcut l d) := cutF_is _ _ (by omega) fun i hi => by omega
theorem cut_uniq {l : List Int} {d : Int} {r : Nat} (h : IsCut l d r) : r = tcut l d := by
  have h' := tcut_is l d
  obtain ⟨a1, a2, a3⟩ := h
  obtain ⟨b1, b2, b3⟩ := h'
  rcases Nat.lt_trichotomy r (tcut l d) with h1 | h1 | h1
  · have := b2 r h1
    rcases a3 with e | e <;> omega
  · exact h1
  · have := a2 _ h1
    rcases b3 with e | e <;> omega
def tolI (racks : List Int) (M N : Nat) (d : Int) : Nat → Nat
  | 0 => racks.length
  | s + 1 => min (tolI racks M N d s) (tcut (dsc (loadI racks M s N)) d)
theorem tolI_le (racks : List Int) (M N : Nat) (d : Int) : ∀ s, tolI racks M N d s ≤ racks.length
  | 0 => Nat.le_refl _
  | s + 1 => by have := tolI_le racks M N d s; rw [tolI]; omega
def swp (l : List Int) (i j : Nat) : List Int := (l.set i (l.getD j 0)).set j (l.getD i 0)
@[simp] theorem swp_len (l : List Int) (i j : Nat) : (swp l i j).length = l.length := by simp [swp]
theorem swp_perm {l : List Int} {i j : Nat} (hi : i < l.length) (hj : j < l.length) : (swp l i j).Perm l := by
  have e1 : l.getD i 0 = l[i] := by simp [hi]
  have e2 : l.getD j 0 = l[j] := by simp [hj]
  rw [swp, e1, e2]
  exact List.set_set_perm hi hj
theorem swp_at {l : List Int} {i j : Nat} (hi : i < l.length) (hj : j < l.length) (x : Nat) : (swp l i j).getD x 0 = if x = j then l.getD i 0 else if x = i then l.getD j 0 else l.getD x 0 := by
  rw [swp, List.getD_eq_getElem?_getD, List.getElem?_set]
  by_cases hxj : j = x
  · subst hxj
    rw [if_pos rfl, if_pos rfl]
    simp [hj]
  · rw [if_neg hxj, if_neg (fun e => hxj e.symm), List.getElem?_set]
    by_cases hxi : i = x
    · subst hxi
      rw [if_pos rfl, if_pos rfl]
      simp [hi]
    · rw [if_neg hxi, if_neg (fun e => hxi e.symm)]; rfl
def DescTo (l : List Int) (i : Nat) : Prop := ∀ a b, a < b → b < i → l.getD b 0 ≤ l.getD a 0
def Mid (l : List Int) (i j : Nat) : Prop := DescTo l i ∧ ∀ a, a < j → l.getD i 0 ≤ l.getD a 0
theorem mid_step1 {l : List Int} {i j : Nat} (hi : i < l.length) (hj : j < i) (h : Mid l i j) (hgt : l.getD j 0 < l.getD i 0) : Mid (swp l i j) i (j + 1) := by
  obtain ⟨h1, h2⟩ := h
  have hat := swp_at hi (show j < l.length by omega)
  refine ⟨fun a b hab hb => ?_, fun a ha => ?_⟩
  · rw [hat, hat, if_neg (show ¬ b = i by omega), if_neg (show ¬ a = i by omega)]
    have k1 := h1 a b hab hb
    split
    · rename_i e; subst e
      rw [if_neg (by omega)]
      exact h2 a hab
    · split
      · rename_i e; subst e
        omega
      · exact k1
  · rw [hat, hat, if_neg (show ¬ i = j by omega), if_pos rfl, if_neg (show ¬ a = i by omega)]
    split
    · omega
    · exact h1 a j (by omega) hj
theorem mid_step2 {l : List Int} {i j : Nat} (h : Mid l i j) (hle : ¬ l.getD j 0 < l.getD i 0) : Mid l i (j + 1) :=
  ⟨h.1, fun a ha => by
    by_cases e : a = j
    · subst e; omega
    · exact h.2 a (by omega)⟩
theorem mid_done {l : List Int} {i : Nat} (h : Mid l i i) : DescTo l (i + 1) := fun a b hab hb => by
  by_cases e : b = i
  · subst e; exact h.2 a hab
  · exact h.1 a b hab (by omega)
theorem desc_of {l : List Int} (h : DescTo l l.length) : Desc l := by
  unfold Desc
  rw [List.pairwise_iff_getElem]
  intro i j hi hj hij
  have := h i j hij hj
  simpa [hi, hj] using this
def revI (l : List Int) (i : Nat) : List Int := (List.range l.length).map fun x => if x < i ∨ l.length - 1 - i < x then l.getD (l.length - 1 - x) 0 else l.getD x 0
theorem revI_0 (l : List Int) : revI l 0 = l := by
  apply List.ext_getElem (by simp [revI])
  intro x h1 h2
  simp only [revI, List.getElem_map, List.getElem_range]
  rw [if_neg (by omega)]
  simp [h2]
theorem revI_end (l : List Int) (i : Nat) (h : l.length ≤ 2 * i + 1) : revI l i = l.reverse := by
  apply List.ext_getElem (by simp [revI])
  intro x h1 h2
  simp only [revI, List.getElem_map, List.getElem_range, List.getElem_reverse]
  simp at h2
  by_cases hc : x < i ∨ l.length - 1 - i < x
  · rw [if_pos hc]
    simp; rw [List.getElem?_eq_getElem (by omega)]; rfl
  · rw [if_neg hc]
    have : x = l.length - 1 - x := by omega
    simp only [List.getD_eq_getElem?_getD]
    rw [List.getElem?_eq_getElem h2, Option.getD_some]
    congr 1
theorem revI_at (l : List Int) (i x : Nat) (hx : x < l.length) : (revI l i).getD x 0 = if x < i ∨ l.length - 1 - i < x then l.getD (l.length - 1 - x) 0 else l.getD x 0 := by
  rw [List.getD_eq_getElem?_getD, revI, List.getElem?_map, List.getElem?_range hx]; rfl
theorem revI_step (l : List Int) (i : Nat) (h : i < l.length - 1 - i) : ((revI l i).set i (l.getD (l.length - 1 - i) 0)).set (l.length - 1 - i) (l.getD i 0) = revI l (i + 1) := by
  apply List.ext_getElem (by simp [revI])
  intro x h1 h2
  simp [revI] at h2
  rw [List.getElem_set]
  by_cases e1 : l.length - 1 - i = x
  · rw [if_pos e1]
    simp only [revI, List.getElem_map, List.getElem_range]
    rw [if_pos (by omega), show l.length - 1 - x = i by omega]
  · rw [if_neg e1, List.getElem_set]
    by_cases e2 : i = x
    · rw [if_pos e2]
      simp only [revI, List.getElem_map, List.getElem_range]
      rw [if_pos (by omega), e2]
    · rw [if_neg e2]
      simp only [revI, List.getElem_map, List.getElem_range]
      by_cases e3 : x < i ∨ l.length - 1 - i < x
      · rw [if_pos e3, if_pos (by omega)]
      · rw [if_neg e3, if_neg (by omega)]
end Go.Proofs.YtefjnnghfloddaaGreat.Abs

/- Specifications: Sort, Reverse, Rack, Loads. -/
namespace Go.Proofs.YtefjnnghfloddaaGreat.Abs
set_option linter.unusedVariables false
set_option linter.unusedSimpArgs false
set_option linter.unusedSectionVars false
theorem intsOf_map (l : List Int) : intsOf (l.map I) = some l := by
  induction l with
  | nil => rfl
  | cons x l ih => simp only [List.map_cons, intsOf, ih]; rfl
theorem F37 : F 37 = none := by kernel_rfl
theorem sort_wv {b c : Nat} {ex : Bool} {l : List Int} {m : Mem} {Q : V → Mem → Prop} (hB : At m b (l.map I) 2) (h1 : 0 < l.length) (h2 : l.length ≤ 100000) (hQ : Q (.tup []) (m.set b ⟨(l.mergeSort fun x y => decide (x ≤ y)).map I, 2⟩)) : WV (DD 37 [.sl b 0 l.length c 1 ex] m) Q := by
  have hB : m[b]? = some ⟨l.map I, 2⟩ := hB
  have : DD 37 [.sl b 0 l.length c 1 ex] m = some (.tup [], m.set b ⟨(l.mergeSort fun x y => decide (x ≤ y)).map I, 2⟩) := by
    refine D_of (n := 1) ?_
    simp only [callF, F37]
    simp [X, sortX, hB, intsOf_map, h1]
    omega
  rw [this]
  exact WV_some.2 hQ
structure RevLI (b c : Nat) (ex : Bool) (l : List Int) (m : Mem) (k : Nat) (e : Env) (m' : Mem) : Prop where
  d : ∃ i : Nat, e 0 = .sl b 0 l.length c 1 ex ∧ e 2 = I i ∧ e 3 = I ((l.length : Int) - 1 - i) ∧ 2 * i ≤ l.length ∧ l.length - i = k ∧ m' = m.set b ⟨(revI l i).map I, 2⟩
theorem reverse_wv {b c : Nat} {ex : Bool} {l : List Int} {m : Mem} {Q : V → Mem → Prop} (hB : At m b (l.map I) 2) (h1 : 0 < l.length) (h2 : l.length ≤ 100000) (hQ : Q (.tup []) (m.set b ⟨l.reverse.map I, 2⟩)) : WV (DD 38 [.sl b 0 l.length c 1 ex] m) Q := by
  have hbl := At.lt hB
  have hB0 : m[b]? = some ⟨l.map I, 2⟩ := hB
  have hm0 : m = m.set b ⟨l.map I, 2⟩ := by
    apply List.ext_getElem?
    intro i
    by_cases e : b = i
    · subst e; rw [hB0, List.getElem?_set_self hbl]
    · rw [List.getElem?_set_ne e]
  have w0 : IntKind.i64.wrap ((l.length : Int) - 1) = l.length - 1 := wrap64_in (by omega) (by omega)
  rw [e38]
  refine WV_fin ?_
  simp [r38_0, r38_1, r38_2, r38_3, c38, w0]
  refine W_loop (RevLI b c ex l m) ?_ l.length _ _ ⟨⟨0, by simp, by simp, by simp, by omega, by omega, by rw [revI_0]; exact hm0⟩⟩
  rintro k e m' ⟨⟨i, e0, e2, e3, hi, hk, rfl⟩⟩
  by_cases hlt : (i : Int) < (l.length : Int) - 1 - i
  · have hj : (l.length : Int) - 1 - i = ((l.length - 1 - i : Nat) : Int) := by omega
    have hA : At (m.set b ⟨(revI l i).map I, 2⟩) b ((revI l i).map I) 2 := At.set_self hB
    have rl : (revI l i).length = l.length := by simp [revI]
    have i1 := ia22 (b := b) (o := 0) (n := l.length) (c := c) (ex := ex) (ix := (i : Int)) (by omega) (by omega)
    have i2 := ia22 (b := b) (o := 0) (n := l.length) (c := c) (ex := ex) (ix := ((l.length - 1 - i : Nat) : Int)) (by omega) (by omega)
    simp only [Int.toNat_natCast, Nat.zero_add] at i1 i2
    have l1 := lc_ints hA (by decide) (o := i) (by omega)
    have l2 := lc_ints hA (by decide) (o := l.length - 1 - i) (by omega)
    rw [revI_at _ _ _ (by omega), if_neg (by omega)] at l1 l2
    have s1 := sc_ints (x := l.getD (l.length - 1 - i) 0) hA (o := i) (by omega)
    rw [List.set_set] at s1
    have hA2 : At (m.set b ⟨((revI l i).set i (l.getD (l.length - 1 - i) 0)).map I, 2⟩) b (((revI l i).set i (l.getD (l.length - 1 - i) 0)).map I) 2 := At.set_self hB
    have s2 := sc_ints (x := l.getD i 0) hA2 (o := l.length - 1 - i) (by rw [List.length_set]; omega)
    rw [List.set_set, revI_step l i (by omega)] at s2
    have w1 : IntKind.i64.wrap ((i : Int) + 1) = (i + 1 : Nat) := by rw [wrap64_in (by omega) (by omega)]; omega
    have w2 : IntKind.i64.wrap (((l.length - 1 - i : Nat) : Int) - 1) = (l.length : Int) - 1 - (i + 1 : Nat) := by rw [wrap64_in (by omega) (by omega)]; omega
    rw [hj] at e3 hlt
    have hlt' : i < l.length - 1 - i := by omega
    simp [l38_4, r38_0, r38_1, r38_2, r38_3, c38, e0, e2, e3, hlt', i1, i2, l1, l2, s1, s2, w1, w2, -List.getD_eq_getElem?_getD, -Int.natCast_add, -List.map_set]
    refine ⟨l.length - (i + 1), by omega, ⟨i + 1, by simp [e0], by simp, by simp, by omega, by omega, rfl⟩⟩
  · have hend := revI_end l i (by omega)
    rw [hend]
    simp [l38_4, r38_0, r38_1, r38_2, r38_3, c38, e2, e3, hlt, packV]
    simpa [List.map_reverse] using hQ
structure RackI (racks : List Int) (v : Int) (i bb : Nat) (m0 : Mem) (k : Nat) (e : Env) (m' : Mem) : Prop where
  d : ∃ r : Nat, e 1 = I (v - psum racks r) ∧ e 2 = .ptr bb 0 ∧ e 5 = I r ∧ r ≤ i ∧ i - r = k
  m : m' = m0
theorem rack_wv {p n N d wd : Int} {vm gv sv rv : V} {racks : List Int} {x : Int × Int} {k i : Nat} {m : Mem} {Q : V → Mem → Prop} (hc : ([vm, gv, sv].all V.isCell) = true) (hr : Ints m rv racks) (hk : RkOk racks) (hn : IsNode racks k i x) (hQ : ∀ m', Pre m m' → Q (I i) m') : WV (DD 70 [.agg (gcells p n vm N gv d sv rv wd), I x.1] m) Q := by
  have hrc := hr.cell
  simp at hc
  obtain ⟨h1, h2, h3⟩ := hc
  have hall : ((gcells p n vm N gv d sv rv wd).all V.isCell) = true := by simp [h1, h2, h3, hrc]
  obtain ⟨rfl, hi, hki⟩ := hn
  have hl2 := hk.l2
  rw [e70]
  refine WV_fin ?_
  have hp0 := List.prefix_append m ([⟨gcells p n vm N gv d sv rv wd, 2⟩] : Mem)
  have hA := At.new1 m (gcells p n vm N gv d sv rv wd) 2
  simp only [r70_0, r70_1, r70_2, r70_3, r70_4, r70_6, c70, box12 hall]
  simp [r70_0, r70_1, r70_2, r70_3, r70_4, r70_6, c70, box12 hall, h1, h2, h3, hrc]
  generalize hm : m ++ [⟨gcells p n vm N gv d sv rv wd, 2⟩] = m0 at *
  have hr0 := hr.pre hp0
  obtain ⟨c0, c1, c2', c3, c4, c5, c6, c7, c8⟩ := box_la9g hA
  have hp00 : psum racks 0 = 0 := rfl
  refine W_loop (RackI racks (psum racks i + k) i m.length m0) ?_ i _ _ ⟨⟨0, by simp [hp00], by simp, by simp, by omega, by omega⟩, rfl⟩
  rintro kq e m' ⟨⟨r, e1, e2, e5, hri, hkq⟩, rfl⟩
  obtain ⟨b1, o1, a1, a2⟩ := hr0.at (ix := r) (by omega) (by omega)
  rw [Int.toNat_natCast] at a2
  have hpe : psum racks (r + 1) = psum racks r + racks.getD r 0 := rfl
  have hpo := hk.pos r (by omega)
  have g1 := ref_hosts hk i (by omega)
  have g2 := ref_hosts hk r (by omega)
  have g3 := hk.sum (i + 1) (by omega)
  have g4 : psum racks (i + 1) = psum racks i + racks.getD i 0 := rfl
  have w1 : IntKind.i64.wrap ((r : Int) + 1) = (r + 1 : Nat) := by rw [wrap64_in (by omega) (by omega)]; omega
  by_cases hlt : r < i
  · have hmono := psum_mono hk.pos (show r + 1 ≤ i by omega) (by omega)
    have hge : racks.getD r 0 ≤ psum racks i + k - psum racks r := by omega
    have w2 : IntKind.i64.wrap (psum racks i + k - psum racks r - racks.getD r 0) = psum racks i + k - psum racks (r + 1) := by rw [wrap64_in (by omega) (by omega)]; omega
    generalize racks.getD r 0 = y at *
    simp [l70_5, r70_0, r70_1, r70_2, r70_3, r70_4, r70_6, c70, e1, e2, e5, c6, a1, a2, hge, w1, w2, -Int.natCast_add]
    refine ⟨i - (r + 1), by omega, ⟨⟨r + 1, by simp, by simp [e2], by simp, by omega, rfl⟩, rfl⟩⟩
  · obtain rfl : r = i := by omega
    have hge : ¬ (racks.getD r 0 ≤ psum racks r + k - psum racks r) := by omega
    generalize racks.getD r 0 = y at *
    simp [l70_5, r70_0, r70_1, r70_2, r70_3, r70_4, r70_6, c70, e1, e2, e5, c6, a1, a2, hge]
    exact hQ m' hp0
structure LoI (racks : List Int) (M : Nat) (s N : Int) (bb bl : Nat) (m0 : Mem) (k : Nat) (e : Env) (m' : Mem) : Prop where
  d : ∃ b : Nat, e 1 = I s ∧ e 2 = .ptr bb 0 ∧ e 5 = .sl bl 0 racks.length racks.length 1 true ∧ e 6 = I b ∧ (b : Int) ≤ N ∧ (N - b).toNat = k ∧ Pre m0 m' ∧ At m' bl ((loadI racks M s b).map I) 2
structure LoA (n bl : Nat) (l0 : List Int) (m0 : Mem) (k : Nat) (e : Env) (m' : Mem) : Prop where
  d : ∃ (i : Nat) (l : List Int), e 5 = .sl bl 0 n n 1 true ∧ e 7 = I i ∧ i ≤ n ∧ n - i = k ∧ Pre m0 m' ∧ At m' bl (l.map I) 2 ∧ l.length = n ∧ l.Perm l0 ∧ DescTo l i
structure LoB (n bl i : Nat) (l0 : List Int) (m0 : Mem) (k : Nat) (e : Env) (m' : Mem) : Prop where
  d : ∃ (j : Nat) (l : List Int), e 5 = .sl bl 0 n n 1 true ∧ e 7 = I i ∧ e 8 = I j ∧ j ≤ i ∧ i - j = k ∧ Pre m0 m' ∧ At m' bl (l.map I) 2 ∧ l.length = n ∧ l.Perm l0 ∧ Mid l i j
theorem loads_wv {p n d wd s : Int} {N : Int} {vm gv sv rv : V} {racks : List Int} {m : Mem} {Q : V → Mem → Prop} (hc : ([vm, gv, sv].all V.isCell) = true) (hr : Ints m rv racks) (hk : RkOk racks) {M : Nat} (hM : IsMax racks (M : Nat)) (hN : 1 ≤ N ∧ N ≤ 64) (hs : 0 ≤ s) (hs2 : s ≤ 9223372036854775807)
    (hQ : ∀ bl m', Pre m m' → m.length ≤ bl → At m' bl ((dsc (loadI racks M s N.toNat)).map I) 2 → Q (.sl bl 0 racks.length racks.length 1 true) m') : WV (DD 39 [.agg (gcells p n vm N gv d sv rv wd), I s] m) Q := by
  have hrc := hr.cell
  have hc3 := hc
  simp at hc
  obtain ⟨h1, h2, h3⟩ := hc
  have hall : ((gcells p n vm N gv d sv rv wd).all V.isCell) = true := by simp [h1, h2, h3, hrc]
  have hl1 := hk.l1
  have hl2 := hk.l2
  rw [e39]
  refine WV_fin ?_
  have hp0 := List.prefix_append m ([⟨gcells p n vm N gv d sv rv wd, 2⟩] : Mem)
  have hA := At.new1 m (gcells p n vm N gv d sv rv wd) 2
  have hml : (m ++ ([⟨gcells p n vm N gv d sv rv wd, 2⟩] : Mem)).length = m.length + 1 := by simp
  obtain ⟨c0, c1, c2', c3, c4, c5, c6, c7, c8⟩ := box_la9g hA
  have hrl := (hr.pre hp0).len
  simp only [r39_0, r39_1, r39_2, r39_3, r39_4, r39_5, r39_7, r39_8, r39_9, r39_10, r39_11, r39_12, r39_13, r39_14, r39_15, r39_17, r39_19, c39, box12 hall]
  simp [r39_0, r39_1, r39_2, r39_3, r39_4, r39_5, r39_7, r39_8, r39_9, r39_10, r39_11, r39_12, r39_13, r39_14, r39_15, r39_17, r39_19, c39, box12 hall, h1, h2, h3, hrc, hrl, mk22 (l := (racks.length : Int)) (c := (racks.length : Int)) (by omega) (by omega) (by omega), -List.append_assoc, -List.append_cancel_left_eq]
  generalize hm : m ++ [⟨gcells p n vm N gv d sv rv wd, 2⟩] = m0 at *
  have hr0 := hr.pre hp0
  rw [← hml]
  refine W_loop (LoI racks M s N m.length m0.length m0) ?_ N.toNat _ _ ⟨⟨0, ?_, ?_, ?_, ?_, by omega, by omega, List.prefix_append _ _, ?_⟩⟩
  rotate_left
  · simp
  · simp
  · simp
  · simp
  · rw [loadI, List.map_replicate]; exact At.new1 _ _ _
  rintro kq e m' ⟨⟨b, e1, e2, e5, e6, hb, hkq, hp, hL⟩⟩
  obtain ⟨d0, d1, d2, d3, d4, d5, d6, d7, d8⟩ := box_la9g (Pre.at hp hA)
  by_cases hlt : (b : Int) < N
  · have w1 : IntKind.i64.wrap ((b : Int) + 1) = (b + 1 : Nat) := by rw [wrap64_in (by omega) (by omega)]; omega
    simp [l39_6, r39_0, r39_1, r39_2, r39_3, r39_4, r39_5, r39_7, r39_8, r39_9, r39_10, r39_11, r39_12, r39_13, r39_14, r39_15, r39_17, r39_19, c39, e1, e2, e6, d1, d2, hlt]
    refine WR_bnd (rat_wv hc3 (hr0.pre hp) hk hM hs hs2 (by omega) (by omega) fun m2 hp2 => ?_)
    obtain ⟨r1, r2, r3, kk, r4⟩ := rackE_lt hk hM s b
    simp [chkd_of hp2]
    rw [r3]
    refine WR_bnd (rack_wv hc3 ((hr0.pre hp).pre hp2) hk r4 fun m3 hp3 => ?_)
    have hL3 : At m3 m0.length ((loadI racks M s b).map I) 2 := Pre.at (hp2.trans hp3) hL
    generalize hri : rackE racks M s b = ri at *
    have i1 := ia22 (b := m0.length) (o := 0) (n := racks.length) (c := racks.length) (ex := true) (ix := (ri : Int)) (by omega) (by omega)
    simp only [Int.toNat_natCast, Nat.zero_add] at i1
    have l1 := lc_ints hL3 (by decide) (o := ri) (by simp; omega)
    have hmem : 0 ≤ (loadI racks M s b).getD ri 0 ∧ (loadI racks M s b).getD ri 0 ≤ b := by
      have := loadI_mem (racks := racks) (M := M) (s := s) b ((loadI racks M s b)[ri]'(by simp; omega)) (List.getElem_mem _)
      rwa [show (loadI racks M s b).getD ri 0 = (loadI racks M s b)[ri]'(by simp; omega) from by rw [List.getD_eq_getElem?_getD, List.getElem?_eq_getElem (by simp; omega)]; rfl]
    have hst := sc_ints (x := (loadI racks M s b).getD ri 0 + 1) hL3 (o := ri) (by simp; omega)
    have hinc : (loadI racks M s b).set ri ((loadI racks M s b).getD ri 0 + 1) = loadI racks M s (b + 1) := by rw [loadI, hri]; rfl
    rw [hinc] at hst
    have w2 : IntKind.i64.wrap ((loadI racks M s b).getD ri 0 + 1) = (loadI racks M s b).getD ri 0 + 1 := wrap64_in (by omega) (by omega)
    generalize (loadI racks M s b).getD ri 0 = y at *
    simp [e5, e6, i1, l1, w2, hst, w1, -Int.natCast_add]
    refine ⟨(N - (b + 1 : Nat)).toNat, by omega, ⟨b + 1, by simp [e1], by simp [e2], by simp [e5], by simp, by omega, rfl, Pre.set (hp.trans (hp2.trans hp3)) (Nat.le_refl _) _, At.set_self hL3⟩⟩
  have hbN' : N.toNat = b := by omega
  rw [hbN'] at hQ
  have hbN : (b : Int) = N := by omega
  subst hbN
  simp [l39_6, r39_0, r39_1, r39_2, r39_3, r39_4, r39_5, r39_7, r39_8, r39_9, r39_10, r39_11, r39_12, r39_13, r39_14, r39_15, r39_17, r39_19, c39, e2, e6, d2, hlt]
  generalize hl0 : loadI racks M s b = l0 at *
  have hl0l : l0.length = racks.length := by rw [← hl0]; simp
  refine W_loop (LoA racks.length m0.length l0 m0) ?_ racks.length _ _ ⟨⟨0, l0, ?_, ?_, by omega, by omega, hp, hL, hl0l, List.Perm.refl _, fun a b _ h => by omega⟩⟩
  rotate_left
  · simp [e5]
  · simp
  clear e1 e2 e5 e6 hL hp d0 d1 d2 d3 d4 d5 d6 d7 d8 hkq hb hlt
  rintro kq e m' ⟨⟨i, l, e5, e7, hi, hkq, hp, hL, hll, hperm, hdesc⟩⟩
  by_cases hlt : i < racks.length
  · simp [l39_18, r39_0, r39_1, r39_2, r39_3, r39_4, r39_5, r39_7, r39_8, r39_9, r39_10, r39_11, r39_12, r39_13, r39_14, r39_15, r39_17, r39_19, c39, e5, e7, hlt]
    refine W_loop (LoB racks.length m0.length i l0 m0) ?_ i _ _ ⟨⟨0, l, ?_, ?_, ?_, by omega, by omega, hp, hL, hll, hperm, hdesc, fun a h => by omega⟩⟩
    rotate_left
    · simp [e5]
    · simp [e7]
    · simp
    clear e5 e7 hL hp hperm hdesc hll
    rintro kq2 e m' ⟨⟨j, l, e5, e7, e8, hj, hkq2, hp, hL, hll, hperm, hmid⟩⟩
    by_cases hlj : j < i
    · have i1 := ia22 (b := m0.length) (o := 0) (n := racks.length) (c := racks.length) (ex := true) (ix := (i : Int)) (by omega) (by omega)
      have i2 := ia22 (b := m0.length) (o := 0) (n := racks.length) (c := racks.length) (ex := true) (ix := (j : Int)) (by omega) (by omega)
      simp only [Int.toNat_natCast, Nat.zero_add] at i1 i2
      have k1 := lc_ints hL (by decide) (o := i) (by omega)
      have k2 := lc_ints hL (by decide) (o := j) (by omega)
      have w1 : IntKind.i64.wrap ((j : Int) + 1) = (j + 1 : Nat) := by rw [wrap64_in (by omega) (by omega)]; omega
      have s1 := sc_ints (x := l.getD j 0) hL (o := i) (by omega)
      have hL2 : At (m'.set m0.length ⟨(l.set i (l.getD j 0)).map I, 2⟩) m0.length ((l.set i (l.getD j 0)).map I) 2 := At.set_self hL
      have s2 := sc_ints (x := l.getD i 0) hL2 (o := j) (by rw [List.length_set]; omega)
      rw [List.set_set, show (l.set i (l.getD j 0)).set j (l.getD i 0) = swp l i j from rfl] at s2
      by_cases hgt : l.getD j 0 < l.getD i 0
      · have hm2 := mid_step1 (by omega) hlj hmid hgt
        simp [l39_16, r39_0, r39_1, r39_2, r39_3, r39_4, r39_5, r39_7, r39_8, r39_9, r39_10, r39_11, r39_12, r39_13, r39_14, r39_15, r39_17, r39_19, c39, e5, e7, e8, hlj, i1, i2, k1, k2, hgt, s1, s2, w1, -List.getD_eq_getElem?_getD, -Int.natCast_add, -List.map_set]
        refine ⟨i - (j + 1), by omega, ⟨j + 1, swp l i j, by simp [e5], by simp [e7], by simp, by omega, rfl, Pre.set hp (Nat.le_refl _) _, At.set_self hL, by simp [hll], (swp_perm (by omega) (by omega)).trans hperm, hm2⟩⟩
      · have hm2 := mid_step2 hmid hgt
        simp [l39_16, r39_0, r39_1, r39_2, r39_3, r39_4, r39_5, r39_7, r39_8, r39_9, r39_10, r39_11, r39_12, r39_13, r39_14, r39_15, r39_17, r39_19, c39, e5, e7, e8, hlj, i1, i2, k1, k2, hgt, w1, -List.getD_eq_getElem?_getD, -Int.natCast_add]
        refine ⟨i - (j + 1), by omega, ⟨j + 1, l, by simp [e5], by simp [e7], by simp, by omega, rfl, hp, hL, hll, hperm, hm2⟩⟩
    · obtain rfl : j = i := by omega
      have w1 : IntKind.i64.wrap ((j : Int) + 1) = (j + 1 : Nat) := by rw [wrap64_in (by omega) (by omega)]; omega
      simp [l39_16, r39_0, r39_1, r39_2, r39_3, r39_4, r39_5, r39_7, r39_8, r39_9, r39_10, r39_11, r39_12, r39_13, r39_14, r39_15, r39_17, r39_19, c39, e7, e8, w1, -Int.natCast_add]
      refine ⟨racks.length - (j + 1), by omega, ⟨j + 1, l, by simp [e5], by simp, by omega, rfl, hp, hL, hll, hperm, mid_done hmid⟩⟩
  · obtain rfl : i = racks.length := by omega
    simp [l39_18, r39_0, r39_1, r39_2, r39_3, r39_4, r39_5, r39_7, r39_8, r39_9, r39_10, r39_11, r39_12, r39_13, r39_14, r39_15, r39_17, r39_19, c39, e5, e7]
    rw [← hll] at hdesc
    have := dsc_eq (desc_of hdesc) hperm
    rw [this] at hL
    exact hQ m0.length m' (hp0.trans hp) (by omega) hL
end Go.Proofs.YtefjnnghfloddaaGreat.Abs

/- Specifications: Tolerance; the law StoreTolerates. -/
namespace Go.Proofs.YtefjnnghfloddaaGreat.Abs
set_option linter.unusedVariables false
set_option linter.unusedSimpArgs false
set_option linter.unusedSectionVars false
def toE (e N d : Int) (racks : List Int) (M : Nat) : Int × Int := if e ≠ 0 then (0, e) else ((tolI racks M N.toNat d (ringI racks M).length : Nat), 0)
structure TlI (racks : List Int) (M : Nat) (N : Nat) (d : Int) (v : V) (bb : Nat) (m0 : Mem) (k : Nat) (e : Env) (m' : Mem) : Prop where
  d : ∃ s : Nat, e 1 = .ptr bb 0 ∧ e 5 = v ∧ e 6 = I (tolI racks M N d s) ∧ e 24 = I (ringI racks M).length ∧ e 25 = I s ∧ s ≤ (ringI racks M).length ∧ (ringI racks M).length - s = k ∧ Pre m0 m'
structure TlJ (racks : List Int) (M : Nat) (N : Nat) (d : Int) (v : V) (bb bl s : Nat) (m0 : Mem) (k : Nat) (e : Env) (m' : Mem) : Prop where
  d : ∃ b : Nat, e 1 = .ptr bb 0 ∧ e 5 = v ∧ e 6 = I (tolI racks M N d s) ∧ e 7 = I s ∧ e 8 = .sl bl 0 racks.length racks.length 1 true ∧ e 24 = I (ringI racks M).length ∧ e 25 = I s ∧ e 34 = I N ∧ e 35 = I b ∧ b ≤ N ∧ N - b = k ∧ Pre m0 m' ∧ At m' bl ((loadI racks M s b).map I) 2
structure TlK (racks : List Int) (M : Nat) (N : Nat) (d : Int) (v : V) (bb bl s : Nat) (l : List Int) (m0 : Mem) (k : Nat) (e : Env) (m' : Mem) : Prop where
  d : ∃ r : Nat, e 1 = .ptr bb 0 ∧ e 5 = v ∧ e 6 = I (tolI racks M N d s) ∧ e 10 = I (psum l r) ∧ e 24 = I (ringI racks M).length ∧ e 25 = I s ∧ e 53 = .sl bl 0 racks.length racks.length 1 true ∧ e 54 = I racks.length ∧ e 55 = I r ∧ r ≤ racks.length ∧ racks.length - r = k ∧ Pre m0 m' ∧ At m' bl (l.map I) 2 ∧ ∀ i, i < r → psum l (i + 1) < d
theorem dsc_bound {racks : List Int} {M : Nat} {s : Int} {N : Nat} (hN : N ≤ 64) (i : Nat) (hi : i ≤ 64) : 0 ≤ psum (dsc (loadI racks M s N)) i ∧ psum (dsc (loadI racks M s N)) i ≤ 4096 := by
  have := psum_bound (l := dsc (loadI racks M s N)) (B := 64) (fun x hx => by
    have := loadI_mem N x ((dsc_perm _).mem_iff.1 hx); omega) (by omega) i
  omega
theorem dsc_entry {racks : List Int} {M : Nat} {s : Int} {N : Nat} (hN : N ≤ 64) (i : Nat) (hi : i < racks.length) : 0 ≤ (dsc (loadI racks M s N)).getD i 0 ∧ (dsc (loadI racks M s N)).getD i 0 ≤ 64 := by
  have hl : i < (dsc (loadI racks M s N)).length := by simpa using hi
  have h3 : (dsc (loadI racks M s N)).getD i 0 = (dsc (loadI racks M s N))[i] := by rw [List.getD_eq_getElem?_getD, List.getElem?_eq_getElem hl]; rfl
  have := loadI_mem N _ ((dsc_perm _).mem_iff.1 (List.getElem_mem hl))
  omega
theorem tolerance_wv {p n N d wd : Int} {vm gv sv rv : V} {mod : List Int} {gen sets : List (List Int)} {racks : List Int} {m : Mem} {Q : V → Mem → Prop} (hC : CfgAt m vm gv sv rv mod gen d sets racks) {M : Nat} (hM : cfgE p n mod N gen d sets racks wd = 0 → IsMax racks (M : Nat))
    (hQ : ∀ m', Pre m m' → Q (.tup [I (toE (cfgE p n mod N gen d sets racks wd) N d racks M).1, I (toE (cfgE p n mod N gen d sets racks wd) N d racks M).2]) m') : WV (DD 15 [.agg (gcells p n vm N gv d sv rv wd)] m) Q := by
  have h1 := hC.hv.cell
  have h2 := hC.hg.cell
  have h3 := hC.hs.cell
  have h4 := hC.hr.cell
  have hc3 : ([vm, gv, sv].all V.isCell) = true := by simp [h1, h2, h3]
  have hall : ((gcells p n vm N gv d sv rv wd).all V.isCell) = true := by simp [h1, h2, h3, h4]
  rw [e15]
  refine WV_fin ?_
  have hp0 := List.prefix_append m ([⟨gcells p n vm N gv d sv rv wd, 2⟩] : Mem)
  have hA := At.new1 m (gcells p n vm N gv d sv rv wd) 2
  simp only [r15_0, r15_1, r15_2, r15_3, r15_4, r15_5, r15_6, r15_7, r15_8, r15_9, r15_10, r15_11, r15_12, r15_13, r15_14, r15_16, r15_17, r15_18, r15_19, r15_20, r15_21, r15_22, r15_23, r15_24, r15_25, r15_27, r15_29, c15, box12 hall]
  simp [r15_0, r15_1, r15_2, r15_3, r15_4, r15_5, r15_6, r15_7, r15_8, r15_9, r15_10, r15_11, r15_12, r15_13, r15_14, r15_16, r15_17, r15_18, r15_19, r15_20, r15_21, r15_22, r15_23, r15_24, r15_25, r15_27, r15_29, c15, box12 hall, h1, h2, h3, h4]
  generalize hm : m ++ [⟨gcells p n vm N gv d sv rv wd, 2⟩] = m0 at *
  have hC0 := hC.pre hp0
  refine WR_bnd (checkConfig_wv hC0 fun m1 hp1 => ?_)
  generalize hE : cfgE p n mod N gen d sets racks wd = E at *
  by_cases he : E ≠ 0
  · have hQ1 := hQ m1 (hp0.trans hp1)
    rw [toE, if_pos he] at hQ1
    simp [he, packV]
    exact hQ1
  have he : E = 0 := Classical.byContradiction he
  subst he
  obtain ⟨k1, _, k3, _, _, hk, hNs⟩ := cfgE_ok hE
  obtain ⟨n1, n2⟩ := codeN k1
  have hM := hM rfl
  obtain ⟨d0, d1, d2, d3, d4, d5, d6, d7, d8⟩ := box_la9g (Pre.at hp1 hA)
  have hQ0 := fun m2 (hp2 : Pre m1 m2) => hQ m2 (hp0.trans (hp1.trans hp2))
  rw [toE, if_neg (by simp)] at hQ0
  have hr1 := (hC0.pre hp1).hr
  obtain ⟨Nn, rfl⟩ : ∃ Nn : Nat, N = Nn := ⟨N.toNat, by omega⟩
  have hd := distE_ok k3
  simp [d1]
  refine WR_bnd (ring_wv hc3 hr1 hk fun M' v m2 hp2 hM' hF => ?_)
  obtain rfl : M' = M := by have := max_uniq hM' hM; omega
  obtain ⟨g1, g2, g3⟩ := ring_one hk hM
  have hF' : ∃ bb, v = .sl bb 0 (ringI racks M').length (ringI racks M').length 2 false ∧ At m2 bb (c2 (ringI racks M')) 2 := by
    rcases hF with ⟨_, h⟩ | ⟨bb, g1', _, _, g4⟩
    · rw [h] at g1; simp at g1
    · exact ⟨bb, g1', g4⟩
  obtain ⟨bb, hv, hB⟩ := hF'
  have hA2 := Pre.at (hp1.trans hp2) hA
  have hr2 := hr1.pre hp2
  obtain ⟨f0, f1, f2, f3, f4, f5, f6, f7, f8⟩ := box_la9g hA2
  have hlen : opLen T 67 v = some (I (ringI racks M').length) := by rw [hv]; simp [opLen, T67]
  have hl1 := hk.l1
  have hl2 := hk.l2
  simp only [Int.toNat_natCast] at hQ0
  simp [f6, hr2.len, hlen]
  refine W_loop (TlI racks M' Nn d v m.length m2) ?_ (ringI racks M').length _ _ ⟨⟨0, ?_, ?_, ?_, ?_, ?_, by omega, by omega, List.prefix_refl _⟩⟩
  rotate_left
  · simp
  · simp
  · simp [tolI]
  · simp
  · simp
  clear d0 d1 d2 d3 d4 d5 d6 d7 d8 f0 f1 f2 f3 f4 f5 f6 f7 f8 hF hlen
  rintro k e m' ⟨⟨s, e1, e5, e6, e24, e25, hs, hkq, hp⟩⟩
  obtain ⟨f0, f1, f2, f3, f4, f5, f6, f7, f8⟩ := box_la9g (Pre.at hp hA2)
  have hrl := (hr2.pre hp).len
  by_cases hlt : s < (ringI racks M').length
  · simp [l15_28, r15_0, r15_1, r15_2, r15_3, r15_4, r15_5, r15_6, r15_7, r15_8, r15_9, r15_10, r15_11, r15_12, r15_13, r15_14, r15_16, r15_17, r15_18, r15_19, r15_20, r15_21, r15_22, r15_23, r15_24, r15_25, r15_27, r15_29, c15, e1, e24, e25, hlt, f2, f6, hrl, mk22 (l := (racks.length : Int)) (c := (racks.length : Int)) (by omega) (by omega) (by omega)]
    have f2' : lc (m' ++ [⟨List.replicate racks.length (I 0), 2⟩]) m.length 3 = some (I Nn) := by rw [lc_at (At.app (Pre.at hp hA2) _) (by omega)]; rfl
    simp [f2']
    have hs256 : (s : Int) ≤ 9223372036854775807 := by omega
    refine W_loop (TlJ racks M' Nn d v m.length m'.length s m2) ?_ Nn _ _ ⟨⟨0, ?_, ?_, ?_, ?_, ?_, ?_, ?_, ?_, ?_, by omega, by omega, hp.trans (List.prefix_append _ _), ?_⟩⟩
    rotate_left
    · simp [e1]
    · simp [e5]
    · simp [e6]
    · simp
    · simp
    · simp [e24]
    · simp [e25]
    · simp
    · simp
    · rw [loadI, List.map_replicate]; exact At.new1 _ _ _
    have hbl : m2.length ≤ m'.length := Pre.len hp
    generalize m'.length = bl at *
    clear e1 e5 e6 e24 e25 f0 f1 f2 f3 f4 f5 f6 f7 f8 f2' hrl hp
    rintro kq e m' ⟨⟨b, e1, e5, e6, e7, e8, e24, e25, e34, e35, hb, hkq2, hp, hL⟩⟩
    by_cases hlb : b < Nn
    · have w1 : IntKind.i64.wrap ((b : Int) + 1) = (b + 1 : Nat) := by rw [wrap64_in (by omega) (by omega)]; omega
      simp [l15_15, r15_0, r15_1, r15_2, r15_3, r15_4, r15_5, r15_6, r15_7, r15_8, r15_9, r15_10, r15_11, r15_12, r15_13, r15_14, r15_16, r15_17, r15_18, r15_19, r15_20, r15_21, r15_22, r15_23, r15_24, r15_25, r15_27, r15_29, c15, e5, e7, e34, e35, hlb]
      refine WR_bnd (at_wv hv (Pre.at hp hB) g1 g2 (by omega) hs256 (by omega) (by omega) fun m3 hp3 => ?_)
      obtain ⟨r1, r2, r3, kk, r4⟩ := rackE_lt hk hM s b
      rw [r2]
      have hL3 : At m3 bl ((loadI racks M' s b).map I) 2 := Pre.at hp3 hL
      generalize hri : rackE racks M' s b = ri at *
      have i1 := ia22 (b := bl) (o := 0) (n := racks.length) (c := racks.length) (ex := true) (ix := (ri : Int)) (by omega) (by omega)
      simp only [Int.toNat_natCast, Nat.zero_add] at i1
      have l1 := lc_ints hL3 (by decide) (o := ri) (by simp; omega)
      have hmem : 0 ≤ (loadI racks M' s b).getD ri 0 ∧ (loadI racks M' s b).getD ri 0 ≤ b := by
        have := loadI_mem (racks := racks) (M := M') (s := s) b ((loadI racks M' s b)[ri]'(by simp; omega)) (List.getElem_mem _)
        rwa [show (loadI racks M' s b).getD ri 0 = (loadI racks M' s b)[ri]'(by simp; omega) from by rw [List.getD_eq_getElem?_getD, List.getElem?_eq_getElem (by simp; omega)]; rfl]
      have hst := sc_ints (x := (loadI racks M' s b).getD ri 0 + 1) hL3 (o := ri) (by simp; omega)
      have hinc : (loadI racks M' s b).set ri ((loadI racks M' s b).getD ri 0 + 1) = loadI racks M' s (b + 1) := by rw [loadI, hri]; rfl
      rw [hinc] at hst
      have w2 : IntKind.i64.wrap ((loadI racks M' s b).getD ri 0 + 1) = (loadI racks M' s b).getD ri 0 + 1 := wrap64_in (by omega) (by omega)
      generalize (loadI racks M' s b).getD ri 0 = y at *
      simp [e8, e35, i1, l1, w2, hst, w1, -Int.natCast_add]
      refine ⟨Nn - (b + 1), by omega, ⟨b + 1, by simp [e1], by simp [e5], by simp [e6], by simp [e7], by simp [e8], by simp [e24], by simp [e25], by simp [e34], by simp, by omega, rfl, Pre.set (hp.trans hp3) hbl _, At.set_self hL3⟩⟩
    · obtain rfl : b = Nn := by omega
      have hll : (loadI racks M' s b).length = racks.length := by simp
      simp [l15_15, r15_0, r15_1, r15_2, r15_3, r15_4, r15_5, r15_6, r15_7, r15_8, r15_9, r15_10, r15_11, r15_12, r15_13, r15_14, r15_16, r15_17, r15_18, r15_19, r15_20, r15_21, r15_22, r15_23, r15_24, r15_25, r15_27, r15_29, c15, e8, e34, e35]
      rw [← hll]
      refine WR_bnd (sort_wv hL (by omega) (by omega) ?_)
      have hL4 : At (m'.set bl ⟨((loadI racks M' s b).mergeSort fun x y => decide (x ≤ y)).map I, 2⟩) bl (((loadI racks M' s b).mergeSort fun x y => decide (x ≤ y)).map I) 2 := At.set_self hL
      have hp4 : Pre m2 (m'.set bl ⟨((loadI racks M' s b).mergeSort fun x y => decide (x ≤ y)).map I, 2⟩) := Pre.set hp hbl _
      simp [e8]
      have hsl : ((loadI racks M' s b).mergeSort fun x y => decide (x ≤ y)).length = racks.length := by rw [List.length_mergeSort]; exact hll
      rw [← hsl]
      refine WR_bnd (reverse_wv hL4 (by omega) (by omega) ?_)
      rw [List.set_set, show ((loadI racks M' s b).mergeSort fun x y => decide (x ≤ y)).reverse = dsc (loadI racks M' s b) from rfl, hsl]
      have hL5 : At (m'.set bl ⟨(dsc (loadI racks M' s b)).map I, 2⟩) bl ((dsc (loadI racks M' s b)).map I) 2 := At.set_self hL
      have hp5 : Pre m2 (m'.set bl ⟨(dsc (loadI racks M' s b)).map I, 2⟩) := Pre.set hp hbl _
      have hcut := tcut_is (dsc (loadI racks M' s b)) d
      have hbd := fun i (hi : i ≤ 64) => dsc_bound (racks := racks) (M := M') (s := s) (N := b) (by omega) i hi
      have hen := fun i (hi : i < racks.length) => dsc_entry (racks := racks) (M := M') (s := s) (N := b) (by omega) i hi
      have hdl : (dsc (loadI racks M' s b)).length = racks.length := by simp
      have htol : tolI racks M' b d (s + 1) = min (tolI racks M' b d s) (tcut (dsc (loadI racks M' s b)) d) := rfl
      have htl := tolI_le racks M' b d s
      generalize dsc (loadI racks M' s b) = l at *
      generalize m'.set bl ⟨l.map I, 2⟩ = m6 at *
      simp [e8]
      refine W_loop (TlK racks M' b d v m.length bl s l m2) ?_ racks.length _ _ ⟨⟨0, ?_, ?_, ?_, ?_, ?_, ?_, ?_, ?_, ?_, by omega, by omega, hp5, hL5, fun i hi => by omega⟩⟩
      rotate_left
      · simp [e1]
      · simp [e5]
      · simp [e6]
      · simp [psum]
      · simp [e24]
      · simp [e25]
      · simp
      · simp
      · simp
      clear e1 e5 e6 e7 e8 e24 e25 e34 e35 hL hL4 hL5 hp hp4 hp5
      rintro kq3 e m' ⟨⟨r, e1, e5, e6, e10, e24, e25, e53, e54, e55, hr, hkq3, hp, hL, hall3⟩⟩
      obtain ⟨f0, f1, f2, f3, f4, f5, f6, f7, f8⟩ := box_la9g (Pre.at hp hA2)
      have w1 : IntKind.i64.wrap ((r : Int) + 1) = (r + 1 : Nat) := by rw [wrap64_in (by omega) (by omega)]; omega
      have w3 : IntKind.i64.wrap ((s : Int) + 1) = (s + 1 : Nat) := by rw [wrap64_in (by omega) (by omega)]; omega
      by_cases hlr : r < racks.length
      · have i1 := ia22 (b := bl) (o := 0) (n := racks.length) (c := racks.length) (ex := true) (ix := (r : Int)) (by omega) (by omega)
        simp only [Int.toNat_natCast, Nat.zero_add] at i1
        have l1 := lc_ints hL (by decide) (o := r) (by omega)
        have hb1 := hbd r (by omega)
        have hb2 := hen r hlr
        have hpe : psum l (r + 1) = psum l r + l.getD r 0 := rfl
        have w2 : IntKind.i64.wrap (psum l r + l.getD r 0) = psum l (r + 1) := by rw [hpe]; exact wrap64_in (by omega) (by omega)
        generalize l.getD r 0 = y at *
        by_cases hge : d ≤ psum l (r + 1)
        · have hu : r = tcut l d := cut_uniq ⟨by omega, hall3, .inr hge⟩
          have hmin : (if r < tolI racks M' b d s then (r : Int) else tolI racks M' b d s) = (tolI racks M' b d (s + 1) : Nat) := by rw [htol, ← hu]; split <;> omega
          simp [l15_26, r15_0, r15_1, r15_2, r15_3, r15_4, r15_5, r15_6, r15_7, r15_8, r15_9, r15_10, r15_11, r15_12, r15_13, r15_14, r15_16, r15_17, r15_18, r15_19, r15_20, r15_21, r15_22, r15_23, r15_24, r15_25, r15_27, r15_29, c15, e1, e6, e10, e25, e53, e54, e55, hlr, i1, l1, w2, f4, hge, hmin, w3, -Int.natCast_add]
          refine ⟨(ringI racks M').length - (s + 1), by omega, ⟨s + 1, by simp [e1], by simp [e5], by simp, by simp [e24], by simp, by omega, rfl, hp⟩⟩
        · simp [l15_26, r15_0, r15_1, r15_2, r15_3, r15_4, r15_5, r15_6, r15_7, r15_8, r15_9, r15_10, r15_11, r15_12, r15_13, r15_14, r15_16, r15_17, r15_18, r15_19, r15_20, r15_21, r15_22, r15_23, r15_24, r15_25, r15_27, r15_29, c15, e1, e10, e53, e54, e55, hlr, i1, l1, w1, w2, f4, hge, -Int.natCast_add]
          refine ⟨racks.length - (r + 1), by omega, ⟨r + 1, by simp [e1], by simp [e5], by simp [e6], by simp, by simp [e24], by simp [e25], by simp [e53], by simp [e54], by simp, by omega, rfl, hp, hL, fun i hi => ?_⟩⟩
          by_cases hir : i = r
          · subst hir; omega
          · exact hall3 i (by omega)
      · obtain rfl : r = racks.length := by omega
        have hu : racks.length = tcut l d := cut_uniq ⟨by omega, hall3, .inl hdl.symm⟩
        have hsame : tolI racks M' b d (s + 1) = tolI racks M' b d s := by rw [htol]; omega
        simp [l15_26, r15_0, r15_1, r15_2, r15_3, r15_4, r15_5, r15_6, r15_7, r15_8, r15_9, r15_10, r15_11, r15_12, r15_13, r15_14, r15_16, r15_17, r15_18, r15_19, r15_20, r15_21, r15_22, r15_23, r15_24, r15_25, r15_27, r15_29, c15, e25, e54, e55, w3, -Int.natCast_add]
        refine ⟨(ringI racks M').length - (s + 1), by omega, ⟨s + 1, by simp [e1], by simp [e5], by simp [e6, hsame], by simp [e24], by simp, by omega, rfl, hp⟩⟩
  · have hsl : s = (ringI racks M').length := by omega
    subst hsl
    simp [l15_28, r15_0, r15_1, r15_2, r15_3, r15_4, r15_5, r15_6, r15_7, r15_8, r15_9, r15_10, r15_11, r15_12, r15_13, r15_14, r15_16, r15_17, r15_18, r15_19, r15_20, r15_21, r15_22, r15_23, r15_24, r15_25, r15_27, r15_29, c15, e6, e24, e25, packV]
    exact hQ0 m' (hp2.trans hp)
structure TolRI (racks : List Int) (M : Nat) (N : Nat) (d : Int) (bb : Nat) (m0 : Mem) (k : Nat) (e : Env) (m' : Mem) : Prop where
  d : ∃ s : Nat, e 1 = .ptr bb 0 ∧ e 5 = I (tolI racks M N d s) ∧ e 6 = I s ∧ s ≤ (ringI racks M).length ∧ (ringI racks M).length - s = k ∧ Pre m0 m'
structure TolRK (racks : List Int) (M : Nat) (N : Nat) (d : Int) (bb bl s : Nat) (l : List Int) (m0 m3 : Mem) (k : Nat) (e : Env) (m' : Mem) : Prop where
  d : ∃ r : Nat, e 1 = .ptr bb 0 ∧ e 5 = I (tolI racks M N d s) ∧ e 6 = I s ∧ e 7 = .sl bl 0 racks.length racks.length 1 true ∧ e 8 = I (psum l r) ∧ e 9 = I r ∧ r ≤ racks.length ∧ racks.length - r = k ∧ ∀ i, i < r → psum l (i + 1) < d
  m : m' = m3
theorem rtolerance_wv {p n N d wd : Int} {vm gv sv rv : V} {mod : List Int} {gen sets : List (List Int)} {racks : List Int} {m : Mem} {Q : V → Mem → Prop} (hC : CfgAt m vm gv sv rv mod gen d sets racks) {M : Nat} (hM : cfgE p n mod N gen d sets racks wd = 0 → IsMax racks (M : Nat))
    (hQ : ∀ m', Pre m m' → Q (.tup [I (toE (cfgE p n mod N gen d sets racks wd) N d racks M).1, I (toE (cfgE p n mod N gen d sets racks wd) N d racks M).2]) m') : WV (DD 16 [.agg (gcells p n vm N gv d sv rv wd)] m) Q := by
  have h1 := hC.hv.cell
  have h2 := hC.hg.cell
  have h3 := hC.hs.cell
  have h4 := hC.hr.cell
  have hc3 : ([vm, gv, sv].all V.isCell) = true := by simp [h1, h2, h3]
  have hall : ((gcells p n vm N gv d sv rv wd).all V.isCell) = true := by simp [h1, h2, h3, h4]
  rw [e16]
  refine WV_fin ?_
  have hp0 := List.prefix_append m ([⟨gcells p n vm N gv d sv rv wd, 2⟩] : Mem)
  have hA := At.new1 m (gcells p n vm N gv d sv rv wd) 2
  simp only [r16_0, r16_1, r16_2, r16_3, r16_4, r16_5, r16_6, r16_7, r16_8, r16_9, r16_10, r16_11, r16_12, r16_14, r16_15, r16_17, c16, box12 hall]
  simp [r16_0, r16_1, r16_2, r16_3, r16_4, r16_5, r16_6, r16_7, r16_8, r16_9, r16_10, r16_11, r16_12, r16_14, r16_15, r16_17, c16, box12 hall, h1, h2, h3, h4]
  generalize hm : m ++ [⟨gcells p n vm N gv d sv rv wd, 2⟩] = m0 at *
  have hC0 := hC.pre hp0
  refine WR_bnd (rcheckConfig_wv hC0 fun m1 hp1 => ?_)
  generalize hE : cfgE p n mod N gen d sets racks wd = E at *
  by_cases he : E ≠ 0
  · have hQ1 := hQ m1 (hp0.trans hp1)
    rw [toE, if_pos he] at hQ1
    simp [he, packV]
    exact hQ1
  have he : E = 0 := Classical.byContradiction he
  subst he
  obtain ⟨k1, _, k3, _, _, hk, hNs⟩ := cfgE_ok hE
  obtain ⟨n1, n2⟩ := codeN k1
  have hM := hM rfl
  obtain ⟨d0, d1, d2, d3, d4, d5, d6, d7, d8⟩ := box_la9g (Pre.at hp1 hA)
  have hQ0 := fun m2 (hp2 : Pre m1 m2) => hQ m2 (hp0.trans (hp1.trans hp2))
  rw [toE, if_neg (by simp)] at hQ0
  have hr1 := (hC0.pre hp1).hr
  obtain ⟨Nn, rfl⟩ : ∃ Nn : Nat, N = Nn := ⟨N.toNat, by omega⟩
  have hd := distE_ok k3
  obtain ⟨g1, g2, g3⟩ := ring_one hk hM
  have hA1 := Pre.at hp1 hA
  have hl1 := hk.l1
  have hl2 := hk.l2
  simp only [Int.toNat_natCast] at hQ0
  simp [d6, hr1.len]
  refine W_loop (TolRI racks M Nn d m.length m1) ?_ (ringI racks M).length _ _ ⟨⟨0, ?_, ?_, ?_, by omega, by omega, List.prefix_refl _⟩⟩
  rotate_left
  · simp
  · simp [tolI]
  · simp
  clear d0 d1 d2 d3 d4 d5 d6 d7 d8
  rintro k e m' ⟨⟨s, e1, e5, e6, hs, hkq, hp⟩⟩
  obtain ⟨f0, f1, f2, f3, f4, f5, f6, f7, f8⟩ := box_la9g (Pre.at hp hA1)
  simp [l16_16, r16_0, r16_1, r16_2, r16_3, r16_4, r16_5, r16_6, r16_7, r16_8, r16_9, r16_10, r16_11, r16_12, r16_14, r16_15, r16_17, c16, e1, f1]
  refine WR_bnd (hosts_wv hc3 (hr1.pre hp) hl2 (ref_hosts hk) fun m2 hp2 => ?_)
  rw [← g3]
  obtain ⟨d0, d1, d2, d3, d4, d5, d6, d7, d8⟩ := box_la9g (Pre.at (hp.trans hp2) hA1)
  by_cases hlt : s < (ringI racks M).length
  · simp [e1, e6, hlt, d1]
    refine WR_bnd (loads_wv hc3 ((hr1.pre hp).pre hp2) hk hM ⟨n1, n2⟩ (by omega) (by omega) fun bl m3 hp3 hbl hL => ?_)
    simp only [Int.toNat_natCast] at hL
    have hcut := tcut_is (dsc (loadI racks M s Nn)) d
    have hbd := fun i (hi : i ≤ 64) => dsc_bound (racks := racks) (M := M) (s := s) (N := Nn) (by omega) i hi
    have hen := fun i (hi : i < racks.length) => dsc_entry (racks := racks) (M := M) (s := s) (N := Nn) (by omega) i hi
    have hdl : (dsc (loadI racks M s Nn)).length = racks.length := by simp
    have htol : tolI racks M Nn d (s + 1) = min (tolI racks M Nn d s) (tcut (dsc (loadI racks M s Nn)) d) := rfl
    have htl := tolI_le racks M Nn d s
    generalize dsc (loadI racks M s Nn) = l at *
    have hp13 : Pre m1 m3 := hp.trans (hp2.trans hp3)
    simp
    refine W_loop (TolRK racks M Nn d m.length bl s l m1 m3) ?_ racks.length _ _ ⟨⟨0, ?_, ?_, ?_, ?_, ?_, ?_, by omega, by omega, fun i hi => by omega⟩, rfl⟩
    rotate_left
    · simp [e1]
    · simp [e5]
    · simp [e6]
    · simp
    · simp [psum]
    · simp
    clear e1 e5 e6 f0 f1 f2 f3 f4 f5 f6 f7 f8 d0 d1 d2 d3 d4 d5 d6 d7 d8
    rintro kq3 e m'' ⟨⟨r, e1, e5, e6, e7, e8, e9, hr, hkq3, hall3⟩, rfl⟩
    obtain ⟨f0, f1, f2, f3, f4, f5, f6, f7, f8⟩ := box_la9g (Pre.at hp13 hA1)
    have w1 : IntKind.i64.wrap ((r : Int) + 1) = (r + 1 : Nat) := by rw [wrap64_in (by omega) (by omega)]; omega
    have w3 : IntKind.i64.wrap ((s : Int) + 1) = (s + 1 : Nat) := by rw [wrap64_in (by omega) (by omega)]; omega
    by_cases hlr : r < racks.length
    · have i1 := ia22 (b := bl) (o := 0) (n := racks.length) (c := racks.length) (ex := true) (ix := (r : Int)) (by omega) (by omega)
      simp only [Int.toNat_natCast, Nat.zero_add] at i1
      have l1 := lc_ints hL (by decide) (o := r) (by omega)
      have hb1 := hbd r (by omega)
      have hb2 := hen r hlr
      have hpe : psum l (r + 1) = psum l r + l.getD r 0 := rfl
      have w2 : IntKind.i64.wrap (psum l r + l.getD r 0) = psum l (r + 1) := by rw [hpe]; exact wrap64_in (by omega) (by omega)
      generalize l.getD r 0 = y at *
      by_cases hge : psum l (r + 1) < d
      · simp [l16_13, r16_0, r16_1, r16_2, r16_3, r16_4, r16_5, r16_6, r16_7, r16_8, r16_9, r16_10, r16_11, r16_12, r16_14, r16_15, r16_17, c16, e1, e7, e8, e9, hlr, i1, l1, w1, w2, f4, hge, -Int.natCast_add]
        refine ⟨racks.length - (r + 1), by omega, ⟨⟨r + 1, by simp [e1], by simp [e5], by simp [e6], by simp [e7], by simp, by simp, by omega, rfl, fun i hi => ?_⟩, rfl⟩⟩
        by_cases hir : i = r
        · subst hir; omega
        · exact hall3 i (by omega)
      · have hu : r = tcut l d := cut_uniq ⟨by omega, hall3, .inr (by omega)⟩
        have hmin : (if r < tolI racks M Nn d s then (r : Int) else tolI racks M Nn d s) = (tolI racks M Nn d (s + 1) : Nat) := by rw [htol, ← hu]; split <;> omega
        simp [l16_13, r16_0, r16_1, r16_2, r16_3, r16_4, r16_5, r16_6, r16_7, r16_8, r16_9, r16_10, r16_11, r16_12, r16_14, r16_15, r16_17, c16, e1, e5, e6, e7, e8, e9, hlr, i1, l1, w2, w3, f4, hge, hmin, -Int.natCast_add]
        refine ⟨(ringI racks M).length - (s + 1), by omega, ⟨s + 1, by simp [e1], by simp, by simp, by omega, rfl, hp13⟩⟩
    · obtain rfl : r = racks.length := by omega
      have hu : racks.length = tcut l d := cut_uniq ⟨by omega, hall3, .inl hdl.symm⟩
      have hmin : (if racks.length < tolI racks M Nn d s then (racks.length : Int) else tolI racks M Nn d s) = (tolI racks M Nn d (s + 1) : Nat) := by rw [htol, ← hu]; split <;> omega
      simp [l16_13, r16_0, r16_1, r16_2, r16_3, r16_4, r16_5, r16_6, r16_7, r16_8, r16_9, r16_10, r16_11, r16_12, r16_14, r16_15, r16_17, c16, e5, e6, e7, e9, hmin, w3, -Int.natCast_add]
      refine ⟨(ringI racks M).length - (s + 1), by omega, ⟨s + 1, by simp [e1], by simp, by simp, by omega, rfl, hp13⟩⟩
  · have hsl : s = (ringI racks M).length := by omega
    subst hsl
    simp [e5, e6, packV]
    exact hQ0 m2 (hp.trans hp2)
theorem max_of {p n N d wd : Int} {mod : List Int} {gen sets : List (List Int)} {racks : List Int} : ∃ M : Nat, cfgE p n mod N gen d sets racks wd = 0 → IsMax racks (M : Nat) := by
  by_cases h0 : cfgE p n mod N gen d sets racks wd = 0
  · obtain ⟨_, _, _, _, _, hk, _⟩ := cfgE_ok h0
    obtain ⟨x, hx⟩ := max_exists hk
    obtain ⟨y1, y2⟩ := max_le hk hx
    exact ⟨x.toNat, fun _ => by rw [Int.toNat_of_nonneg (by omega)]; exact hx⟩
  · exact ⟨0, fun h => (h0 h).elim⟩
theorem storeTolerates_wv {p n N d wd : Int} {vm gv sv rv : V} {mod : List Int} {gen sets : List (List Int)} {racks : List Int} {m : Mem} {Q : V → Mem → Prop} (h : ([vm, gv, sv, rv].all V.isCell) = true) (hl : opLen T 25 sv = some (I sets.length)) (hC : sets.length ≤ 300 → CfgAt m vm gv sv rv mod gen d sets racks)
    (hQ : ∀ m', Pre m m' → Q (.bool true) m') : WV (DD 5 [.agg (gcells p n vm N gv d sv rv wd)] m) Q := by
  have hh := h
  simp at h
  obtain ⟨h1, h2, h3, h4⟩ := h
  have hall : ((gcells p n vm N gv d sv rv wd).all V.isCell) = true := by simp [h1, h2, h3, h4]
  rw [e5]
  refine WV_fin ?_
  have hp0 := List.prefix_append m ([⟨gcells p n vm N gv d sv rv wd, 2⟩] : Mem)
  have hA := At.new1 m (gcells p n vm N gv d sv rv wd) 2
  simp only [r5_0, r5_1, r5_2, r5_3, r5_4, r5_5, c5, box12 hall]
  simp [r5_0, r5_1, r5_2, r5_3, r5_4, r5_5, c5, box12 hall, h1, h2, h3, h4]
  generalize hm : m ++ [⟨gcells p n vm N gv d sv rv wd, 2⟩] = m0 at *
  refine WR_bnd (fit_wv hh hl fun m1 hp1 => ?_)
  by_cases hfit : ¬ (sets.length ≤ 300 ∧ N ≤ 8)
  · simp [hfit]
    refine WR_bnd (alive_wv fun m2 hp2 => ?_)
    simp
    exact hQ m2 (hp0.trans (hp1.trans hp2))
  have hfit : sets.length ≤ 300 ∧ N ≤ 8 := Classical.byContradiction hfit
  have hC0 := (hC hfit.1).pre hp0
  obtain ⟨M, hM⟩ := max_of (p := p) (n := n) (N := N) (d := d) (wd := wd) (mod := mod) (gen := gen) (sets := sets) (racks := racks)
  obtain ⟨d0, d1, d2, d3, d4, d5, d6, d7, d8⟩ := box_la9g (Pre.at hp1 hA)
  simp [hfit, d1]
  refine WR_bnd (tolerance_wv (hC0.pre hp1) hM fun m2 hp2 => ?_)
  obtain ⟨f0, f1, f2, f3, f4, f5, f6, f7, f8⟩ := box_la9g (Pre.at (hp1.trans hp2) hA)
  simp [f1]
  refine WR_bnd (rtolerance_wv ((hC0.pre hp1).pre hp2) hM fun m3 hp3 => ?_)
  simp
  refine WR_bnd (alive_wv fun m4 hp4 => ?_)
  simp
  exact hQ m4 (hp0.trans (hp1.trans (hp2.trans (hp3.trans hp4))))
end Go.Proofs.YtefjnnghfloddaaGreat.Abs
