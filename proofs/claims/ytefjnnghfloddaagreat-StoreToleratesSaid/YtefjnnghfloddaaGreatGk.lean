/- A part of a proof of a law of the store, without conditions: its texts are: Sa Sb Sc Sd. -/
import Derived.Test.YtefjnnghfloddaaGreatGj
/- The ring of the nodes, in plain Lean. -/
namespace Go.Proofs.YtefjnnghfloddaaGreat.Abs
set_option linter.unusedVariables false
set_option linter.unusedSimpArgs false
set_option linter.unusedSectionVars false
structure RkOk (racks : List Int) : Prop where
  l1 : 1 ≤ racks.length
  l2 : racks.length ≤ 64
  pos : ∀ i, i < racks.length → 1 ≤ racks.getD i 0
  sum : ∀ i, i ≤ racks.length → psum racks i ≤ 256
def levI (racks : List Int) (k : Nat) : Nat → List (Int × Int)
  | 0 => []
  | i + 1 => levI racks k i ++ if (k : Int) < racks.getD i 0 then [(psum racks i + k, (i : Int))] else []
def ringI (racks : List Int) : Nat → List (Int × Int)
  | 0 => []
  | k + 1 => ringI racks k ++ levI racks k racks.length
theorem psum_mono {racks : List Int} (hp : ∀ i, i < racks.length → 1 ≤ racks.getD i 0) {a b : Nat} (h : a ≤ b) (hb : b ≤ racks.length) : psum racks a ≤ psum racks b := by
  induction h with
  | refl => exact Int.le_refl _
  | @step c _ ih =>
    have h1 := ih (by omega)
    have h2 := hp c (by omega)
    rw [psum]; omega
def IsNode (racks : List Int) (k i : Nat) (x : Int × Int) : Prop := x = (psum racks i + k, (i : Int)) ∧ i < racks.length ∧ (k : Int) < racks.getD i 0
theorem levI_mem {racks : List Int} {k : Nat} {x : Int × Int} : ∀ {n : Nat}, n ≤ racks.length → x ∈ levI racks k n → ∃ i, i < n ∧ IsNode racks k i x
  | 0, _, h => by cases h
  | n + 1, hn, h => by
    rw [levI, List.mem_append] at h
    rcases h with h | h
    · obtain ⟨i, hi, h⟩ := levI_mem (by omega) h
      exact ⟨i, by omega, h⟩
    · split at h
      · rename_i hk
        exact ⟨n, by omega, by simpa using h, by omega, hk⟩
      · cases h
theorem ringI_mem {racks : List Int} {x : Int × Int} : ∀ {K : Nat}, x ∈ ringI racks K → ∃ k i, k < K ∧ IsNode racks k i x
  | 0, h => by cases h
  | K + 1, h => by
    rw [ringI, List.mem_append] at h
    rcases h with h | h
    · obtain ⟨k, i, hk, h⟩ := ringI_mem h
      exact ⟨k, i, by omega, h⟩
    · obtain ⟨i, hi, h⟩ := levI_mem (Nat.le_refl _) h
      exact ⟨K, i, by omega, h⟩
def cntI (racks : List Int) (K : Nat) : Nat → Int
  | 0 => 0
  | i + 1 => cntI racks K i + min (racks.getD i 0) K
theorem levI_len {racks : List Int} (hp : ∀ i, i < racks.length → 1 ≤ racks.getD i 0) {k : Nat} : ∀ n, n ≤ racks.length → ((levI racks k n).length : Int) = cntI racks (k + 1) n - cntI racks k n
  | 0, _ => by simp [levI, cntI]
  | n + 1, hn => by
    have h1 := levI_len hp (k := k) n (by omega)
    rw [levI, cntI, cntI, List.length_append]
    have := hp n (by omega)
    generalize racks.getD n 0 = r at *
    split <;> simp <;> omega
theorem ringI_len {racks : List Int} (hp : ∀ i, i < racks.length → 1 ≤ racks.getD i 0) : ∀ K, ((ringI racks K).length : Int) = cntI racks K racks.length
  | 0 => by
    have : ∀ n, n ≤ racks.length → cntI racks 0 n = 0 := by
      intro n
      induction n with
      | zero => intro _; rfl
      | succ n ih => intro h; have := hp n (by omega); rw [cntI, ih (by omega)]; omega
    rw [this _ (Nat.le_refl _)]; rfl
  | K + 1 => by
    have h1 := ringI_len hp K
    have h2 := levI_len hp (k := K) racks.length (Nat.le_refl _)
    rw [ringI, List.length_append]; omega
theorem cntI_le {racks : List Int} {K : Nat} : ∀ n, cntI racks K n ≤ psum racks n
  | 0 => Int.le_refl _
  | n + 1 => by
    have := cntI_le (racks := racks) (K := K) n
    rw [cntI, psum]; omega
theorem cntI_eq {racks : List Int} {K : Nat} (h : ∀ i, i < racks.length → racks.getD i 0 ≤ K) : ∀ n, n ≤ racks.length → cntI racks K n = psum racks n
  | 0, _ => rfl
  | n + 1, hn => by
    have := cntI_eq h n (by omega)
    have := h n (by omega)
    rw [cntI, psum]; omega
theorem cntI_lt {racks : List Int} {K i : Nat} (hi : (K : Int) < racks.getD i 0) : ∀ n, i < n → cntI racks K n < psum racks n
  | 0, h => by omega
  | n + 1, h => by
    rw [cntI, psum]
    by_cases hin : i = n
    · subst hin
      have := cntI_le (racks := racks) (K := K) i
      omega
    · have := cntI_lt hi n (by omega)
      omega
def IsMax (racks : List Int) (M : Int) : Prop := (∀ i, i < racks.length → racks.getD i 0 ≤ M) ∧ ∃ i, i < racks.length ∧ racks.getD i 0 = M
theorem ring_full {racks : List Int} (hr : RkOk racks) {M : Nat} (hM : IsMax racks M) : ((ringI racks M).length : Int) = psum racks racks.length := by
  rw [ringI_len hr.pos, cntI_eq hM.1 _ (Nat.le_refl _)]
theorem ring_part {racks : List Int} (hr : RkOk racks) {M K : Nat} (hM : IsMax racks M) (hK : K < M) : ((ringI racks K).length : Int) < psum racks racks.length := by
  obtain ⟨i, hi, he⟩ := hM.2
  rw [ringI_len hr.pos]
  exact cntI_lt (i := i) (by omega) _ hi
theorem max_le {racks : List Int} (hr : RkOk racks) {M : Int} (hM : IsMax racks M) : 1 ≤ M ∧ M ≤ 256 := by
  obtain ⟨i, hi, rfl⟩ := hM.2
  refine ⟨hr.pos i hi, ?_⟩
  have h1 := hr.sum (i + 1) (by omega)
  have h2 := psum_mono hr.pos (Nat.zero_le i) (by omega)
  rw [psum] at h1
  have h3 : psum racks 0 = 0 := rfl
  omega
theorem cfgE_ok {p n : Int} {mod : List Int} {N : Int} {gen : List (List Int)} {d : Int} {sets : List (List Int)} {racks : List Int} {wd : Int} (h : cfgE p n mod N gen d sets racks wd = 0) :
    codeE p n mod N gen = 0 ∧ gen.length ≠ 0 ∧ distE ⟨p, n.toNat, mod⟩ gen N d sets = 0 ∧ 1 ≤ wd ∧ wd ≤ 16 ∧ RkOk racks ∧ N ≤ psum racks racks.length := by
  unfold cfgE at h
  split at h
  · rename_i h0; exact (h0 h).elim
  rename_i h0
  split at h
  · omega
  rename_i h1
  split at h
  · rename_i h2; exact (h2 h).elim
  rename_i h2
  split at h
  · omega
  split at h
  · omega
  rename_i h4
  split at h
  · omega
  rename_i h5
  split at h
  · omega
  rename_i h6
  simp only [not_or, not_exists, not_and] at h4 h5
  obtain ⟨a1, a2, a3, a4, a5⟩ := h4
  have hpos : ∀ i, i < racks.length → 1 ≤ racks.getD i 0 := fun i hi => by have := a5 i hi; omega
  refine ⟨Classical.byContradiction h0, h1, Classical.byContradiction h2, by omega, by omega, ⟨by omega, by omega, hpos, fun i hi => ?_⟩, by omega⟩
  cases i with
  | zero => have : psum racks 0 = 0 := rfl
            omega
  | succ i => have := h5 i (by omega)
              omega
end Go.Proofs.YtefjnnghfloddaaGreat.Abs

/- Specifications: Max, the program's ring, at. -/
namespace Go.Proofs.YtefjnnghfloddaaGreat.Abs
set_option linter.unusedVariables false
set_option linter.unusedSimpArgs false
set_option linter.unusedSectionVars false
structure MaI (l : List Int) (v : V) (m : Mem) (k : Nat) (e : Env) (m' : Mem) : Prop where
  d : ∃ (j : Nat) (x : Int), e 0 = v ∧ e 3 = I x ∧ e 4 = I j ∧ 1 ≤ j ∧ j ≤ l.length ∧ l.length - j = k ∧ (∀ i, i < j → l.getD i 0 ≤ x) ∧ ∃ i, i < j ∧ l.getD i 0 = x
  m : m' = m
theorem max_wv {v : V} {l : List Int} {m : Mem} {Q : V → Mem → Prop} (hv : Ints m v l) (h1 : 1 ≤ l.length) (h2 : l.length ≤ 100000) (hQ : ∀ x, IsMax l x → Q (I x) m) : WV (DD 66 [v] m) Q := by
  rw [e66]
  refine WV_fin ?_
  have hl := hv.len
  have q1 : ¬ ((l.length : Int) < 1) := by omega
  obtain ⟨b1, o1, a1, a2⟩ := hv.at (ix := 0) (by omega) (by omega)
  simp only [Int.toNat_zero] at a2
  simp [r66_0, r66_1, r66_2, r66_3, r66_4, r66_5, r66_6, r66_7, r66_9, c66, hl, q1, a1, a2, -List.getD_eq_getElem?_getD]
  refine W_loop (MaI l v m) ?_ (l.length - 1) _ _ ⟨⟨1, l.getD 0 0, by simp, by simp [-List.getD_eq_getElem?_getD], by simp, by omega, by omega, by omega, fun i hi => by rw [show i = 0 by omega]; exact Int.le_refl _, 0, by omega, rfl⟩, rfl⟩
  rintro k e m' ⟨⟨j, x, e0, e3, e4, hj1, hj, hk, hx, i0, hi0, hx0⟩, rfl⟩
  have w1 : IntKind.i64.wrap ((j : Int) + 1) = (j + 1 : Nat) := by rw [wrap64_in (by omega) (by omega)]; omega
  by_cases hlt : j < l.length
  · obtain ⟨b2, o2, a3, a4⟩ := hv.at (ix := j) (by omega) (by omega)
    rw [Int.toNat_natCast] at a4
    simp [l66_8, r66_0, r66_1, r66_2, r66_3, r66_4, r66_5, r66_6, r66_7, r66_9, c66, e0, e3, e4, hl, hlt, a3, a4, w1, max_two, -List.getD_eq_getElem?_getD, -Int.natCast_add]
    refine ⟨l.length - (j + 1), by omega, ⟨⟨j + 1, if x < l.getD j 0 then l.getD j 0 else x, by simp [e0], by simp, by simp, by omega, by omega, rfl, fun i hi => ?_, ?_⟩, rfl⟩⟩
    · by_cases hij : i = j
      · subst hij; split <;> omega
      · have := hx i (by omega)
        split <;> omega
    · by_cases hb : x < l.getD j 0
      · rw [if_pos hb]; exact ⟨j, by omega, rfl⟩
      · rw [if_neg hb]; exact ⟨i0, by omega, hx0⟩
  · have hil : j = l.length := by omega
    subst hil
    simp [l66_8, r66_0, r66_1, r66_2, r66_3, r66_4, r66_5, r66_6, r66_7, r66_9, c66, e0, e3, e4, hl]
    exact hQ x ⟨hx, i0, hi0, hx0⟩
def c2 (l : List (Int × Int)) : List V := l.flatMap fun x => [I x.1, I x.2]
@[simp] theorem c2_len (l : List (Int × Int)) : (c2 l).length = l.length * 2 := by
  induction l with
  | nil => rfl
  | cons x l ih => simp [c2] at ih ⊢; omega
theorem c2_app (l k : List (Int × Int)) : c2 (l ++ k) = c2 l ++ c2 k := by simp [c2]
def Fresh2 (m0 m : Mem) (v : V) (l : List (Int × Int)) : Prop := (v = .nils ∧ l = []) ∨ ∃ b, v = .sl b 0 l.length l.length 2 false ∧ l ≠ [] ∧ m0.length ≤ b ∧ At m b (c2 l) 2
theorem append67 {m0 m : Mem} {s : V} {l : List (Int × Int)} {x y : Int} (hs : Fresh2 m0 m s l) (h0 : Pre m0 m) (hl : l.length < 1000000) :
    ∃ v' m', opAppend T 67 67 s (.sl m.length 0 1 1 2 true) (m ++ [⟨[I x, I y], 2⟩]) = some (v', m') ∧ Fresh2 m0 m' v' (l ++ [(x, y)]) ∧ Pre m0 m' := by
  have hA := At.new1 m [I x, I y] 2
  have hA : (m ++ [⟨[I x, I y], 2⟩])[m.length]? = some ⟨[I x, I y], 2⟩ := hA
  rcases hs with ⟨rfl, rfl⟩ | ⟨b, rfl, hne, hb, hB⟩
  · refine ⟨.sl (m.length + 1) 0 1 1 2 false, m ++ [⟨[I x, I y], 2⟩] ++ [⟨[I x, I y], 2⟩], ?_, .inr ⟨m.length + 1, rfl, by simp, by have := h0.len; omega, ?_⟩, (h0.app _).app _⟩
    · simp [opAppend, T67, T65, V.len, sliceCells, hA, fitsIn]
    · simp [At, c2]
  · have hbl := At.lt hB
    have hB1 : (m ++ [⟨[I x, I y], 2⟩])[b]? = some ⟨c2 l, 2⟩ := At.app hB _
    have hl0 : l.length ≠ 0 := by simpa using hne
    refine ⟨.sl (m.length + 1) 0 (l.length + 1) (l.length + 1) 2 false, (m ++ ([⟨[I x, I y], 2⟩] : Mem)).set b ⟨[], 0⟩ ++ ([⟨c2 l ++ [I x, I y], 2⟩] : Mem), ?_, .inr ⟨m.length + 1, by simp, by simp, by have := h0.len; omega, ?_⟩, ((h0.app _).set hb _).app _⟩
    · simp [opAppend, T67, T65, V.len, sliceCells, hA, hB1, hl0, fitsIn, List.take_of_length_le]
      rw [if_neg (by omega), if_pos (by omega)]
    · rw [c2_app]
      simp [At, c2]
theorem build65 (x y : Int) : opBuild T 65 [(0, I x), (1, I y)] = some (.agg [I x, I y]) := by
  simp [opBuild, T65, T3, placeOf, fillA, put, V.cells]
theorem lit67 (x y : Int) (m : Mem) : opBuildSlice T 67 1 [(0, .agg [I x, I y])] m = some (.sl m.length 0 1 1 2 true, m ++ [⟨[I x, I y], 2⟩]) := by
  simp [opBuildSlice, T67, T65, T3, fillA, zeros, V.cells, put]
structure RingPI (racks : List Int) (rv : V) (M : Nat) (b : Nat) (m0 : Mem) (cs : List V) (k : Nat) (e : Env) (m' : Mem) : Prop where
  d : ∃ (j : Nat) (v : V), e 1 = .ptr b 0 ∧ e 3 = v ∧ e 10 = I M ∧ e 11 = I j ∧ j ≤ M ∧ M - j = k ∧ Pre m0 m' ∧ Fresh2 m0 m' v (ringI racks j)
structure RingPJ (racks : List Int) (rv : V) (M j : Nat) (b : Nat) (m0 : Mem) (cs : List V) (k : Nat) (e : Env) (m' : Mem) : Prop where
  d : ∃ (i : Nat) (v : V), e 1 = .ptr b 0 ∧ e 3 = v ∧ e 4 = I j ∧ e 5 = I (psum racks i) ∧ e 10 = I M ∧ e 11 = I j ∧ e 15 = rv ∧ e 16 = I racks.length ∧ e 17 = I i ∧ i ≤ racks.length ∧ racks.length - i = k ∧ Pre m0 m' ∧ Fresh2 m0 m' v (ringI racks j ++ levI racks j i)
theorem ringI_short {racks : List Int} (hr : RkOk racks) {j : Nat} : (ringI racks j).length ≤ 256 := by
  have h1 := ringI_len hr.pos j
  have h2 := cntI_le (racks := racks) (K := j) racks.length
  have h3 := hr.sum racks.length (Nat.le_refl _)
  omega
theorem levI_short {racks : List Int} {j : Nat} : ∀ i, (levI racks j i).length ≤ i
  | 0 => Nat.le_refl _
  | i + 1 => by
    have := levI_short (racks := racks) (j := j) i
    rw [levI, List.length_append]
    split <;> simp <;> omega
theorem ring_wv {p n N d wd : Int} {vm gv sv rv : V} {racks : List Int} {m : Mem} {Q : V → Mem → Prop} (hc : ([vm, gv, sv].all V.isCell) = true) (hr : Ints m rv racks) (hk : RkOk racks) (hQ : ∀ M v m', Pre m m' → IsMax racks (M : Nat) → Fresh2 m m' v (ringI racks M) → Q v m') : WV (DD 35 [.agg (gcells p n vm N gv d sv rv wd)] m) Q := by
  have hrc := hr.cell
  have hl1 := hk.l1
  have hl2 := hk.l2
  simp at hc
  obtain ⟨h1, h2, h3⟩ := hc
  have hall : ((gcells p n vm N gv d sv rv wd).all V.isCell) = true := by simp [h1, h2, h3, hrc]
  rw [e35]
  refine WV_fin ?_
  have hp0 := List.prefix_append m ([⟨gcells p n vm N gv d sv rv wd, 2⟩] : Mem)
  have hA := At.new1 m (gcells p n vm N gv d sv rv wd) 2
  have hml : m.length < (m ++ ([⟨gcells p n vm N gv d sv rv wd, 2⟩] : Mem)).length := by simp
  obtain ⟨c0, c1, c2', c3, c4, c5, c6, c7, c8⟩ := box_la9g hA
  simp only [r35_0, r35_1, r35_2, r35_3, r35_4, r35_5, r35_6, r35_7, r35_8, r35_9, r35_10, r35_11, r35_12, r35_14, r35_16, c35, box12 hall]
  simp [r35_0, r35_1, r35_2, r35_3, r35_4, r35_5, r35_6, r35_7, r35_8, r35_9, r35_10, r35_11, r35_12, r35_14, r35_16, c35, box12 hall, h1, h2, h3, hrc]
  generalize hm : m ++ [⟨gcells p n vm N gv d sv rv wd, 2⟩] = m0 at *
  have hr0 := hr.pre hp0
  refine WR_bnd (max_wv hr0 hl1 (by omega) fun M hM => ?_)
  obtain ⟨hM1, hM2⟩ := max_le hk hM
  obtain ⟨M, rfl⟩ : ∃ k : Nat, M = k := ⟨M.toNat, by omega⟩
  simp
  refine W_loop (RingPI racks rv M m.length m0 []) ?_ M _ _ ⟨⟨0, .nils, by simp, by simp, by simp, by simp, by omega, by omega, List.prefix_refl _, .inl ⟨rfl, rfl⟩⟩⟩
  rintro k e m' ⟨⟨j, v, e1, e3, e10, e11, hj, hkq, hp, hF⟩⟩
  by_cases hlt : j < M
  · obtain ⟨d0, d1, d2, d3, d4, d5, d6, d7, d8⟩ := box_la9g (Pre.at hp hA)
    have hrl := (hr0.pre hp).len
    simp [l35_15, r35_0, r35_1, r35_2, r35_3, r35_4, r35_5, r35_6, r35_7, r35_8, r35_9, r35_10, r35_11, r35_12, r35_14, r35_16, c35, e1, e10, e11, hlt, d6, hrl]
    refine W_loop (RingPJ racks rv M j m.length m0 []) ?_ racks.length _ _ ⟨⟨0, v, by simp [e1], by simp [e3], by simp, by simp [psum], by simp [e10], by simp [e11], by simp, by simp, by simp, by omega, by omega, hp, by rw [levI, List.append_nil]; exact hF⟩⟩
    clear hF e1 e3 e10 e11 d0 d1 d2 d3 d4 d5 d6 d7 d8 hrl hp
    rintro kq e m' ⟨⟨i, v, e1, e3, e4, e5, e10, e11, e15, e16, e17, hi, hkq2, hp, hF⟩⟩
    by_cases hli : i < racks.length
    · obtain ⟨b1, o1, a1, a2⟩ := (hr0.pre hp).at (ix := i) (by omega) (by omega)
      rw [Int.toNat_natCast] at a2
      have w1 : IntKind.i64.wrap ((i : Int) + 1) = (i + 1 : Nat) := by rw [wrap64_in (by omega) (by omega)]; omega
      have hs1 := hk.sum (i + 1) (by omega)
      have hs2 := psum_mono hk.pos (Nat.zero_le i) (by omega)
      have hs3 := hk.pos i hli
      have hp00 : psum racks 0 = 0 := rfl
      have hpe : psum racks (i + 1) = psum racks i + racks.getD i 0 := rfl
      have hlev : levI racks j (i + 1) = levI racks j i ++ if (j : Int) < racks.getD i 0 then [(psum racks i + j, (i : Int))] else [] := rfl
      have w2 : IntKind.i64.wrap (psum racks i + racks.getD i 0) = psum racks (i + 1) := by rw [hpe]; exact wrap64_in (by omega) (by omega)
      have w3 : IntKind.i64.wrap (psum racks i + j) = psum racks i + j := wrap64_in (by omega) (by omega)
      have hsh := ringI_short hk (j := j)
      have hsh2 := levI_short (racks := racks) (j := j) i
      generalize hrk : racks.getD i 0 = r at *
      by_cases hjr : (j : Int) < r
      · rw [if_pos hjr] at hlev
        obtain ⟨v', m2, f1, f2, f3⟩ := append67 (x := psum racks i + j) (y := i) hF hp (by rw [List.length_append]; omega)
        simp [l35_13, r35_0, r35_1, r35_2, r35_3, r35_4, r35_5, r35_6, r35_7, r35_8, r35_9, r35_10, r35_11, r35_12, r35_14, r35_16, c35, e1, e3, e4, e5, e10, e11, e15, e16, e17, hli, a1, a2, hjr, w1, w2, w3, build65, lit67, f1, -Int.natCast_add]
        refine ⟨racks.length - (i + 1), by omega, ⟨i + 1, v', by simp [e1], by simp, by simp [e4], by simp, by simp [e10], by simp [e11], by simp [e15], by simp [e16], by simp, by omega, rfl, f3, by rw [hlev, ← List.append_assoc]; exact f2⟩⟩
      · rw [if_neg hjr, List.append_nil] at hlev
        simp [l35_13, r35_0, r35_1, r35_2, r35_3, r35_4, r35_5, r35_6, r35_7, r35_8, r35_9, r35_10, r35_11, r35_12, r35_14, r35_16, c35, e1, e3, e4, e5, e10, e11, e15, e16, e17, hli, a1, a2, hjr, w1, w2, -Int.natCast_add]
        refine ⟨racks.length - (i + 1), by omega, ⟨i + 1, v, by simp [e1], by simp [e3], by simp [e4], by simp, by simp [e10], by simp [e11], by simp [e15], by simp [e16], by simp, by omega, rfl, hp, by rw [hlev]; exact hF⟩⟩
    · have hil : i = racks.length := by omega
      subst hil
      have w1 : IntKind.i64.wrap ((j : Int) + 1) = (j + 1 : Nat) := by rw [wrap64_in (by omega) (by omega)]; omega
      simp [l35_13, r35_0, r35_1, r35_2, r35_3, r35_4, r35_5, r35_6, r35_7, r35_8, r35_9, r35_10, r35_11, r35_12, r35_14, r35_16, c35, e11, e16, e17, w1, -Int.natCast_add]
      refine ⟨M - (j + 1), by omega, ⟨j + 1, v, by simp [e1], by simp [e3], by simp [e10], by simp, by omega, rfl, hp, hF⟩⟩
  · have hil : j = M := by omega
    subst hil
    simp [l35_15, r35_0, r35_1, r35_2, r35_3, r35_4, r35_5, r35_6, r35_7, r35_8, r35_9, r35_10, r35_11, r35_12, r35_14, r35_16, c35, e3, e10, e11]
    refine hQ j v m' (hp0.trans hp) hM ?_
    rcases hF with h | ⟨b, g1, g2, g3, g4⟩
    · exact .inl h
    · exact .inr ⟨b, g1, g2, by omega, g4⟩
theorem rs34 : Tryz.f34.results.toList = [.cell 6 65] := by kernel_rfl
theorem al65 (m : Mem) : opAlloc T 65 m = some (.ptr m.length 0, m ++ [⟨[I 0, I 0], 2⟩]) := by simp [opAlloc, T65]
theorem st65 {a b x y : V} (ha : a.isCell = true) (hb : b.isCell = true) {m : Mem} {k : Nat} (h : At m k [x, y] 2) : opStore T 65 (.ptr k 0) (.agg [a, b]) m = some (m.set k ⟨[a, b], 2⟩) := by
  simp only [At] at h
  simp [opStore, T65, V.cells, ha, hb, put, h]
theorem c2_get (l : List (Int × Int)) (i : Nat) (h : i < l.length) : ((c2 l).drop (i * 2)).take 2 = [I l[i].1, I l[i].2] := by
  induction l generalizing i with
  | nil => simp at h
  | cons x l ih =>
    cases i with
    | zero => rfl
    | succ i =>
      have := ih i (by simpa using h)
      rw [show (i + 1) * 2 = i * 2 + 2 by omega]
      simpa [c2] using this
theorem la65 {m : Mem} {b : Nat} {l : List (Int × Int)} (h : At m b (c2 l) 2) {i : Nat} (hi : i < l.length) : la 2 m b (i * 2) = some (.agg [I l[i].1, I l[i].2]) := by
  have := c2_get l i hi
  have hle : i * 2 + 2 ≤ (c2 l).length := by simp; omega
  simp only [At] at h
  simp [la, h, this]
  omega
def atI (s b : Int) (L : Nat) : Nat := ((s % L + b) % L).toNat
theorem atI_lt {s b : Int} {L : Nat} (hL : 1 ≤ L) : atI s b L < L := by
  have h1 := Int.emod_nonneg (s % L + b) (show (L : Int) ≠ 0 by omega)
  have h2 := Int.emod_lt_of_pos (s % L + b) (show (0 : Int) < L by omega)
  unfold atI; omega
theorem at_wv {v : V} {l : List (Int × Int)} {s b : Int} {bb : Nat} {m : Mem} {Q : V → Mem → Prop} (hv : v = .sl bb 0 l.length l.length 2 false) (hB : At m bb (c2 l) 2) (hl1 : 1 ≤ l.length) (hl2 : l.length ≤ 256) (hs : 0 ≤ s) (hs2 : s ≤ 9223372036854775807) (hb : 0 ≤ b) (hb2 : b ≤ 64)
    (hQ : ∀ m', Pre m m' → Q (.agg [I (l[atI s b l.length]'(atI_lt hl1)).1, I (l[atI s b l.length]'(atI_lt hl1)).2]) m') : WV (DD 34 [v, I s, I b] m) Q := by
  subst hv
  rw [e34]
  refine WV_fin ?_
  have hbl := At.lt hB
  have hB1 : At (m ++ [⟨[I 0, I 0], 2⟩]) bb (c2 l) 2 := At.app hB _
  have hne : (l.length : Int) ≠ 0 := by omega
  have t1 : s.tmod l.length = s % l.length := Int.tmod_eq_emod_of_nonneg hs
  have b1 := Int.emod_nonneg s hne
  have b2 := Int.emod_lt_of_pos s (show (0 : Int) < l.length by omega)
  have t2 : (s % l.length + b).tmod l.length = (s % l.length + b) % l.length := Int.tmod_eq_emod_of_nonneg (by omega)
  have b3 := Int.emod_nonneg (s % l.length + b) hne
  have b4 := Int.emod_lt_of_pos (s % l.length + b) (show (0 : Int) < l.length by omega)
  have w1 : IntKind.i64.wrap (s % l.length) = s % l.length := wrap64_in (by omega) (by omega)
  have w2 : IntKind.i64.wrap (s % l.length + b) = s % l.length + b := wrap64_in (by omega) (by omega)
  have w3 : IntKind.i64.wrap ((s % l.length + b) % l.length) = (s % l.length + b) % l.length := wrap64_in (by omega) (by omega)
  have r1 := bin_rem 3 s l.length T hne
  have r2 := bin_rem 3 (s % l.length + b) l.length T hne
  rw [t1] at r1
  rw [t2] at r2
  have hlen : opLen T 67 (.sl bb 0 l.length l.length 2 false) = some (I l.length) := by simp [opLen, T67]
  have hix := index_sl T67 rfl T65 rfl (b := bb) (o := 0) (n := l.length) (c := l.length) (z := 2) (ex := false) (k := .i64) (ix := (s % l.length + b) % l.length) b3 b4
  rw [show 0 + ((s % l.length + b) % l.length).toNat * 2 = atI s b l.length * 2 by rw [Nat.zero_add]; rfl] at hix
  have hla := la65 hB1 (atI_lt (s := s) (b := b) hl1)
  have hst := st65 (a := I (l[atI s b l.length]'(atI_lt hl1)).1) (b := I (l[atI s b l.length]'(atI_lt hl1)).2) (by simp) (by simp) (At.new1 m [I 0, I 0] 2)
  simp only [List.set_append_right _ _ (Nat.le_refl m.length)] at hst
  clear w1 w3 t1 t2 b1 b2
  generalize (s % (l.length : Int) + b) % (l.length : Int) = q at *
  generalize s % (l.length : Int) = sq at *
  simp [r34_0, r34_1, c34, al65, hlen, r1, r2, w2, hix, hla, hst, rs34, resVs, resV, packV, -la_app]
  exact hQ _ (List.prefix_append _ _)
end Go.Proofs.YtefjnnghfloddaaGreat.Abs

/- Specifications: the reference's ring; Place. -/
namespace Go.Proofs.YtefjnnghfloddaaGreat.Abs
set_option linter.unusedVariables false
set_option linter.unusedSimpArgs false
set_option linter.unusedSectionVars false
def fsts (l : List (Int × Int)) : List Int := l.map (·.1)
structure RingRI (racks : List Int) (rv : V) (M : Nat) (b : Nat) (m0 : Mem) (k : Nat) (e : Env) (m' : Mem) : Prop where
  d : ∃ (j : Nat) (v : V), e 1 = .ptr b 0 ∧ e 3 = v ∧ e 4 = I j ∧ j ≤ M ∧ M - j = k ∧ Pre m0 m' ∧ FreshA m0 m' v (fsts (ringI racks j))
structure RingRJ (racks : List Int) (rv : V) (M j : Nat) (b : Nat) (m0 : Mem) (k : Nat) (e : Env) (m' : Mem) : Prop where
  d : ∃ (i : Nat) (v : V), e 1 = .ptr b 0 ∧ e 3 = v ∧ e 4 = I j ∧ e 5 = I (psum racks i) ∧ e 6 = I i ∧ i ≤ racks.length ∧ racks.length - i = k ∧ Pre m0 m' ∧ FreshA m0 m' v (fsts (ringI racks j ++ levI racks j i))
theorem ref_hosts {racks : List Int} (hk : RkOk racks) : ∀ i, i ≤ racks.length → 0 ≤ psum racks i ∧ psum racks i ≤ 256 := fun i hi => by
  have h2 := psum_mono hk.pos (Nat.zero_le i) hi
  have hp00 : psum racks 0 = 0 := rfl
  exact ⟨by omega, hk.sum i hi⟩
theorem rring_wv {p n N d wd : Int} {vm gv sv rv : V} {racks : List Int} {m : Mem} {Q : V → Mem → Prop} (hc : ([vm, gv, sv].all V.isCell) = true) (hr : Ints m rv racks) (hk : RkOk racks) {M : Nat} (hM : IsMax racks (M : Nat)) (hQ : ∀ v m', Pre m m' → FreshA m m' v (fsts (ringI racks M)) → Q v m') : WV (DD 67 [.agg (gcells p n vm N gv d sv rv wd)] m) Q := by
  have hrc := hr.cell
  have hl1 := hk.l1
  have hl2 := hk.l2
  have hc3 := hc
  simp at hc
  obtain ⟨h1, h2, h3⟩ := hc
  have hall : ((gcells p n vm N gv d sv rv wd).all V.isCell) = true := by simp [h1, h2, h3, hrc]
  obtain ⟨hM1, hM2⟩ := max_le hk hM
  rw [e67]
  refine WV_fin ?_
  have hp0 := List.prefix_append m ([⟨gcells p n vm N gv d sv rv wd, 2⟩] : Mem)
  have hA := At.new1 m (gcells p n vm N gv d sv rv wd) 2
  have hml : (m ++ ([⟨gcells p n vm N gv d sv rv wd, 2⟩] : Mem)).length = m.length + 1 := by simp
  simp only [r67_0, r67_1, r67_2, r67_3, r67_4, r67_5, r67_6, r67_7, r67_8, r67_9, r67_10, r67_12, r67_14, c67, box12 hall]
  simp [r67_0, r67_1, r67_2, r67_3, r67_4, r67_5, r67_6, r67_7, r67_8, r67_9, r67_10, r67_12, r67_14, c67, box12 hall, h1, h2, h3, hrc, -List.append_assoc, -List.append_cancel_left_eq]
  generalize hm : m ++ [⟨gcells p n vm N gv d sv rv wd, 2⟩] = m0 at *
  have hr0 := hr.pre hp0
  rw [← hml]
  refine W_loop (RingRI racks rv M m.length m0) ?_ M _ _ ⟨⟨0, .sl m0.length 0 0 0 1 true, by simp, by simp, by simp, by omega, by omega, List.prefix_append _ _, FreshV.lit0 m0 m0 (List.prefix_refl _)⟩⟩
  rintro k e m' ⟨⟨j, v, e1, e3, e4, hj, hkq, hp, hF⟩⟩
  obtain ⟨d0, d1, d2, d3, d4, d5, d6, d7, d8⟩ := box_la9g (Pre.at hp hA)
  have hvl := hF.ints.len
  simp [l67_13, r67_0, r67_1, r67_2, r67_3, r67_4, r67_5, r67_6, r67_7, r67_8, r67_9, r67_10, r67_12, r67_14, c67, e1, e3, d1, hvl]
  refine WR_bnd (hosts_wv hc3 (hr0.pre hp) hl2 (ref_hosts hk) fun m2 hp2 => ?_)
  have hp02 := hp.trans hp2
  have hF2 : FreshA m0 m2 v (fsts (ringI racks j)) := by
    rcases hF with h | ⟨b, ex, g1, g2, g3⟩
    · exact .inl h
    · exact .inr ⟨b, ex, g1, g2, Pre.at hp2 g3⟩
  clear hF d0 d1 d2 d3 d4 d5 d6 d7 d8
  by_cases hlt : j < M
  · have hpart := ring_part hk hM hlt
    have hpart' : ((fsts (ringI racks j)).length : Int) < psum racks racks.length := by simpa [fsts] using hpart
    simp [hpart', e4]
    refine W_loop (RingRJ racks rv M j m.length m0) ?_ racks.length _ _ ⟨⟨0, v, ?_, ?_, ?_, ?_, ?_, by omega, by omega, hp02, by rw [levI, List.append_nil]; exact hF2⟩⟩
    rotate_left
    · simp [e1]
    · simp [e3]
    · simp [e4]
    · simp [psum]
    · simp
    clear hF2 e1 e3 e4 hp hp2 hp02 hpart hpart' hvl
    rintro kq e m' ⟨⟨i, v, e1, e3, e4, e5, e6, hi, hkq2, hp, hF⟩⟩
    obtain ⟨d0, d1, d2, d3, d4, d5, d6, d7, d8⟩ := box_la9g (Pre.at hp hA)
    have hrl := (hr0.pre hp).len
    by_cases hli : i < racks.length
    · obtain ⟨b1, o1, a1, a2⟩ := (hr0.pre hp).at (ix := i) (by omega) (by omega)
      rw [Int.toNat_natCast] at a2
      have w1 : IntKind.i64.wrap ((i : Int) + 1) = (i + 1 : Nat) := by rw [wrap64_in (by omega) (by omega)]; omega
      have hs1 := hk.sum (i + 1) (by omega)
      have hs2 := psum_mono hk.pos (Nat.zero_le i) (by omega)
      have hs3 := hk.pos i hli
      have hp00 : psum racks 0 = 0 := rfl
      have hpe : psum racks (i + 1) = psum racks i + racks.getD i 0 := rfl
      have hlev : levI racks j (i + 1) = levI racks j i ++ if (j : Int) < racks.getD i 0 then [(psum racks i + j, (i : Int))] else [] := rfl
      have w2 : IntKind.i64.wrap (psum racks i + racks.getD i 0) = psum racks (i + 1) := by rw [hpe]; exact wrap64_in (by omega) (by omega)
      have w3 : IntKind.i64.wrap (psum racks i + j) = psum racks i + j := wrap64_in (by omega) (by omega)
      have hsh := ringI_short hk (j := j)
      have hsh2 := levI_short (racks := racks) (j := j) i
      by_cases hjr : (j : Int) < racks.getD i 0
      · rw [if_pos hjr] at hlev
        obtain ⟨v', m2, f1, f2, f3, _⟩ := append22 (x := psum racks i + j) hF hp (by rw [fsts, List.length_map, List.length_append]; omega)
        obtain ⟨d0', d1', d2', d3', d4', d5', d6', d7', d8'⟩ := box_la9g (Pre.at f3 hA)
        obtain ⟨b2, o2, a3, a4⟩ := (hr0.pre f3).at (ix := i) (by omega) (by omega)
        rw [Int.toNat_natCast] at a4
        obtain ⟨rfl, rfl⟩ : b1 = b2 ∧ o1 = o2 := by
          have := Option.some.inj (a1.symm.trans a3)
          injection this with q1 q2
          exact ⟨q1, q2⟩
        generalize hrk : racks.getD i 0 = r at *
        simp [l67_11, r67_0, r67_1, r67_2, r67_3, r67_4, r67_5, r67_6, r67_7, r67_8, r67_9, r67_10, r67_12, r67_14, c67, e1, e3, e4, e5, e6, hli, hrl, d6, d6', a1, a2, a4, hjr, w1, w2, w3, lit22, f1, -Int.natCast_add]
        refine ⟨racks.length - (i + 1), by omega, ⟨i + 1, v', by simp [e1], by simp, by simp [e4], by simp, by simp, by omega, rfl, f3, by rw [hlev, ← List.append_assoc]; rw [fsts, List.map_append]; exact f2⟩⟩
      · rw [if_neg hjr, List.append_nil] at hlev
        generalize hrk : racks.getD i 0 = r at *
        simp [l67_11, r67_0, r67_1, r67_2, r67_3, r67_4, r67_5, r67_6, r67_7, r67_8, r67_9, r67_10, r67_12, r67_14, c67, e1, e3, e4, e5, e6, hli, hrl, d6, a1, a2, hjr, w1, w2, -Int.natCast_add]
        refine ⟨racks.length - (i + 1), by omega, ⟨i + 1, v, by simp [e1], by simp [e3], by simp [e4], by simp, by simp, by omega, rfl, hp, by rw [hlev]; exact hF⟩⟩
    · have hil : i = racks.length := by omega
      subst hil
      have w1 : IntKind.i64.wrap ((j : Int) + 1) = (j + 1 : Nat) := by rw [wrap64_in (by omega) (by omega)]; omega
      simp [l67_11, r67_0, r67_1, r67_2, r67_3, r67_4, r67_5, r67_6, r67_7, r67_8, r67_9, r67_10, r67_12, r67_14, c67, e1, e4, e6, d6, hrl, w1, -Int.natCast_add]
      refine ⟨M - (j + 1), by omega, ⟨j + 1, v, by simp [e1], by simp [e3], by simp, by omega, rfl, hp, hF⟩⟩
  · have hil : j = M := by omega
    subst hil
    have hfull := ring_full hk hM
    have hfull' : ((fsts (ringI racks j)).length : Int) = psum racks racks.length := by simpa [fsts] using hfull
    have hn : ¬ (((fsts (ringI racks j)).length : Int) < psum racks racks.length) := by omega
    simp [hn, e3]
    refine hQ v m2 (hp0.trans hp02) ?_
    rcases hF2 with h | ⟨b, ex, g1, g2, g3⟩
    · exact .inl h
    · exact .inr ⟨b, ex, g1, by omega, g3⟩
theorem max_uniq {racks : List Int} {M M' : Int} (h : IsMax racks M) (h' : IsMax racks M') : M = M' := by
  obtain ⟨i, hi, e⟩ := h.2
  obtain ⟨j, hj, e'⟩ := h'.2
  have h1 := h.1 j hj
  have h2 := h'.1 i hi
  omega
def nodeE (racks : List Int) (M : Nat) (s b : Int) : Int := (fsts (ringI racks M)).getD (atI s b (ringI racks M).length) 0
theorem ring_one {racks : List Int} (hk : RkOk racks) {M : Nat} (hM : IsMax racks M) : 1 ≤ (ringI racks M).length ∧ (ringI racks M).length ≤ 256 ∧ ((ringI racks M).length : Int) = psum racks racks.length := by
  have h1 := ring_full hk hM
  have h2 := psum_mono hk.pos hk.l1 (Nat.le_refl _)
  have h3 := hk.pos 0 hk.l1
  have h4 : psum racks 1 = 0 + racks.getD 0 0 := rfl
  have h5 := hk.sum _ (Nat.le_refl racks.length)
  omega
theorem rat_wv {p n N d wd : Int} {vm gv sv rv : V} {racks : List Int} {s b : Int} {m : Mem} {Q : V → Mem → Prop} (hc : ([vm, gv, sv].all V.isCell) = true) (hr : Ints m rv racks) (hk : RkOk racks) {M : Nat} (hM : IsMax racks (M : Nat)) (hs : 0 ≤ s) (hs2 : s ≤ 9223372036854775807) (hb : 0 ≤ b) (hb2 : b ≤ 64)
    (hQ : ∀ m', Pre m m' → Q (I (nodeE racks M s b)) m') : WV (DD 36 [.agg (gcells p n vm N gv d sv rv wd), I s, I b] m) Q := by
  have hrc := hr.cell
  have hc3 := hc
  simp at hc
  obtain ⟨h1, h2, h3⟩ := hc
  have hall : ((gcells p n vm N gv d sv rv wd).all V.isCell) = true := by simp [h1, h2, h3, hrc]
  rw [e36]
  refine WV_fin ?_
  have hp0 := List.prefix_append m ([⟨gcells p n vm N gv d sv rv wd, 2⟩] : Mem)
  have hA := At.new1 m (gcells p n vm N gv d sv rv wd) 2
  simp only [r36_0, r36_1, r36_2, c36, box12 hall]
  simp [r36_0, r36_1, r36_2, c36, box12 hall, h1, h2, h3, hrc]
  generalize hm : m ++ [⟨gcells p n vm N gv d sv rv wd, 2⟩] = m0 at *
  have hr0 := hr.pre hp0
  refine WR_bnd (hosts_wv hc3 hr0 hk.l2 (ref_hosts hk) fun m1 hp1 => ?_)
  obtain ⟨d0, d1, d2, d3, d4, d5, d6, d7, d8⟩ := box_la9g (Pre.at hp1 hA)
  obtain ⟨g1, g2, g3⟩ := ring_one hk hM
  simp [d1]
  refine WR_bnd (rring_wv hc3 (hr0.pre hp1) hk hM fun v m2 hp2 hF => ?_)
  have hQ1 := hQ m2 (hp0.trans (hp1.trans hp2))
  rw [nodeE] at hQ1
  rw [← g3]
  have hfl : (fsts (ringI racks M)).length = (ringI racks M).length := by simp [fsts]
  have hlt := atI_lt (s := s) (b := b) g1
  generalize (ringI racks M).length = L at *
  have hne : (L : Int) ≠ 0 := by omega
  have t1 : s.tmod L = s % L := Int.tmod_eq_emod_of_nonneg hs
  have b1 := Int.emod_nonneg s hne
  have b2 := Int.emod_lt_of_pos s (show (0 : Int) < L by omega)
  have t2 : (s % L + b).tmod L = (s % L + b) % L := Int.tmod_eq_emod_of_nonneg (by omega)
  have b3 := Int.emod_nonneg (s % L + b) hne
  have b4 := Int.emod_lt_of_pos (s % L + b) (show (0 : Int) < L by omega)
  have w2 : IntKind.i64.wrap (s % L + b) = s % L + b := wrap64_in (by omega) (by omega)
  have r1 := bin_rem 3 s L T hne
  have r2 := bin_rem 3 (s % L + b) L T hne
  rw [t1] at r1
  rw [t2] at r2
  have hat : ((s % L + b) % L).toNat = atI s b L := rfl
  obtain ⟨b5, o5, a1, a2⟩ := hF.ints.at (ix := (s % L + b) % L) b3 (by rw [hfl]; exact b4)
  rw [hat] at a2
  clear t1 t2 b1 b2 hat
  generalize (s % (L : Int) + b) % (L : Int) = q at *
  generalize s % (L : Int) = sq at *
  simp [r1, r2, w2, a1, a2, -List.getD_eq_getElem?_getD]
  exact hQ1
theorem codeN {p n N : Int} {mod : List Int} {gen : List (List Int)} (h : codeE p n mod N gen = 0) : 1 ≤ N ∧ N ≤ 64 := by
  unfold codeE at h
  split at h
  · omega
  split at h
  · omega
  omega
end Go.Proofs.YtefjnnghfloddaaGreat.Abs

/- Specifications: the law StorePlaces. -/
namespace Go.Proofs.YtefjnnghfloddaaGreat.Abs
set_option linter.unusedVariables false
set_option linter.unusedSimpArgs false
set_option linter.unusedSectionVars false
theorem fit_wv {p n N d wd : Int} {vm gv sv rv : V} {L : Nat} {m : Mem} {Q : V → Mem → Prop} (h : ([vm, gv, sv, rv].all V.isCell) = true) (hl : opLen T 25 sv = some (I L)) (hQ : ∀ m', Pre m m' → Q (.bool (decide (L ≤ 300 ∧ N ≤ 8))) m') : WV (DD 12 [.agg (gcells p n vm N gv d sv rv wd)] m) Q := by
  simp at h
  obtain ⟨h1, h2, h3, h4⟩ := h
  have hall : ((gcells p n vm N gv d sv rv wd).all V.isCell) = true := by simp [h1, h2, h3, h4]
  rw [e12]
  refine WV_fin ?_
  have hp0 := List.prefix_append m ([⟨gcells p n vm N gv d sv rv wd, 2⟩] : Mem)
  have hA := At.new1 m (gcells p n vm N gv d sv rv wd) 2
  have hQ1 := hQ _ hp0
  obtain ⟨d0, d1, d2, d3, d4, d5, d6, d7, d8⟩ := box_la9g hA
  simp only [r12_0, r12_1, c12, box12 hall]
  simp [r12_0, r12_1, c12, box12 hall, h1, h2, h3, h4]
  generalize hm : m ++ [⟨gcells p n vm N gv d sv rv wd, 2⟩] = m0 at *
  by_cases hL : (L : Int) ≤ 300
  · have hL' : L ≤ 300 := by omega
    by_cases hN : N ≤ 8
    · simp [hl, hL, d2, hN]; simpa [hL', hN] using hQ1
    · simp [hl, hL, d2, hN]; simpa [hL', hN] using hQ1
  · have hL' : ¬ L ≤ 300 := by omega
    simp [hl, hL]
    simpa [hL'] using hQ1
theorem max_exists {racks : List Int} (hk : RkOk racks) : ∃ x, IsMax racks x := by
  have : ∀ n, 1 ≤ n → n ≤ racks.length → ∃ x, (∀ i, i < n → racks.getD i 0 ≤ x) ∧ ∃ i, i < n ∧ racks.getD i 0 = x := by
    intro n
    induction n with
    | zero => intro h; omega
    | succ n ih =>
      intro _ hn
      by_cases h0 : n = 0
      · subst h0
        exact ⟨racks.getD 0 0, fun i hi => by rw [show i = 0 by omega]; exact Int.le_refl _, 0, by omega, rfl⟩
      · obtain ⟨x, h1, i, hi, h2⟩ := ih (by omega) (by omega)
        by_cases hx : x < racks.getD n 0
        · refine ⟨racks.getD n 0, fun j hj => ?_, n, by omega, rfl⟩
          by_cases hjn : j = n
          · subst hjn; exact Int.le_refl _
          · have := h1 j (by omega); omega
        · refine ⟨x, fun j hj => ?_, i, by omega, h2⟩
          by_cases hjn : j = n
          · subst hjn; omega
          · exact h1 j (by omega)
  exact this _ hk.l1 (Nat.le_refl _)
end Go.Proofs.YtefjnnghfloddaaGreat.Abs
