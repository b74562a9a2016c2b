/- A part of a proof of a law of the store, without conditions: its texts are: Qg Qh Qi Qj Qk Ra Rb Xs Rc. -/
import Derived.Test.YtefjnnghfloddaaGreatGi
import Derived.Test.YtefjnnghfloddaaGreatGg
import Derived.Test.YtefjnnghfloddaaGreatGc
import Derived.ChangeSlices
import Derived.ChangeSame
import Derived.Deep.Strs
import Derived.SizedLaws
import Derived.Test.YtefjnnghfloddaaGreatGd
import Derived.Shelf.Sort.Plain
import Derived.Below
/- Specifications: binomials. -/
namespace Go.Proofs.YtefjnnghfloddaaGreat.Abs
set_option linter.unusedVariables false
set_option linter.unusedSimpArgs false
set_option linter.unusedSectionVars false
def ch : Nat → Nat → Nat
  | _, 0 => 1
  | 0, _ + 1 => 0
  | n + 1, k + 1 => ch n (k + 1) + ch n k
theorem ch_zero (n : Nat) : ch n 0 = 1 := by cases n <;> rfl
theorem ch_gt : ∀ (n k : Nat), n < k → ch n k = 0
  | 0, 0, h => by omega
  | 0, k + 1, _ => rfl
  | n + 1, 0, h => by omega
  | n + 1, k + 1, h => by rw [ch, ch_gt n (k + 1) (by omega), ch_gt n k (by omega)]
theorem ch_succ (n k : Nat) (h : 0 < k) : ch (n + 1) k = ch n k + ch n (k - 1) := by
  cases k with
  | zero => omega
  | succ k => rfl
theorem ch_le3 (k : Nat) : ch 3 k ≤ 3 := by
  match k with
  | 0 => decide
  | 1 => decide
  | 2 => decide
  | 3 => decide
  | k + 4 => rw [ch_gt 3 (k + 4) (by omega)]; omega
theorem ch_mono (n k : Nat) : ch n k ≤ ch (n + 1) k := by
  cases k with
  | zero => rw [ch_zero, ch_zero]; exact Nat.le_refl 1
  | succ k => rw [ch]; omega
theorem ch_bound : ∀ (n k : Nat), ch (n + 3) k ≤ 3 * 2 ^ n
  | 0, k => ch_le3 k
  | n + 1, 0 => by rw [ch_zero]; have := Nat.one_le_two_pow (n := n + 1); omega
  | n + 1, k + 1 => by
    have h1 := ch_bound n (k + 1)
    have h2 := ch_bound n k
    rw [show n + 1 + 3 = (n + 3) + 1 by omega, ch, Nat.pow_succ]; omega
theorem ch64 : ∀ (n k : Nat), n ≤ 64 → ch n k ≤ 6917529027641081856 := by
  intro n k h
  have h2 : ∀ d, ch (64 - d) k ≤ ch 64 k := by
    intro d
    induction d with
    | zero => exact Nat.le_refl _
    | succ d ih =>
      by_cases hd : d < 64
      · have h3 := ch_mono (64 - (d + 1)) k
        rw [show 64 - (d + 1) + 1 = 64 - d by omega] at h3
        omega
      · rw [show 64 - (d + 1) = 64 - d by omega]; exact ih
  have h3 := h2 (64 - n)
  rw [show 64 - (64 - n) = n by omega] at h3
  have h4 := ch_bound 61 k
  have h5 : 3 * 2 ^ 61 = 6917529027641081856 := by decide
  simp only [Nat.reduceAdd] at h4
  omega
def mid (n i j : Nat) : List Int := (List.range (n + 1)).map fun x => ((if j < x then ch (i + 1) x else ch i x : Nat) : Int)
def prow (n i : Nat) : List Int := (List.range (n + 1)).map fun x => (ch i x : Int)
@[simp] theorem mid_len (n i j : Nat) : (mid n i j).length = n + 1 := by simp [mid]
@[simp] theorem prow_len (n i : Nat) : (prow n i).length = n + 1 := by simp [prow]
theorem mid_start (n i : Nat) : mid n i (i + 1) = prow n i := by
  apply List.map_congr_left
  intro x _
  congr 1
  split
  · rw [ch_gt _ _ ‹_›, ch_gt _ _ (by omega)]
  · rfl
theorem mid_end (n i : Nat) : mid n i 0 = prow n (i + 1) := by
  apply List.map_congr_left
  intro x _
  congr 1
  split
  · rfl
  · rw [show x = 0 by omega, ch_zero, ch_zero]
theorem mid_at (n i j x : Nat) (h : x ≤ n) : (mid n i j).getD x 0 = ((if j < x then ch (i + 1) x else ch i x : Nat) : Int) := by
  rw [List.getD_eq_getElem?_getD, mid, List.getElem?_map, List.getElem?_range (by omega)]; rfl
theorem prow_at (n i x : Nat) (h : x ≤ n) : (prow n i).getD x 0 = (ch i x : Int) := by
  rw [List.getD_eq_getElem?_getD, prow, List.getElem?_map, List.getElem?_range (by omega)]; rfl
theorem mid_set (n i j : Nat) (hj : 0 < j) (hn : j ≤ n) : (mid n i j).set j ((ch (i + 1) j : Nat) : Int) = mid n i (j - 1) := by
  apply List.ext_getElem (by simp)
  intro x h1 h2
  simp at h1 h2
  rw [List.getElem_set]
  by_cases hx : j = x
  · subst hx
    simp only [mid, List.getElem_map, List.getElem_range, if_true]
    rw [if_pos (by omega)]
  · rw [if_neg hx]
    simp only [mid, List.getElem_map, List.getElem_range]
    congr 1
    by_cases h3 : j < x
    · rw [if_pos h3, if_pos (by omega)]
    · rw [if_neg h3, if_neg (by omega)]
theorem prow_start (n : Nat) : (List.replicate (n + 1) (0 : Int)).set 0 1 = prow n 0 := by
  apply List.ext_getElem (by simp)
  intro x h1 h2
  simp at h1 h2
  cases x with
  | zero => simp [prow, ch_zero]
  | succ x => simp [prow, ch]
structure CoI (n k0 : Nat) (m : Mem) (k : Nat) (e : Env) (m' : Mem) : Prop where
  d : ∃ i : Nat, e 0 = I n ∧ e 1 = I k0 ∧ e 5 = .sl m.length 0 (n + 1) (n + 1) 1 true ∧ e 6 = I (i + 1 : Nat) ∧ i ≤ n ∧ n - i = k ∧ m' = m ++ [⟨(prow n i).map I, 2⟩]
structure CoJ (n k0 i : Nat) (m : Mem) (k : Nat) (e : Env) (m' : Mem) : Prop where
  d : ∃ j : Nat, e 0 = I n ∧ e 1 = I k0 ∧ e 5 = .sl m.length 0 (n + 1) (n + 1) 1 true ∧ e 6 = I (i + 1 : Nat) ∧ e 7 = I j ∧ j ≤ i + 1 ∧ j = k ∧ m' = m ++ [⟨(mid n i j).map I, 2⟩]
theorem choose_wv {n k : Nat} {m : Mem} {Q : V → Mem → Prop} (hn : n ≤ 64) (hQ : ∀ m', Pre m m' → Q (I (ch n k)) m') : WV (DD 61 [I n, I k] m) Q := by
  rw [e61]
  refine WV_fin ?_
  have q1 : ¬ ((k : Int) < 0) := by omega
  rcases Nat.lt_or_ge n k with q2 | hk
  · have hQ0 := hQ m (List.prefix_refl _)
    rw [ch_gt n k q2] at hQ0
    simp [r61_0, r61_1, r61_2, r61_3, r61_4, r61_5, r61_6, r61_7, r61_8, r61_9, r61_10, r61_12, r61_14, c61, q1, q2]
    exact hQ0
  have q2 : ¬ ((n : Int) < k) := by omega
  have w0 : IntKind.i64.wrap ((n : Int) + 1) = (n + 1 : Nat) := by rw [wrap64_in (by omega) (by omega)]; omega
  have hst0 := sc_ints (m := m ++ [⟨(List.replicate (n + 1) (0 : Int)).map I, 2⟩]) (b := m.length) (o := 0) (x := 1) (At.new1 _ _ _) (by simp)
  simp only [List.map_replicate] at hst0
  have hix0 := ia22 (b := m.length) (o := 0) (n := n + 1) (c := n + 1) (ex := true) (ix := (0 : Int)) (by omega) (by omega)
  simp at hix0
  simp [r61_0, r61_1, r61_2, r61_3, r61_4, r61_5, r61_6, r61_7, r61_8, r61_9, r61_10, r61_12, r61_14, c61, q1, q2, w0, mk22 (l := ((n + 1 : Nat) : Int)) (c := ((n + 1 : Nat) : Int)) (by omega) (by omega) (by omega), hst0, hix0, -Int.natCast_add]
  refine W_loop (CoI n k m) ?_ n _ _ ⟨⟨0, by simp, by simp, by simp, by simp, by omega, by omega, by rw [← prow_start]; simp [List.map_set]⟩⟩
  rintro kq e m' ⟨⟨i, e0, e1, e5, e6, hi, hkq, rfl⟩⟩
  by_cases hlt : i < n
  · have q3 : ((i + 1 : Nat) : Int) ≤ n := by omega
    simp [l61_13, r61_0, r61_1, r61_2, r61_3, r61_4, r61_5, r61_6, r61_7, r61_8, r61_9, r61_10, r61_12, r61_14, c61, e0, e6, q3, -Int.natCast_add]
    refine W_loop (CoJ n k i m) ?_ (i + 1) _ _ ⟨⟨i + 1, by simp [e0], by simp [e1], by simp [e5], by simp [e6], by simp, by omega, rfl, by rw [mid_start]⟩⟩
    rintro kq2 e' m' ⟨⟨j, e0', e1', e5', e6', e7', hj, hkq2, rfl⟩⟩
    by_cases hj0 : 0 < j
    · have q4 : (0 : Int) < j := by omega
      have w1 : IntKind.i64.wrap ((j : Int) - 1) = (j - 1 : Nat) := by rw [wrap64_in (by omega) (by omega)]; omega
      have hA := At.new1 m ((mid n i j).map I) 2
      have i1 := ia22 (b := m.length) (o := 0) (n := n + 1) (c := n + 1) (ex := true) (ix := (j : Int)) (by omega) (by omega)
      have i2 := ia22 (b := m.length) (o := 0) (n := n + 1) (c := n + 1) (ex := true) (ix := ((j - 1 : Nat) : Int)) (by omega) (by omega)
      simp only [Int.toNat_natCast, Nat.zero_add] at i1 i2
      have l1 := lc_ints hA (by decide) (o := j) (by simp; omega)
      have l2 := lc_ints hA (by decide) (o := j - 1) (by simp; omega)
      rw [mid_at _ _ _ _ (by omega), if_neg (by omega)] at l1 l2
      have c1 := ch64 (i + 1) j (by omega)
      have hcs := ch_succ i j hj0
      have w2 : IntKind.i64.wrap ((ch i j : Int) + ch i (j - 1)) = (ch (i + 1) j : Nat) := by rw [wrap64_in (by omega) (by omega)]; omega
      have hst := sc_ints (x := ((ch (i + 1) j : Nat) : Int)) hA (o := j) (by simp; omega)
      rw [mid_set n i j hj0 (by omega)] at hst
      simp [l61_11, r61_0, r61_1, r61_2, r61_3, r61_4, r61_5, r61_6, r61_7, r61_8, r61_9, r61_10, r61_12, r61_14, c61, e5', e7', hj0, w1, i1, i2, l1, l2, w2, hst, -Int.natCast_add, -sc_app0, -lc_app0, -lc_app]
      refine ⟨j - 1, by omega, ⟨j - 1, by simp [e0'], by simp [e1'], by simp [e5'], by simp [e6'], by simp, by omega, rfl, by simp⟩⟩
    · obtain rfl : j = 0 := by omega
      have w1 : IntKind.i64.wrap (((i + 1 : Nat) : Int) + 1) = (i + 1 + 1 : Nat) := by rw [wrap64_in (by omega) (by omega)]; omega
      simp [l61_11, r61_0, r61_1, r61_2, r61_3, r61_4, r61_5, r61_6, r61_7, r61_8, r61_9, r61_10, r61_12, r61_14, c61, e6', e7', w1, -Int.natCast_add]
      refine ⟨n - (i + 1), by omega, ⟨i + 1, by simp [e0'], by simp [e1'], by simp [e5'], by simp, by omega, rfl, by rw [mid_end]⟩⟩
  · obtain rfl : i = n := by omega
    have q3 : ¬ ((i + 1 : Nat) : Int) ≤ i := by omega
    have hA := At.new1 m ((prow i i).map I) 2
    have i1 := ia22 (b := m.length) (o := 0) (n := i + 1) (c := i + 1) (ex := true) (ix := (k : Int)) (by omega) (by omega)
    simp only [Int.toNat_natCast, Nat.zero_add] at i1
    have l1 := lc_ints hA (by decide) (o := k) (by simp; omega)
    rw [prow_at _ _ _ hk] at l1
    simp [l61_13, r61_0, r61_1, r61_2, r61_3, r61_4, r61_5, r61_6, r61_7, r61_8, r61_9, r61_10, r61_12, r61_14, c61, e0, e1, e5, e6, q3, i1, l1, -Int.natCast_add, -lc_app0, -lc_app]
    exact hQ _ (List.prefix_append _ _)
theorem binom_wv {n k : Nat} {m : Mem} {Q : V → Mem → Prop} (hn : n ≤ 64) (hQ : ∀ m', Pre m m' → Q (.tup [I (ch n k), I 0]) m') : WV (DD 28 [I n, I k] m) Q := by
  rw [e28]
  refine WV_fin ?_
  have q2 : ¬ ((64 : Int) < n) := by omega
  have q3 : ¬ ((n : Int) < 0) := by omega
  simp [r28_0, r28_1, r28_2, r28_3, c28, q2, q3]
  refine WR_bnd (choose_wv hn fun m' hp => ?_)
  simp [packV]
  exact hQ m' hp
structure BiI (n k0 : Nat) (m : Mem) (k : Nat) (e : Env) (m' : Mem) : Prop where
  d : ∃ i : Nat, e 0 = I n ∧ e 1 = I k0 ∧ e 6 = .sl m.length 0 (n + 1) (n + 1) 1 true ∧ e 7 = I (i + 1 : Nat) ∧ i ≤ n ∧ n - i = k ∧ m' = m ++ [⟨(prow n i).map I, 2⟩]
structure BiJ (n k0 i : Nat) (m : Mem) (k : Nat) (e : Env) (m' : Mem) : Prop where
  d : ∃ j : Nat, e 0 = I n ∧ e 1 = I k0 ∧ e 6 = .sl m.length 0 (n + 1) (n + 1) 1 true ∧ e 7 = I (i + 1 : Nat) ∧ e 8 = I j ∧ j ≤ i + 1 ∧ j = k ∧ m' = m ++ [⟨(mid n i j).map I, 2⟩]
theorem rbinom_wv {n k : Nat} {m : Mem} {Q : V → Mem → Prop} (hn : n ≤ 64) (hQ : ∀ m', Pre m m' → Q (.tup [I (ch n k), I 0]) m') : WV (DD 65 [I n, I k] m) Q := by
  rw [e65]
  refine WV_fin ?_
  have q1 : ¬ ((k : Int) < 0) := by omega
  have q5 : ¬ ((64 : Int) < n) := by omega
  have q6 : ¬ ((n : Int) < 0) := by omega
  rcases Nat.lt_or_ge n k with q2 | hk
  · have hQ0 := hQ m (List.prefix_refl _)
    rw [ch_gt n k q2] at hQ0
    simp [r65_0, r65_1, r65_2, r65_3, r65_4, r65_5, r65_6, r65_7, r65_8, r65_9, r65_10, r65_11, r65_12, r65_14, r65_16, c65, packV, q5, q6, q1, q2]
    exact hQ0
  have q2 : ¬ ((n : Int) < k) := by omega
  have w0 : IntKind.i64.wrap ((n : Int) + 1) = (n + 1 : Nat) := by rw [wrap64_in (by omega) (by omega)]; omega
  have hst0 := sc_ints (m := m ++ [⟨(List.replicate (n + 1) (0 : Int)).map I, 2⟩]) (b := m.length) (o := 0) (x := 1) (At.new1 _ _ _) (by simp)
  simp only [List.map_replicate] at hst0
  have hix0 := ia22 (b := m.length) (o := 0) (n := n + 1) (c := n + 1) (ex := true) (ix := (0 : Int)) (by omega) (by omega)
  simp at hix0
  simp [r65_0, r65_1, r65_2, r65_3, r65_4, r65_5, r65_6, r65_7, r65_8, r65_9, r65_10, r65_11, r65_12, r65_14, r65_16, c65, packV, q5, q6, q1, q2, w0, mk22 (l := ((n + 1 : Nat) : Int)) (c := ((n + 1 : Nat) : Int)) (by omega) (by omega) (by omega), hst0, hix0, -Int.natCast_add]
  refine W_loop (BiI n k m) ?_ n _ _ ⟨⟨0, by simp, by simp, by simp, by simp, by omega, by omega, by rw [← prow_start]; simp [List.map_set]⟩⟩
  rintro kq e m' ⟨⟨i, e0, e1, e6, e7, hi, hkq, rfl⟩⟩
  by_cases hlt : i < n
  · have q3 : ((i + 1 : Nat) : Int) ≤ n := by omega
    simp [l65_15, r65_0, r65_1, r65_2, r65_3, r65_4, r65_5, r65_6, r65_7, r65_8, r65_9, r65_10, r65_11, r65_12, r65_14, r65_16, c65, e0, e7, q3, -Int.natCast_add]
    refine W_loop (BiJ n k i m) ?_ (i + 1) _ _ ⟨⟨i + 1, by simp [e0], by simp [e1], by simp [e6], by simp [e7], by simp, by omega, rfl, by rw [mid_start]⟩⟩
    rintro kq2 e' m' ⟨⟨j, e0', e1', e6', e7', e8', hj, hkq2, rfl⟩⟩
    by_cases hj0 : 0 < j
    · have q4 : (1 : Int) ≤ j := by omega
      have w1 : IntKind.i64.wrap ((j : Int) - 1) = (j - 1 : Nat) := by rw [wrap64_in (by omega) (by omega)]; omega
      have hA := At.new1 m ((mid n i j).map I) 2
      have i1 := ia22 (b := m.length) (o := 0) (n := n + 1) (c := n + 1) (ex := true) (ix := (j : Int)) (by omega) (by omega)
      have i2 := ia22 (b := m.length) (o := 0) (n := n + 1) (c := n + 1) (ex := true) (ix := ((j - 1 : Nat) : Int)) (by omega) (by omega)
      simp only [Int.toNat_natCast, Nat.zero_add] at i1 i2
      have l1 := lc_ints hA (by decide) (o := j) (by simp; omega)
      have l2 := lc_ints hA (by decide) (o := j - 1) (by simp; omega)
      rw [mid_at _ _ _ _ (by omega), if_neg (by omega)] at l1 l2
      have c1 := ch64 (i + 1) j (by omega)
      have hcs := ch_succ i j hj0
      have w2 : IntKind.i64.wrap ((ch i j : Int) + ch i (j - 1)) = (ch (i + 1) j : Nat) := by rw [wrap64_in (by omega) (by omega)]; omega
      have hst := sc_ints (x := ((ch (i + 1) j : Nat) : Int)) hA (o := j) (by simp; omega)
      rw [mid_set n i j hj0 (by omega)] at hst
      simp [l65_13, r65_0, r65_1, r65_2, r65_3, r65_4, r65_5, r65_6, r65_7, r65_8, r65_9, r65_10, r65_11, r65_12, r65_14, r65_16, c65, e6', e8', q4, w1, i1, i2, l1, l2, w2, hst, -Int.natCast_add, -sc_app0, -lc_app0, -lc_app]
      refine ⟨j - 1, by omega, ⟨j - 1, by simp [e0'], by simp [e1'], by simp [e6'], by simp [e7'], by simp, by omega, rfl, by simp⟩⟩
    · obtain rfl : j = 0 := by omega
      have q4 : ¬ ((1 : Int) ≤ 0) := by omega
      have w1 : IntKind.i64.wrap (((i + 1 : Nat) : Int) + 1) = (i + 1 + 1 : Nat) := by rw [wrap64_in (by omega) (by omega)]; omega
      simp [l65_13, r65_0, r65_1, r65_2, r65_3, r65_4, r65_5, r65_6, r65_7, r65_8, r65_9, r65_10, r65_11, r65_12, r65_14, r65_16, c65, e7', e8', w1, -Int.natCast_add]
      refine ⟨n - (i + 1), by omega, ⟨i + 1, by simp [e0'], by simp [e1'], by simp [e6'], by simp, by omega, rfl, by rw [mid_end]⟩⟩
  · obtain rfl : i = n := by omega
    have q3 : ¬ ((i + 1 : Nat) : Int) ≤ i := by omega
    have hA := At.new1 m ((prow i i).map I) 2
    have i1 := ia22 (b := m.length) (o := 0) (n := i + 1) (c := i + 1) (ex := true) (ix := (k : Int)) (by omega) (by omega)
    simp only [Int.toNat_natCast, Nat.zero_add] at i1
    have l1 := lc_ints hA (by decide) (o := k) (by simp; omega)
    rw [prow_at _ _ _ hk] at l1
    simp [l65_15, r65_0, r65_1, r65_2, r65_3, r65_4, r65_5, r65_6, r65_7, r65_8, r65_9, r65_10, r65_11, r65_12, r65_14, r65_16, c65, packV, e0, e1, e6, e7, q3, i1, l1, -Int.natCast_add, -lc_app0, -lc_app]
    exact hQ _ (List.prefix_append _ _)
end Go.Proofs.YtefjnnghfloddaaGreat.Abs

/- Specifications: store.CheckConfig and the reference's. -/
namespace Go.Proofs.YtefjnnghfloddaaGreat.Abs
set_option linter.unusedVariables false
set_option linter.unusedSimpArgs false
set_option linter.unusedSectionVars false
def sm (n : Nat) : Nat → Nat
  | 0 => 0
  | k + 1 => sm n k + ch n k
theorem sm_mono (n : Nat) {a b : Nat} (h : a ≤ b) : sm n a ≤ sm n b := by
  induction h with
  | refl => exact Nat.le_refl _
  | step _ ih => rw [sm]; omega
def psum (l : List Int) : Nat → Int
  | 0 => 0
  | k + 1 => psum l k + l.getD k 0
open Classical in
noncomputable def cfgE (p n : Int) (mod : List Int) (N : Int) (gen : List (List Int)) (d : Int) (sets : List (List Int)) (racks : List Int) (wd : Int) : Int :=
  if codeE p n mod N gen ≠ 0 then codeE p n mod N gen
  else if gen.length = 0 then 9
  else if distE ⟨p, n.toNat, mod⟩ gen N d sets ≠ 0 then distE ⟨p, n.toNat, mod⟩ gen N d sets
  else if 65536 < sm N.toNat (((d - 1) / 2).toNat + 1) then 8
  else if wd < 1 ∨ 16 < wd ∨ racks.length < 1 ∨ 64 < racks.length ∨ ∃ i, i < racks.length ∧ racks.getD i 0 < 1 then 6
  else if ∃ i, i < racks.length ∧ 256 < psum racks (i + 1) then 8
  else if psum racks racks.length < N then 10
  else 0
structure MnI (l : List Int) (v : V) (m : Mem) (k : Nat) (e : Env) (m' : Mem) : Prop where
  d : ∃ (j : Nat) (x : Int), e 0 = v ∧ e 3 = I x ∧ e 4 = I j ∧ 1 ≤ j ∧ j ≤ l.length ∧ l.length - j = k ∧ (x < 1 ↔ ∃ i, i < j ∧ l.getD i 0 < 1)
  m : m' = m
theorem min_wv {v : V} {l : List Int} {m : Mem} {Q : V → Mem → Prop} (hv : Ints m v l) (h1 : 1 ≤ l.length) (h2 : l.length ≤ 100000) (hQ : ∀ x, (x < 1 ↔ ∃ i, i < l.length ∧ l.getD i 0 < 1) → Q (I x) m) : WV (DD 29 [v] m) Q := by
  rw [e29]
  refine WV_fin ?_
  have hl := hv.len
  have q1 : ¬ ((l.length : Int) < 1) := by omega
  obtain ⟨b1, o1, a1, a2⟩ := hv.at (ix := 0) (by omega) (by omega)
  simp only [Int.toNat_zero] at a2
  simp [r29_0, r29_1, r29_2, r29_3, r29_4, r29_5, r29_6, r29_7, r29_9, c29, hl, q1, a1, a2, -List.getD_eq_getElem?_getD]
  refine W_loop (MnI l v m) ?_ (l.length - 1) _ _ ⟨⟨1, l.getD 0 0, by simp, by simp [-List.getD_eq_getElem?_getD], by simp, by omega, by omega, by omega, ⟨fun h => ⟨0, by omega, h⟩, fun ⟨i, hi, h⟩ => (show i = 0 by omega) ▸ h⟩⟩, rfl⟩
  rintro k e m' ⟨⟨j, x, e0, e3, e4, hj1, hj, hk, hx⟩, rfl⟩
  have w1 : IntKind.i64.wrap ((j : Int) + 1) = (j + 1 : Nat) := by rw [wrap64_in (by omega) (by omega)]; omega
  by_cases hlt : j < l.length
  · obtain ⟨b2, o2, a3, a4⟩ := hv.at (ix := j) (by omega) (by omega)
    rw [Int.toNat_natCast] at a4
    simp [l29_8, r29_0, r29_1, r29_2, r29_3, r29_4, r29_5, r29_6, r29_7, r29_9, c29, e0, e3, e4, hl, hlt, a3, a4, w1, -List.getD_eq_getElem?_getD, -Int.natCast_add]
    refine ⟨l.length - (j + 1), by omega, ⟨⟨j + 1, if l.getD j 0 < x then l.getD j 0 else x, by simp [e0], by simp, by simp, by omega, by omega, rfl, ?_⟩, rfl⟩⟩
    constructor
    · intro h
      by_cases hb : l.getD j 0 < x
      · rw [if_pos hb] at h
        exact ⟨j, by omega, h⟩
      · rw [if_neg hb] at h
        obtain ⟨i, hi, h⟩ := hx.1 h
        exact ⟨i, by omega, h⟩
    · rintro ⟨i, hi, h⟩
      by_cases hij : i = j
      · subst hij
        split <;> omega
      · have := hx.2 ⟨i, by omega, h⟩
        split <;> omega
  · have hil : j = l.length := by omega
    subst hil
    simp [l29_8, r29_0, r29_1, r29_2, r29_3, r29_4, r29_5, r29_6, r29_7, r29_9, c29, e0, e3, e4, hl]
    exact hQ x hx
structure SeI (n t : Nat) (m : Mem) (k : Nat) (e : Env) (m' : Mem) : Prop where
  d : ∃ i : Nat, e 0 = I n ∧ e 1 = I t ∧ e 5 = I (min (sm n i) 65537 : Nat) ∧ e 6 = I i ∧ i ≤ t + 1 ∧ t + 1 - i = k ∧ Pre m m'
theorem sets_wv {n t : Nat} {m : Mem} {Q : V → Mem → Prop} (hn : n ≤ 64) (ht : t ≤ n) (hQ : ∀ m', Pre m m' → Q (I (min (sm n (t + 1)) 65537 : Nat)) m') : WV (DD 32 [I n, I t] m) Q := by
  rw [e32]
  refine WV_fin ?_
  simp [r32_0, r32_1, r32_2, r32_3, r32_4, r32_5, r32_6, r32_7, r32_9, c32]
  refine W_loop (SeI n t m) ?_ (t + 1) _ _ ⟨⟨0, by simp, by simp, by simp [sm], by simp, by omega, by omega, List.prefix_refl _⟩⟩
  rintro k e m' ⟨⟨i, e0, e1, e5, e6, hi, hk, hp⟩⟩
  have w1 : IntKind.i64.wrap ((i : Int) + 1) = (i + 1 : Nat) := by rw [wrap64_in (by omega) (by omega)]; omega
  by_cases hlt : i ≤ t
  · have q2 : i ≤ n := by omega
    simp [l32_8, r32_0, r32_1, r32_2, r32_3, r32_4, r32_5, r32_6, r32_7, r32_9, c32, e0, e1, e6, hlt, q2]
    refine WR_bnd (rbinom_wv hn fun m1 hp1 => ?_)
    have hmin : (if (65537 : Int) < ch n i then (65537 : Int) else ch n i) = (min (ch n i) 65537 : Nat) := by split <;> omega
    have w2 : IntKind.i64.wrap (((min (sm n i) 65537 : Nat) : Int) + (min (ch n i) 65537 : Nat)) = (min (sm n i) 65537 + min (ch n i) 65537 : Nat) := by rw [wrap64_in (by omega) (by omega)]; omega
    have hmin2 : (if (65537 : Int) < ((min (sm n i) 65537 + min (ch n i) 65537 : Nat) : Int) then (65537 : Int) else ((min (sm n i) 65537 + min (ch n i) 65537 : Nat) : Int)) = (min (sm n (i + 1)) 65537 : Nat) := by rw [sm]; split <;> omega
    simp only [extV_tup] 
    simp [e5, e6, hmin, w2, w1, hmin2, -Int.natCast_add]
    refine ⟨t + 1 - (i + 1), by omega, ⟨i + 1, by simp [e0], by simp [e1], by simp, by simp, by omega, rfl, hp.trans hp1⟩⟩
  · have hil : i = t + 1 := by omega
    subst hil
    have q2 : ¬ (((t + 1 : Nat) : Int) ≤ t) := by omega
    simp [l32_8, r32_0, r32_1, r32_2, r32_3, r32_4, r32_5, r32_6, r32_7, r32_9, c32, e0, e1, e5, e6, q2, -Int.natCast_add]
    exact hQ m' hp
abbrev gcells (p n : Int) (vm : V) (N : Int) (gv : V) (d : Int) (sv rv : V) (wd : Int) : List V := [I p, I n, vm, I N, gv, I d, sv, rv, I wd]
theorem box_la9g {m : Mem} {k : Nat} {p n N d wd : Int} {vm gv sv rv : V} (h : At m k (gcells p n vm N gv d sv rv wd) 2) : la 5 m k 0 = some (.agg [I p, I n, vm, I N, gv]) ∧ la 9 m k 0 = some (.agg (gcells p n vm N gv d sv rv wd)) ∧ lc m k 3 = some (I N) ∧ lc m k 4 = some gv ∧ lc m k 5 = some (I d) ∧ la 1 m k 6 = some (.agg [sv]) ∧ lc m k 7 = some rv ∧ lc m k 8 = some (I wd) ∧ lc m k 6 = some sv := by
  refine ⟨by rw [la, h]; simp, by rw [la, h]; simp, ?_, ?_, ?_, by rw [la, h]; simp, ?_, ?_, ?_⟩ <;> rw [lc_at h (by omega)] <;> rfl
structure HoI (racks : List Int) (b : Nat) (m : Mem) (k : Nat) (e : Env) (m' : Mem) : Prop where
  d : ∃ i : Nat, e 1 = .ptr b 0 ∧ e 3 = I (psum racks i) ∧ e 4 = I i ∧ i ≤ racks.length ∧ racks.length - i = k
  m : m' = m
theorem hosts_wv {p n N d wd : Int} {vm gv sv rv : V} {racks : List Int} {m : Mem} {Q : V → Mem → Prop} (hc : ([vm, gv, sv].all V.isCell) = true) (hr : Ints m rv racks) (hl : racks.length ≤ 64) (hb : ∀ i, i ≤ racks.length → 0 ≤ psum racks i ∧ psum racks i ≤ 256) (hQ : ∀ m', Pre m m' → Q (I (psum racks racks.length)) m') : WV (DD 33 [.agg (gcells p n vm N gv d sv rv wd)] m) Q := by
  have hrc := hr.cell
  simp at hc
  obtain ⟨h1, h2, h3⟩ := hc
  have hall : ((gcells p n vm N gv d sv rv wd).all V.isCell) = true := by simp [h1, h2, h3, hrc]
  rw [e33]
  refine WV_fin ?_
  have hp0 := List.prefix_append m ([⟨gcells p n vm N gv d sv rv wd, 2⟩] : Mem)
  have hA := At.new1 m (gcells p n vm N gv d sv rv wd) 2
  obtain ⟨c0, c1, c2, c3, c4, c5, c6, c7, c8⟩ := box_la9g hA
  simp only [r33_0, r33_1, r33_2, r33_3, r33_4, r33_5, r33_7, c33, box12 hall]
  simp [r33_0, r33_1, r33_2, r33_3, r33_4, r33_5, r33_7, c33, box12 hall, h1, h2, h3, hrc]
  generalize hm : m ++ [⟨gcells p n vm N gv d sv rv wd, 2⟩] = m0 at *
  have hr0 := hr.pre hp0
  have hlen := hr0.len
  refine W_loop (HoI racks m.length m0) ?_ racks.length _ _ ⟨⟨0, by simp, by simp [psum], by simp, by omega, by omega⟩, rfl⟩
  rintro k e m' ⟨⟨i, e1, e3, e4, hi, hk⟩, rfl⟩
  have w1 : IntKind.i64.wrap ((i : Int) + 1) = (i + 1 : Nat) := by rw [wrap64_in (by omega) (by omega)]; omega
  by_cases hlt : i < racks.length
  · obtain ⟨b1, o1, a1, a2⟩ := hr0.at (ix := i) (by omega) (by omega)
    rw [Int.toNat_natCast] at a2
    have hbi := hb (i + 1) (by omega)
    have w2 : IntKind.i64.wrap (psum racks i + racks.getD i 0) = psum racks (i + 1) := by rw [psum] at hbi ⊢; exact wrap64_in (by omega) (by omega)
    simp [l33_6, r33_0, r33_1, r33_2, r33_3, r33_4, r33_5, r33_7, c33, e1, e3, e4, c6, hlen, hlt, a1, a2, w1, w2, -List.getD_eq_getElem?_getD, -Int.natCast_add]
    refine ⟨racks.length - (i + 1), by omega, ⟨⟨i + 1, by simp [e1], by simp, by simp, by omega, rfl⟩, rfl⟩⟩
  · have hil : i = racks.length := by omega
    subst hil
    simp [l33_6, r33_0, r33_1, r33_2, r33_3, r33_4, r33_5, r33_7, c33, e1, e3, e4, c6, hlen]
    exact hQ _ hp0
end Go.Proofs.YtefjnnghfloddaaGreat.Abs

/- Specifications: store.CheckConfig. -/
namespace Go.Proofs.YtefjnnghfloddaaGreat.Abs
set_option linter.unusedVariables false
set_option linter.unusedSimpArgs false
set_option linter.unusedSectionVars false
open Ff
structure CfgAt (m : Mem) (vm gv sv rv : V) (mod : List Int) (gen : List (List Int)) (d : Int) (sets : List (List Int)) (racks : List Int) : Prop where
  hv : Ints m vm mod
  hg : Rows m gv gen
  hs : Rows m sv sets
  hr : Ints m rv racks
  hd : -9223372036854775808 ≤ d ∧ d ≤ 9223372036854775807
  sl : sets.length ≤ 100000
  ssl : ∀ i, i < sets.length → (rw_ sets i).length ≤ 17592186044416
theorem CfgAt.pre {m m' : Mem} {vm gv sv rv : V} {mod : List Int} {gen : List (List Int)} {d : Int} {sets : List (List Int)} {racks : List Int} (h : CfgAt m vm gv sv rv mod gen d sets racks) (hp : Pre m m') : CfgAt m' vm gv sv rv mod gen d sets racks :=
  ⟨h.hv.pre hp, h.hg.pre hp, h.hs.pre hp, h.hr.pre hp, h.hd, h.sl, h.ssl⟩
theorem distE_ok {F : Ff} {gen : List (List Int)} {N : Nat} {d : Int} {sets : List (List Int)} (h : distE F gen N d sets = 0) : 1 ≤ d ∧ d ≤ N + 1 := by
  unfold distE at h
  split at h
  · omega
  · omega
theorem codeE_okF {p n N : Int} {mod : List Int} {vm gv : V} {gen : List (List Int)} {m : Mem} (hv : Ints m vm mod) (hr : Rows m gv gen) (h : codeE p n mod N gen = 0) : ∃ (f : Fd) (k : Nat), N = k ∧ p = f.p ∧ n = f.n ∧ mod = f.mod ∧ CodeOk m (.agg [I p, I n, vm, I N, gv]) f k gen := by
  have h0 := h
  unfold codeE at h
  split at h
  · omega
  rename_i hIs
  split at h
  · omega
  rename_i hN
  have hIs : IsF p n mod := Classical.byContradiction hIs
  obtain ⟨f, hf, rfl, rfl, rfl⟩ := hIs
  rw [F_eq rfl rfl rfl] at h
  have he : matE f.F N gen = 0 := by
    refine Classical.byContradiction fun hne => ?_
    rw [spaceE, if_pos hne] at h
    exact hne h
  obtain ⟨b0, b1, b2, b3⟩ := matE_Mat hf.F he
  refine ⟨f, N.toNat, by omega, rfl, rfl, rfl, hf, by omega, by omega, b3, b2, ?_, vm, gv, ?_, hv, hr⟩
  · rw [Int.toNat_of_nonneg (by omega)]; exact h0
  · rw [Int.toNat_of_nonneg (by omega)]
structure CcI (b : Nat) (n t : Nat) (m : Mem) (k : Nat) (e : Env) (m' : Mem) : Prop where
  d : ∃ i : Nat, e 1 = .ptr b 0 ∧ e 5 = I (sm n i) ∧ e 6 = I i ∧ sm n i ≤ 65536 ∧ i ≤ t + 1 ∧ t + 1 - i = k ∧ Pre m m'
structure CcJ (b : Nat) (rv : V) (racks : List Int) (m : Mem) (k : Nat) (e : Env) (m' : Mem) : Prop where
  d : ∃ i : Nat, e 1 = .ptr b 0 ∧ e 9 = I (psum racks i) ∧ e 83 = rv ∧ e 84 = I racks.length ∧ e 85 = I i ∧ 0 ≤ psum racks i ∧ psum racks i ≤ 256 ∧ (∀ j, j < i → psum racks (j + 1) ≤ 256) ∧ i ≤ racks.length ∧ racks.length - i = k
  m : m' = m
theorem tdiv2 {d : Int} (h : 1 ≤ d) : (d - 1).tdiv 2 = (((d - 1) / 2).toNat : Nat) := by
  obtain ⟨k, rfl⟩ : ∃ k : Nat, d = k + 1 := ⟨(d - 1).toNat, by omega⟩
  rw [show ((k : Int) + 1 - 1) = k by omega, show ((2 : Int)) = ((2 : Nat) : Int) from rfl, ← Int.ofNat_tdiv, Int.toNat_of_nonneg (by omega)]; rfl
theorem checkConfig_wv {p n N d wd : Int} {vm gv sv rv : V} {mod : List Int} {gen sets : List (List Int)} {racks : List Int} {m : Mem} {Q : V → Mem → Prop} (hC : CfgAt m vm gv sv rv mod gen d sets racks)
    (hQ : ∀ m', Pre m m' → Q (I (cfgE p n mod N gen d sets racks wd)) m') : WV (DD 10 [.agg (gcells p n vm N gv d sv rv wd)] m) Q := by
  have h1 := hC.hv.cell
  have h2 := hC.hg.cell
  have h3 := hC.hs.cell
  have h4 := hC.hr.cell
  have hall : ((gcells p n vm N gv d sv rv wd).all V.isCell) = true := by simp [h1, h2, h3, h4]
  rw [e10]
  refine WV_fin ?_
  have hp0 := List.prefix_append m ([⟨gcells p n vm N gv d sv rv wd, 2⟩] : Mem)
  have hA := At.new1 m (gcells p n vm N gv d sv rv wd) 2
  simp only [r10_0, r10_1, r10_2, r10_3, r10_4, r10_5, r10_6, r10_7, r10_8, r10_9, r10_10, r10_11, r10_12, r10_13, r10_14, r10_15, r10_16, r10_18, r10_19, r10_20, r10_21, r10_22, r10_23, r10_24, r10_25, r10_26, r10_27, r10_29, r10_30, r10_31, c10, box12 hall]
  simp [r10_0, r10_1, r10_2, r10_3, r10_4, r10_5, r10_6, r10_7, r10_8, r10_9, r10_10, r10_11, r10_12, r10_13, r10_14, r10_15, r10_16, r10_18, r10_19, r10_20, r10_21, r10_22, r10_23, r10_24, r10_25, r10_26, r10_27, r10_29, r10_30, r10_31, c10, box12 hall, h1, h2, h3, h4]
  generalize hm : m ++ [⟨gcells p n vm N gv d sv rv wd, 2⟩] = m0 at *
  have hC0 := hC.pre hp0
  obtain ⟨c0, c1, c2, c3, c4, c5, c6, c7, c8⟩ := box_la9g hA
  refine WR_bnd (codeCheck_wv hC0.hv hC0.hg fun m1 hp1 => ?_)
  have hQ1 := fun m2 (hp2 : Pre m1 m2) => hQ m2 (hp0.trans (hp1.trans hp2))
  rw [cfgE] at hQ1
  by_cases he0 : codeE p n mod N gen ≠ 0
  · rw [if_pos he0] at hQ1
    simp [he0]
    exact hQ1 m1 (List.prefix_refl _)
  rw [if_neg he0] at hQ1
  have he0 : codeE p n mod N gen = 0 := Classical.byContradiction he0
  obtain ⟨f, N, rfl, ep, en, em, hok⟩ := codeE_okF hC0.hv hC0.hg he0
  have hAo := Pre.at hp1 hA
  have hok1 := hok.pre hp1
  have hCo := hC0.pre hp1
  obtain ⟨d0, d1, d2, d3, d4, d5, d6, d7, d8⟩ := box_la9g hAo
  have hgl := hCo.hg.len
  rw [he0]
  by_cases hg0 : gen.length = 0
  · rw [if_pos hg0] at hQ1
    have hg0' : gen = [] := List.length_eq_zero_iff.1 hg0
    simp [d3, hgl, hg0']
    exact hQ1 m1 (List.prefix_refl _)
  rw [if_neg hg0] at hQ1
  have hg0' : ¬ gen = [] := fun h => hg0 (by rw [h]; rfl)
  simp [d0, d3, d4, d5, hgl, hg0']
  have hFF : (⟨p, n.toNat, mod⟩ : Ff) = f.F := F_eq ep en em
  rw [hFF] at hQ1
  refine WR_bnd (checkDistance_wv hok1 hCo.hs hC.hd hC.sl hC.ssl fun m2 hp2 => ?_)
  have hQ2 := fun m3 (hp3 : Pre m2 m3) => hQ1 m3 (hp2.trans hp3)
  by_cases he1 : distE f.F gen N d sets ≠ 0
  · rw [if_pos he1] at hQ2
    simp [he1]
    exact hQ2 m2 (List.prefix_refl _)
  rw [if_neg he1] at hQ2
  have he1 : distE f.F gen N d sets = 0 := Classical.byContradiction he1
  have hd1 := distE_ok he1
  rw [he1]
  have hA2 := Pre.at hp2 hAo
  have hC2 := hCo.pre hp2
  have hN := hok.n2
  clear hCo hC0 hC d0 d1 d2 d3 d4 d5 d6 d7 d8 c0 c1 c2 c3 c4 c5 c6 c7 c8 hgl hok hok1
  simp only [Int.toNat_natCast] at hQ2
  have htd := tdiv2 hd1.1
  have htle : ((d - 1) / 2).toNat ≤ 64 := by omega
  generalize ht : ((d - 1) / 2).toNat = t at *
  have w0 : IntKind.i64.wrap (d - 1) = d - 1 := wrap64_in (by omega) (by omega)
  have wt : IntKind.i64.wrap (t : Int) = t := wrap64_in (by omega) (by omega)
  have htq := bin_quo 3 (d - 1) 2 T (by omega)
  rw [htd, wt] at htq
  simp
  refine W_loop (CcI m.length N t m2) ?_ (t + 1) _ _ ⟨⟨0, by simp, by simp [sm], by simp, by simp [sm], by omega, by omega, List.prefix_refl _⟩⟩
  rintro k e m' ⟨⟨i, e1, e5, e6, hsm, hi, hk, hp⟩⟩
  have hA' := Pre.at hp hA2
  obtain ⟨d0, d1, d2, d3, d4, d5, d6, d7, d8⟩ := box_la9g hA'
  have hQ3 := fun m4 (hp4 : Pre m' m4) => hQ2 m4 (hp.trans hp4)
  by_cases hlt : i ≤ t
  · have w1 : IntKind.i64.wrap ((i : Int) + 1) = (i + 1 : Nat) := by rw [wrap64_in (by omega) (by omega)]; omega
    simp [l10_17, r10_0, r10_1, r10_2, r10_3, r10_4, r10_5, r10_6, r10_7, r10_8, r10_9, r10_10, r10_11, r10_12, r10_13, r10_14, r10_15, r10_16, r10_18, r10_19, r10_20, r10_21, r10_22, r10_23, r10_24, r10_25, r10_26, r10_27, r10_29, r10_30, r10_31, c10, e1, e5, e6, d2, d4, w0, htq, hlt]
    refine WR_bnd (binom_wv hN fun m3 hp3 => ?_)
    have w2 : IntKind.i64.wrap ((65536 : Int) - sm N i) = 65536 - sm N i := wrap64_in (by omega) (by omega)
    simp [e5, w2]
    by_cases hbig : 65536 - (sm N i : Int) < ch N i
    · have h2 := sm_mono N (show i + 1 ≤ t + 1 by omega)
      rw [sm] at h2
      have hQ4 := hQ3 m3 hp3
      rw [if_pos (by omega)] at hQ4
      simp [hbig]
      exact hQ4
    · have w3 : IntKind.i64.wrap ((sm N i : Int) + ch N i) = (sm N (i + 1) : Nat) := by rw [sm, wrap64_in (by omega) (by omega)]; omega
      simp [hbig, e5, e6, w3, w1, -Int.natCast_add]
      refine ⟨t + 1 - (i + 1), by omega, ⟨i + 1, by simp [e1], by simp, by simp, by rw [sm]; omega, by omega, rfl, hp.trans hp3⟩⟩
  have hil : i = t + 1 := by omega
  subst hil
  rw [if_neg (by omega)] at hQ3
  have hle : ¬ (((t + 1 : Nat) : Int) ≤ t) := by omega
  simp [l10_17, r10_0, r10_1, r10_2, r10_3, r10_4, r10_5, r10_6, r10_7, r10_8, r10_9, r10_10, r10_11, r10_12, r10_13, r10_14, r10_15, r10_16, r10_18, r10_19, r10_20, r10_21, r10_22, r10_23, r10_24, r10_25, r10_26, r10_27, r10_29, r10_30, r10_31, c10, e1, e5, e6, d4, w0, htq, hle, -Int.natCast_add]
  have hC3 := hC2.pre hp
  have hrl := hC3.hr.len
  have hQ4 := hQ3 m' (List.prefix_refl _)
  by_cases q1 : wd < 1
  · rw [if_pos (.inl q1)] at hQ4
    simp [d7, q1]; exact hQ4
  by_cases q2 : 16 < wd
  · rw [if_pos (.inr (.inl q2))] at hQ4
    simp [d7, q1, q2]; exact hQ4
  by_cases q3 : racks.length < 1
  · rw [if_pos (.inr (.inr (.inl q3)))] at hQ4
    have q3' : (racks.length : Int) < 1 := by omega
    simp [d6, d7, q1, q2, q3', hrl]; exact hQ4
  have q3' : ¬ ((racks.length : Int) < 1) := by omega
  by_cases q4 : 64 < racks.length
  · rw [if_pos (.inr (.inr (.inr (.inl q4))))] at hQ4
    have q4' : 64 < (racks.length : Int) := by omega
    simp [d6, d7, q1, q2, q3', q4', hrl]; exact hQ4
  have q4' : ¬ (64 < (racks.length : Int)) := by omega
  simp [d6, d7, q1, q2, q3', q4', hrl]
  refine WR_bnd (min_wv hC3.hr (by omega) (by omega) fun x hx => ?_)
  by_cases q5 : x < 1
  · rw [if_pos (.inr (.inr (.inr (.inr (hx.1 q5)))))] at hQ4
    simp [q5]; exact hQ4
  have q5' : ¬ ∃ i, i < racks.length ∧ racks.getD i 0 < 1 := fun h => q5 (hx.2 h)
  rw [if_neg (by rintro (h | h | h | h | h); exact q1 h; exact q2 h; exact q3 h; exact q4 h; exact q5' h)] at hQ4
  have hpos : ∀ i, i < racks.length → 1 ≤ racks.getD i 0 := fun i hi => by
    have := not_exists.1 q5' i
    omega
  simp [q5, e1, d6, hrl]
  clear hQ hQ1 hQ2 hQ3
  have hp00 : psum racks 0 = 0 := rfl
  refine W_loop (CcJ m.length rv racks m') ?_ racks.length _ _ ⟨⟨0, ?_, ?_, ?_, ?_, ?_, by omega, by omega, fun j hj => by omega, by omega, by omega⟩, rfl⟩
  rotate_left
  · simp [e1]
  · simp [hp00]
  · simp
  · simp
  · simp
  rintro k e m'' ⟨⟨i, e1, e9, e83, e84, e85, hps, hps2, hall3, hi, hk⟩, rfl⟩
  by_cases hlt : i < racks.length
  · obtain ⟨b1, o1, a1, a2⟩ := hC3.hr.at (ix := i) (by omega) (by omega)
    rw [Int.toNat_natCast] at a2
    have hpi := hpos i hlt
    have hpe : psum racks (i + 1) = psum racks i + racks.getD i 0 := rfl
    have w1 : IntKind.i64.wrap ((i : Int) + 1) = (i + 1 : Nat) := by rw [wrap64_in (by omega) (by omega)]; omega
    have w2 : IntKind.i64.wrap ((256 : Int) - psum racks i) = 256 - psum racks i := wrap64_in (by omega) (by omega)
    generalize hr : racks.getD i 0 = r at *
    by_cases hbig : 256 - psum racks i < r
    · rw [if_pos ⟨i, hlt, by omega⟩] at hQ4
      simp [l10_28, r10_0, r10_1, r10_2, r10_3, r10_4, r10_5, r10_6, r10_7, r10_8, r10_9, r10_10, r10_11, r10_12, r10_13, r10_14, r10_15, r10_16, r10_18, r10_19, r10_20, r10_21, r10_22, r10_23, r10_24, r10_25, r10_26, r10_27, r10_29, r10_30, r10_31, c10, e1, e9, e83, e84, e85, hlt, a1, a2, w2, hbig]
      exact hQ4
    · have w3 : IntKind.i64.wrap (psum racks i + r) = psum racks (i + 1) := by rw [hpe]; exact wrap64_in (by omega) (by omega)
      simp [l10_28, r10_0, r10_1, r10_2, r10_3, r10_4, r10_5, r10_6, r10_7, r10_8, r10_9, r10_10, r10_11, r10_12, r10_13, r10_14, r10_15, r10_16, r10_18, r10_19, r10_20, r10_21, r10_22, r10_23, r10_24, r10_25, r10_26, r10_27, r10_29, r10_30, r10_31, c10, e1, e9, e83, e84, e85, hlt, a1, a2, w1, w2, w3, hbig, -Int.natCast_add]
      refine ⟨racks.length - (i + 1), by omega, ⟨⟨i + 1, by simp [e1], by simp, by simp [e83], by simp [e84], by simp, by omega, by omega, fun j hj => ?_, by omega, rfl⟩, rfl⟩⟩
      by_cases hji : j = i
      · subst hji; omega
      · exact hall3 j (by omega)
  · have hil : i = racks.length := by omega
    subst hil
    rw [if_neg (by rintro ⟨j, hj, h⟩; have := hall3 j hj; omega)] at hQ4
    by_cases hN2 : psum racks racks.length < N
    · rw [if_pos hN2] at hQ4
      simp [l10_28, r10_0, r10_1, r10_2, r10_3, r10_4, r10_5, r10_6, r10_7, r10_8, r10_9, r10_10, r10_11, r10_12, r10_13, r10_14, r10_15, r10_16, r10_18, r10_19, r10_20, r10_21, r10_22, r10_23, r10_24, r10_25, r10_26, r10_27, r10_29, r10_30, r10_31, c10, e1, e9, e84, e85, d2, hN2]
      exact hQ4
    · rw [if_neg hN2] at hQ4
      simp [l10_28, r10_0, r10_1, r10_2, r10_3, r10_4, r10_5, r10_6, r10_7, r10_8, r10_9, r10_10, r10_11, r10_12, r10_13, r10_14, r10_15, r10_16, r10_18, r10_19, r10_20, r10_21, r10_22, r10_23, r10_24, r10_25, r10_26, r10_27, r10_29, r10_30, r10_31, c10, e1, e9, e84, e85, d2, hN2]
      exact hQ4
end Go.Proofs.YtefjnnghfloddaaGreat.Abs

/- Specifications: the reference's CheckConfig. -/
namespace Go.Proofs.YtefjnnghfloddaaGreat.Abs
set_option linter.unusedVariables false
set_option linter.unusedSimpArgs false
set_option linter.unusedSectionVars false
open Ff
structure CfgRI (b : Nat) (racks : List Int) (m : Mem) (k : Nat) (e : Env) (m' : Mem) : Prop where
  d : ∃ i : Nat, e 1 = .ptr b 0 ∧ e 4 = I i ∧ (∀ j, j < i → 1 ≤ racks.getD j 0) ∧ i ≤ racks.length ∧ racks.length - i = k
  m : m' = m
structure CfgRJ (b : Nat) (racks : List Int) (m : Mem) (k : Nat) (e : Env) (m' : Mem) : Prop where
  d : ∃ i : Nat, e 1 = .ptr b 0 ∧ e 5 = I (256 - psum racks i) ∧ e 6 = I i ∧ 0 ≤ psum racks i ∧ psum racks i ≤ 256 ∧ (∀ j, j < i → psum racks (j + 1) ≤ 256) ∧ i ≤ racks.length ∧ racks.length - i = k
  m : m' = m
theorem psum_le {racks : List Int} (hpos : ∀ i, i < racks.length → 1 ≤ racks.getD i 0) : ∀ i, i ≤ racks.length → 0 ≤ psum racks i
  | 0, _ => by simp [psum]
  | i + 1, h => by
    have h1 := psum_le hpos i (by omega)
    have h2 := hpos i (by omega)
    rw [psum]; omega
theorem rcheckConfig_wv {p n N d wd : Int} {vm gv sv rv : V} {mod : List Int} {gen sets : List (List Int)} {racks : List Int} {m : Mem} {Q : V → Mem → Prop} (hC : CfgAt m vm gv sv rv mod gen d sets racks)
    (hQ : ∀ m', Pre m m' → Q (I (cfgE p n mod N gen d sets racks wd)) m') : WV (DD 11 [.agg (gcells p n vm N gv d sv rv wd)] m) Q := by
  have h1 := hC.hv.cell
  have h2 := hC.hg.cell
  have h3 := hC.hs.cell
  have h4 := hC.hr.cell
  have hall : ((gcells p n vm N gv d sv rv wd).all V.isCell) = true := by simp [h1, h2, h3, h4]
  rw [e11]
  refine WV_fin ?_
  have hp0 := List.prefix_append m ([⟨gcells p n vm N gv d sv rv wd, 2⟩] : Mem)
  have hA := At.new1 m (gcells p n vm N gv d sv rv wd) 2
  simp only [r11_0, r11_1, r11_2, r11_3, r11_4, r11_5, r11_6, r11_7, r11_8, r11_9, r11_10, r11_11, r11_12, r11_13, r11_14, r11_15, r11_16, r11_17, r11_19, r11_20, r11_21, r11_22, r11_23, r11_24, r11_25, r11_27, r11_28, r11_29, c11, box12 hall]
  simp [r11_0, r11_1, r11_2, r11_3, r11_4, r11_5, r11_6, r11_7, r11_8, r11_9, r11_10, r11_11, r11_12, r11_13, r11_14, r11_15, r11_16, r11_17, r11_19, r11_20, r11_21, r11_22, r11_23, r11_24, r11_25, r11_27, r11_28, r11_29, c11, box12 hall, h1, h2, h3, h4]
  generalize hm : m ++ [⟨gcells p n vm N gv d sv rv wd, 2⟩] = m0 at *
  have hC0 := hC.pre hp0
  obtain ⟨c0, c1, c2, c3, c4, c5, c6, c7, c8⟩ := box_la9g hA
  refine WR_bnd (rcodeCheck_wv hC0.hv hC0.hg fun m1 hp1 => ?_)
  have hQ1 := fun m2 (hp2 : Pre m1 m2) => hQ m2 (hp0.trans (hp1.trans hp2))
  rw [cfgE] at hQ1
  by_cases he0 : codeE p n mod N gen ≠ 0
  · rw [if_pos he0] at hQ1
    simp [he0]
    exact hQ1 m1 (List.prefix_refl _)
  rw [if_neg he0] at hQ1
  have he0 : codeE p n mod N gen = 0 := Classical.byContradiction he0
  obtain ⟨f, N, rfl, ep, en, em, hok⟩ := codeE_okF hC0.hv hC0.hg he0
  have hAo := Pre.at hp1 hA
  have hok1 := hok.pre hp1
  have hc3 : ([vm, gv, sv].all V.isCell) = true := by simp [h1, h2, h3]
  have hCo := hC0.pre hp1
  obtain ⟨d0, d1, d2, d3, d4, d5, d6, d7, d8⟩ := box_la9g hAo
  have hgl := hCo.hg.len
  rw [he0]
  by_cases hg0 : gen.length = 0
  · rw [if_pos hg0] at hQ1
    have hg0' : gen = [] := List.length_eq_zero_iff.1 hg0
    simp [d3, hgl, hg0']
    exact hQ1 m1 (List.prefix_refl _)
  rw [if_neg hg0] at hQ1
  have hg0' : ¬ gen = [] := fun h => hg0 (by rw [h]; rfl)
  simp [d0, d3, d4, d5, hgl, hg0']
  have hFF : (⟨p, n.toNat, mod⟩ : Ff) = f.F := F_eq ep en em
  rw [hFF] at hQ1
  refine WR_bnd (rcheckDistance_wv hok1 hCo.hs hC.hd hC.ssl fun m2 hp2 => ?_)
  have hQ2 := fun m3 (hp3 : Pre m2 m3) => hQ1 m3 (hp2.trans hp3)
  by_cases he1 : distE f.F gen N d sets ≠ 0
  · rw [if_pos he1] at hQ2
    simp [he1]
    exact hQ2 m2 (List.prefix_refl _)
  rw [if_neg he1] at hQ2
  have he1 : distE f.F gen N d sets = 0 := Classical.byContradiction he1
  have hd1 := distE_ok he1
  rw [he1]
  have hA2 := Pre.at hp2 hAo
  have hC2 := hCo.pre hp2
  have hN := hok.n2
  clear hCo hC0 hC d0 d1 d2 d3 d4 d5 d6 d7 d8 c0 c1 c2 c3 c4 c5 c6 c7 c8 hgl hok hok1
  simp only [Int.toNat_natCast] at hQ2
  have htd := tdiv2 hd1.1
  have htle : ((d - 1) / 2).toNat ≤ 64 := by omega
  generalize ht : ((d - 1) / 2).toNat = t at *
  have w0 : IntKind.i64.wrap (d - 1) = d - 1 := wrap64_in (by omega) (by omega)
  have wt : IntKind.i64.wrap (t : Int) = t := wrap64_in (by omega) (by omega)
  have htq := bin_quo 3 (d - 1) 2 T (by omega)
  rw [htd, wt] at htq
  obtain ⟨d0, d1, d2, d3, d4, d5, d6, d7, d8⟩ := box_la9g hA2
  simp [d2, d4, w0, htq]
  refine WR_bnd (sets_wv hN (by omega) fun m3 hp3 => ?_)
  have hQ3 := fun m4 (hp4 : Pre m3 m4) => hQ2 m4 (hp3.trans hp4)
  have hQ4 := hQ3 m3 (List.prefix_refl _)
  have hz : 65536 < ((min (sm N (t + 1)) 65537 : Nat) : Int) ↔ 65536 < sm N (t + 1) := by omega
  generalize ((min (sm N (t + 1)) 65537 : Nat) : Int) = z at *
  by_cases hbig : 65536 < sm N (t + 1)
  · have hb' : 65536 < z := hz.2 hbig
    rw [if_pos hbig] at hQ4
    simp [hb']
    exact hQ4
  have hb' : ¬ 65536 < z := fun h => hbig (hz.1 h)
  clear hQ hQ1 hQ2
  rw [if_neg hbig] at hQ3 hQ4
  have hA3 := Pre.at hp3 hA2
  obtain ⟨d0, d1, d2, d3, d4, d5, d6, d7, d8⟩ := box_la9g hA3
  have hC3 := hC2.pre hp3
  have hrl := hC3.hr.len
  simp [hb']
  by_cases q1 : wd < 1
  · rw [if_pos (.inl q1)] at hQ4
    simp [d7, q1]; exact hQ4
  by_cases q2 : 16 < wd
  · rw [if_pos (.inr (.inl q2))] at hQ4
    simp [d7, q1, q2]; exact hQ4
  by_cases q3 : racks.length < 1
  · rw [if_pos (.inr (.inr (.inl q3)))] at hQ4
    have q3' : (racks.length : Int) < 1 := by omega
    simp [d6, d7, q1, q2, q3', hrl]; exact hQ4
  have q3' : ¬ ((racks.length : Int) < 1) := by omega
  by_cases q4 : 64 < racks.length
  · rw [if_pos (.inr (.inr (.inr (.inl q4))))] at hQ4
    have q4' : 64 < (racks.length : Int) := by omega
    simp [d6, d7, q1, q2, q3', q4', hrl]; exact hQ4
  have q4' : ¬ (64 < (racks.length : Int)) := by omega
  simp [d6, d7, q1, q2, q3', q4', hrl]
  refine W_loop (CfgRI m.length racks m3) ?_ racks.length _ _ ⟨⟨0, ?_, ?_, fun j hj => by omega, by omega, by omega⟩, rfl⟩
  rotate_left
  · simp
  · simp
  rintro k e m'' ⟨⟨i, e1, e4, hall3, hi, hk⟩, rfl⟩
  by_cases hlt : i < racks.length
  · obtain ⟨b1, o1, a1, a2⟩ := hC3.hr.at (ix := i) (by omega) (by omega)
    rw [Int.toNat_natCast] at a2
    have w1 : IntKind.i64.wrap ((i : Int) + 1) = (i + 1 : Nat) := by rw [wrap64_in (by omega) (by omega)]; omega
    by_cases hr1 : racks.getD i 0 < 1
    · rw [if_pos (.inr (.inr (.inr (.inr ⟨i, hlt, hr1⟩))))] at hQ4
      simp [l11_18, r11_0, r11_1, r11_2, r11_3, r11_4, r11_5, r11_6, r11_7, r11_8, r11_9, r11_10, r11_11, r11_12, r11_13, r11_14, r11_15, r11_16, r11_17, r11_19, r11_20, r11_21, r11_22, r11_23, r11_24, r11_25, r11_27, r11_28, r11_29, c11, e1, e4, d6, hrl, hlt, a1, a2, hr1, -List.getD_eq_getElem?_getD]
      exact hQ4
    · simp [l11_18, r11_0, r11_1, r11_2, r11_3, r11_4, r11_5, r11_6, r11_7, r11_8, r11_9, r11_10, r11_11, r11_12, r11_13, r11_14, r11_15, r11_16, r11_17, r11_19, r11_20, r11_21, r11_22, r11_23, r11_24, r11_25, r11_27, r11_28, r11_29, c11, e1, e4, d6, hrl, hlt, a1, a2, hr1, w1, -List.getD_eq_getElem?_getD, -Int.natCast_add]
      refine ⟨racks.length - (i + 1), by omega, ⟨⟨i + 1, by simp [e1], by simp, fun j hj => ?_, by omega, rfl⟩, rfl⟩⟩
      by_cases hji : j = i
      · subst hji; omega
      · exact hall3 j (by omega)
  have hil : i = racks.length := by omega
  subst hil
  have q5' : ¬ ∃ i, i < racks.length ∧ racks.getD i 0 < 1 := by
    rintro ⟨i, hi, h⟩
    have := hall3 i hi
    omega
  simp only [if_neg (show ¬ (wd < 1 ∨ 16 < wd ∨ racks.length < 1 ∨ 64 < racks.length ∨ ∃ i, i < racks.length ∧ racks.getD i 0 < 1) by rintro (h | h | h | h | h); exact q1 h; exact q2 h; exact q3 h; exact q4 h; exact q5' h)] at hQ3 hQ4
  simp [l11_18, r11_0, r11_1, r11_2, r11_3, r11_4, r11_5, r11_6, r11_7, r11_8, r11_9, r11_10, r11_11, r11_12, r11_13, r11_14, r11_15, r11_16, r11_17, r11_19, r11_20, r11_21, r11_22, r11_23, r11_24, r11_25, r11_27, r11_28, r11_29, c11, e1, e4, d6, hrl]
  have hp00 : psum racks 0 = 0 := rfl
  refine W_loop (CfgRJ m.length racks m'') ?_ racks.length _ _ ⟨⟨0, ?_, ?_, ?_, by omega, by omega, fun j hj => by omega, by omega, by omega⟩, rfl⟩
  rotate_left
  · simp [e1]
  · simp [hp00]
  · simp
  clear e1 e4
  rintro k e m' ⟨⟨i, e1, e5, e6, hps, hps2, hall4, hi, hk⟩, rfl⟩
  by_cases hlt : i < racks.length
  · obtain ⟨b1, o1, a1, a2⟩ := hC3.hr.at (ix := i) (by omega) (by omega)
    rw [Int.toNat_natCast] at a2
    have hpi := hall3 i hlt
    have hpe : psum racks (i + 1) = psum racks i + racks.getD i 0 := rfl
    have w1 : IntKind.i64.wrap ((i : Int) + 1) = (i + 1 : Nat) := by rw [wrap64_in (by omega) (by omega)]; omega
    generalize hr : racks.getD i 0 = r at *
    by_cases hbig : 256 - psum racks i < r
    · rw [if_pos ⟨i, hlt, by omega⟩] at hQ4
      simp [l11_26, r11_0, r11_1, r11_2, r11_3, r11_4, r11_5, r11_6, r11_7, r11_8, r11_9, r11_10, r11_11, r11_12, r11_13, r11_14, r11_15, r11_16, r11_17, r11_19, r11_20, r11_21, r11_22, r11_23, r11_24, r11_25, r11_27, r11_28, r11_29, c11, e1, e5, e6, d6, hrl, hlt, a1, a2, hbig]
      exact hQ4
    · have w3 : IntKind.i64.wrap (256 - psum racks i - r) = 256 - psum racks (i + 1) := by rw [hpe, wrap64_in (by omega) (by omega)]; omega
      simp [l11_26, r11_0, r11_1, r11_2, r11_3, r11_4, r11_5, r11_6, r11_7, r11_8, r11_9, r11_10, r11_11, r11_12, r11_13, r11_14, r11_15, r11_16, r11_17, r11_19, r11_20, r11_21, r11_22, r11_23, r11_24, r11_25, r11_27, r11_28, r11_29, c11, e1, e5, e6, d6, hrl, hlt, a1, a2, hbig, w1, w3, -Int.natCast_add]
      refine ⟨racks.length - (i + 1), by omega, ⟨⟨i + 1, by simp [e1], by simp, by simp, by omega, by omega, fun j hj => ?_, by omega, rfl⟩, rfl⟩⟩
      by_cases hji : j = i
      · subst hji; omega
      · exact hall4 j (by omega)
  · have hil : i = racks.length := by omega
    subst hil
    have hnb : ¬ ∃ i, i < racks.length ∧ 256 < psum racks (i + 1) := by
      rintro ⟨j, hj, h⟩; have := hall4 j hj; omega
    simp only [if_neg hnb] at hQ3
    simp [l11_26, r11_0, r11_1, r11_2, r11_3, r11_4, r11_5, r11_6, r11_7, r11_8, r11_9, r11_10, r11_11, r11_12, r11_13, r11_14, r11_15, r11_16, r11_17, r11_19, r11_20, r11_21, r11_22, r11_23, r11_24, r11_25, r11_27, r11_28, r11_29, c11, e1, e5, e6, d1, d6, hrl]
    refine WR_bnd (hosts_wv hc3 hC3.hr (by omega) (fun i hi => ⟨psum_le hall3 i hi, ?_⟩) fun m5 hp5 => ?_)
    · cases i with
      | zero => rw [hp00]; omega
      | succ i => exact hall4 i (by omega)
    obtain ⟨f0, f1, f2, f3, f4, f5, f6, f7, f8⟩ := box_la9g (Pre.at hp5 hA3)
    have hQ5 := hQ3 m5 hp5
    by_cases hN2 : psum racks racks.length < N
    · rw [if_pos hN2] at hQ5
      simp [chkd_of hp5, e1, f2, hN2]
      exact hQ5
    · rw [if_neg hN2] at hQ5
      simp [chkd_of hp5, e1, f2, hN2]
      exact hQ5
end Go.Proofs.YtefjnnghfloddaaGreat.Abs

/- Specifications: the law StoreConfigs. -/
namespace Go.Proofs.YtefjnnghfloddaaGreat.Abs
set_option linter.unusedVariables false
set_option linter.unusedSimpArgs false
set_option linter.unusedSectionVars false
open Ff
theorem not_isF0 {n : Int} {mod : List Int} : ¬ IsF 0 n mod := by
  rintro ⟨f, hf, h, _⟩
  have := hf.pr.1
  omega
theorem build31_0 : opBuild T 31 [] = some (.agg (gcells 0 0 .nils 0 .nils 0 .nils .nils 0)) := by
  simp [opBuild, T31, T29, T27, T22, T4, T3, T25, placeOf, fillA, put]
theorem alive_wv {m : Mem} {Q : V → Mem → Prop} (hQ : ∀ m', Pre m m' → Q (.bool true) m') : WV (DD 9 [] m) Q := by
  rw [e9]
  refine WV_fin ?_
  simp [r9_0, r9_1, c9, build31_0]
  refine WR_bnd (checkConfig_wv (mod := []) (gen := []) (sets := []) (racks := []) ⟨.inl ⟨rfl, rfl⟩, .inl ⟨rfl, rfl⟩, .inl ⟨rfl, rfl⟩, .inl ⟨rfl, rfl⟩, by omega, by simp, by simp⟩ fun m1 hp1 => ?_)
  have he : cfgE 0 0 [] 0 [] 0 [] [] 0 = 1 := by
    have : codeE 0 0 [] 0 [] = 1 := by rw [codeE, if_pos not_isF0]
    rw [cfgE, if_pos (by rw [this]; decide), this]
  rw [he]
  simp
  exact hQ m1 hp1
end Go.Proofs.YtefjnnghfloddaaGreat.Abs

/- The law's input, as it is read: laid into the abstract memory, to be read only. -/
namespace Go.Proofs.YtefjnnghfloddaaGreat.Abs
open Go.ChangeShapes
set_option linter.unusedVariables false
set_option linter.unusedSimpArgs false
set_option linter.unusedSectionVars false
structure Ld (ρ : Rho) (m : Mem) (w : World) : Prop where
  sim : Sim ρ m w
  ro : ∀ (b : Nat) (k : Blk), m[b]? = some k → k.st = 1
  sc : Sc m
structure Got (ρ : Rho) (m : Mem) (w : World) (c : Value) (ρ' : Rho) (m' : Mem) (v : V) : Prop where
  le : ρ.le ρ'
  pre : Pre m m'
  ld : Ld ρ' m' w
  rel : Rel ρ' v c
  bel : v.bel m'.length
  cell : v.isCell = true
theorem Ld.empty (w : World) : Ld (fun _ => none) [] w :=
  ⟨⟨fun b p h => (by cases h), fun b p k h => (by cases h), fun b p k h => (by cases h), fun b p k b' p' k' h => (by cases h)⟩, fun b k h => (by simp at h), fun k hk => (by cases hk)⟩
theorem Ld.add {ρ : Rho} {m : Mem} {w : World} (h : Ld ρ m w) {B O : Nat} {vs : List V} (hB : B < w.heap.size) (hc : ∀ i v, vs[i]? = some v → v.isCell = true ∧ ∃ x, w.cell? ⟨B, O + i, none⟩ = some x ∧ Rel ρ v x) (hb : ∀ v ∈ vs, v.bel m.length) :
    ∃ ρ', ρ.le ρ' ∧ ρ' m.length = some ⟨B, O, vs.length, false⟩ ∧ Ld ρ' (m ++ [⟨vs, 1⟩]) w := by
  have hd := h.sim.dom
  have hle : ρ.le (fun b => if b = m.length then some ⟨B, O, vs.length, false⟩ else ρ b) := fun b p hp => by
    have := (hd b p hp).1
    show (if b = m.length then _ else _) = _
    rw [if_neg (by omega)]; exact hp
  refine ⟨_, hle, if_pos rfl, ⟨?_, ?_, ?_, ?_⟩, ?_, ?_⟩
  · intro b p hp
    replace hp : (if b = m.length then some (⟨B, O, vs.length, false⟩ : Pl) else ρ b) = some p := hp
    split at hp
    · injection hp with hp; subst hp; simp; omega
    · have := hd b p hp; simp; omega
  · intro b p k hp hk hst i v hv
    replace hp : (if b = m.length then some (⟨B, O, vs.length, false⟩ : Pl) else ρ b) = some p := hp
    split at hp
    · rename_i hbe
      subst hbe
      injection hp with hp; subst hp
      simp at hk; subst hk
      obtain ⟨h1, x, h2, h3⟩ := hc i v hv
      exact ⟨h1, x, h2, h3.mono hle⟩
    · have hbm := (hd b p hp).1
      rw [List.getElem?_append_left hbm] at hk
      obtain ⟨h1, x, h2, h3⟩ := h.sim.cell b p k hp hk hst i v hv
      exact ⟨h1, x, h2, h3.mono hle⟩
  · intro b p k hp hk hst
    exfalso
    rcases Nat.lt_or_ge b m.length with hb | hb
    · rw [List.getElem?_append_left hb] at hk
      have := h.ro b k hk; omega
    · rw [List.getElem?_append_right hb] at hk
      cases e : b - m.length with
      | zero => rw [e] at hk; simp at hk; subst hk; simp at hst
      | succ n => rw [e] at hk; simp at hk
  · intro b p k b' p' k' hp hk hst
    exfalso
    rcases Nat.lt_or_ge b m.length with hb | hb
    · rw [List.getElem?_append_left hb] at hk
      have := h.ro b k hk; omega
    · rw [List.getElem?_append_right hb] at hk
      cases e : b - m.length with
      | zero => rw [e] at hk; simp at hk; subst hk; simp at hst
      | succ n => rw [e] at hk; simp at hk
  · intro b k hk
    rcases Nat.lt_or_ge b m.length with hb | hb
    · rw [List.getElem?_append_left hb] at hk; exact h.ro b k hk
    · rw [List.getElem?_append_right hb] at hk
      cases e : b - m.length with
      | zero => rw [e] at hk; simp at hk; subst hk; rfl
      | succ n => rw [e] at hk; simp at hk
  · exact h.sc.new fun v hv => V.bel_mono (by omega) v (hb v hv)
variable {H : Type} {enc : TypeId × Value → H} {w : World}
theorem cell_lt {a : Addr} {x : Value} (h : w.cell? a = some x) : a.block < w.heap.size ∧ a.spot = none := by
  unfold World.cell? at h
  split at h
  · rename_i e
    refine ⟨(Array.getElem?_eq_some_iff.1 e).1, ?_⟩
    split at h
    · cases h
    · rename_i hs
      cases hs' : a.spot with
      | none => rfl
      | some _ => rw [hs'] at hs; simp at hs
  · cases h
theorem add_eq {a : Addr} (h : a.spot = none) (i : Nat) : a.add i = ⟨a.block, a.off + i, none⟩ := by
  obtain ⟨b, o, s⟩ := a
  simp only at h
  subst h
  unfold Addr.add
  split
  · subst_vars; rfl
  · rfl
theorem ld_ints {fuel : Nat} {c : Value} {x : DataW H × List MemPlace} (h : DataW.trod enc Tryz.prog w 0 (fun _ => true) true fuel 22 [c] = some x) :
    ∃ l : List Int, (((x.1).weights Tryz.prog 22).all (· ≤ reachBytes) = true → l.length ≤ 17592186044416) ∧ (∀ y ∈ l, -9223372036854775808 ≤ y ∧ y ≤ 9223372036854775807) ∧
      ∀ (ρ : Rho) (m : Mem), Ld ρ m w → ∃ ρ' m' v, Got ρ m w c ρ' m' v ∧ Ints m' v l := by
  rcases open_ints Tryz.underlying22 Tryz.underlying3 (by kernel_rfl) h with ⟨hcs, rfl⟩ | ⟨a, len, cap, zs, hcs, _, hl, hm, hz, rfl, hcell, hwf⟩
  · simp at hcs
    subst hcs
    exact ⟨[], by simp, by simp, fun ρ m hL => ⟨ρ, m, .nils, ⟨fun _ _ h => h, List.prefix_refl _, hL, rfl, trivial, rfl⟩, .inl ⟨rfl, rfl⟩⟩⟩
  · simp at hcs
    subst hcs
    simp at hz
    refine ⟨zs.take len, fun hw => ?_, fun y hy => ?_, fun ρ m hL => ?_⟩
    · have hb : Tryz.prog.bytesOf 3 = 8 := by kernel_rfl
      simp [DataW.weights, Tryz.underlying22, lits, hb, reachBytes] at hw
      have := of_decide_eq_true hw.1
      simp
      omega
    · have := hwf y (List.mem_of_mem_take hy)
      simp [Lit.wf] at this
      exact this
    · by_cases hc0 : cap = 0
      · subst hc0
        obtain rfl : len = 0 := by omega
        exact ⟨ρ, m, .sle, ⟨fun _ _ h => h, List.prefix_refl _, hL, ⟨a, rfl⟩, trivial, rfl⟩, .inr (.inl ⟨rfl, by simp⟩)⟩
      · have h0 := hcell 0 (by omega)
        rw [show a.add 0 = a from rfl] at h0
        obtain ⟨hB, hs⟩ := cell_lt h0
        obtain ⟨ρ', k1, k2, k3⟩ := hL.add (B := a.block) (O := a.off) (vs := zs.map I) hB (fun i v hv => by
          obtain ⟨hi, rfl⟩ := List.getElem?_eq_some_iff.1 hv
          simp at hi
          have h1 := hcell i (by omega)
          rw [add_eq hs] at h1
          refine ⟨by simp, _, h1, ?_⟩
          simp [Rel, hi]) (fun v hv => by obtain ⟨z, hz', rfl⟩ := List.mem_map.1 hv; trivial)
        have hlt : (zs.take len).length = len := by simp; omega
        refine ⟨ρ', _, .sl m.length 0 len cap 1 true, ⟨k1, List.prefix_append _ _, k3, ?_, by simp [V.bel], rfl⟩, .inr (.inr ⟨m.length, 0, cap, true, ⟨zs.map I, 1⟩, by rw [hlt], by simp, by simp, by omega, fun i hi => ?_⟩)⟩
        · have e : (⟨a.block, a.off, none⟩ : Addr) = a := by rw [← hs]
          refine ⟨_, a.off, cap, k2, by rw [e], hl, Nat.le_refl _, fun _ => rfl, fun _ => by simp, by simp, by simp⟩
        · rw [hlt] at hi
          refine ⟨I ((zs.take len)[i]), ?_, rfl⟩
          simp
theorem weightsAll_eq (P : Program) (e : TypeId) : ∀ l : List (DataW H), DataW.weightsAll P e l = l.flatMap (DataW.weights P e)
  | [] => rfl
  | d :: l => by rw [DataW.weightsAll, weightsAll_eq P e l]; rfl
theorem cellsOf22 : Tryz.prog.cellsOf 22 = 1 := by kernel_rfl
theorem ld_rows {fuel : Nat} {c : Value} {x : DataW H × List MemPlace} (h : DataW.trod enc Tryz.prog w 0 (fun _ => true) true fuel 25 [c] = some x) :
    ∃ l : List (List Int), (((x.1).weights Tryz.prog 25).all (· ≤ reachBytes) = true → l.length ≤ 17592186044416 ∧ ∀ i, i < l.length → (Ff.rw_ l i).length ≤ 17592186044416) ∧
      ∀ (ρ : Rho) (m : Mem), Ld ρ m w → ∃ ρ' m' v, Got ρ m w c ρ' m' v ∧ Rows m' v l := by
  rcases DataW.trod_slice Tryz.underlying25 h with ⟨hcs, rfl⟩ | ⟨a, len, cap, elems, rest, n, _, hcs, rfl, hb, hl, hm, hlen, hel, hsp, hns⟩
  · simp at hcs
    subst hcs
    exact ⟨[], by simp, fun ρ m hL => ⟨ρ, m, .nils, ⟨fun _ _ h => h, List.prefix_refl _, hL, rfl, trivial, rfl⟩, .inl ⟨rfl, rfl⟩⟩⟩
  · simp at hcs
    subst hcs
    rw [cellsOf22] at hel hsp
    -- each element
    have each : ∀ i (hi : i < elems.length), ∃ c', w.cell? (a.add i) = some c' ∧ ∃ l : List Int, (((elems[i].1).weights Tryz.prog 22).all (· ≤ reachBytes) = true → l.length ≤ 17592186044416) ∧
        ∀ (ρ : Rho) (m : Mem), Ld ρ m w → ∃ ρ' m' v, Got ρ m w c' ρ' m' v ∧ Ints m' v l := by
      intro i hi
      have h1 := hel i (by omega)
      rw [List.getElem?_eq_getElem hi, Option.bind_eq_some_iff] at h1
      obtain ⟨cs, h2, h3⟩ := h1
      obtain ⟨_, h4, h5⟩ := World.cells?_some h2
      obtain ⟨c', rfl⟩ : ∃ c', cs = [c'] := by
        match cs, h4 with
        | [c'], _ => exact ⟨c', rfl⟩
      obtain ⟨l, hl1, _, hl2⟩ := ld_ints h3
      have h6 := h5 0 (by omega)
      rw [Nat.mul_one] at h6
      exact ⟨c', h6, l, hl1, hl2⟩
    -- the first k elements
    have all : ∀ k, k ≤ elems.length → ∃ ls : List (List Int), ls.length = k ∧ (∀ i (hi : i < ls.length) (hi2 : i < elems.length), ((elems[i].1).weights Tryz.prog 22).all (· ≤ reachBytes) = true → ls[i].length ≤ 17592186044416) ∧
        ∀ (ρ : Rho) (m : Mem), Ld ρ m w → ∃ (ρ' : Rho) (m' : Mem) (vs : List V), ρ.le ρ' ∧ Pre m m' ∧ Ld ρ' m' w ∧ vs.length = k ∧ ∀ i (hi : i < k), ∃ v c' l, vs[i]? = some v ∧ w.cell? (a.add i) = some c' ∧ ls[i]? = some l ∧ Rel ρ' v c' ∧ v.bel m'.length ∧ v.isCell = true ∧ Ints m' v l := by
      intro k
      induction k with
      | zero => exact fun _ => ⟨[], rfl, by simp, fun ρ m hL => ⟨ρ, m, [], fun _ _ h => h, List.prefix_refl _, hL, rfl, fun i hi => by omega⟩⟩
      | succ k ih =>
        intro hk
        obtain ⟨ls, e1, e2, e3⟩ := ih (by omega)
        obtain ⟨c', f1, l, f2, f3⟩ := each k (by omega)
        refine ⟨ls ++ [l], by simp [e1], fun i hi hi2 hwt => ?_, fun ρ m hL => ?_⟩
        · by_cases hik : i < ls.length
          · rw [List.getElem_append_left hik]; exact e2 i hik hi2 hwt
          · have : i = k := by simp at hi; omega
            subst this
            rw [List.getElem_append_right (by omega)]
            simpa using f2 hwt
        · obtain ⟨ρ1, m1, vs, g1, g2, g3, g4, g5⟩ := e3 ρ m hL
          obtain ⟨ρ2, m2, v, ⟨p1, p2, p3, p4, p5, p6⟩, p7⟩ := f3 ρ1 m1 g3
          refine ⟨ρ2, m2, vs ++ [v], fun b p hp => p1 _ _ (g1 _ _ hp), g2.trans p2, p3, by simp [g4], fun i hi => ?_⟩
          by_cases hik : i < k
          · obtain ⟨v', c'', l', q1, q2, q3, q4, q5, q6, q7⟩ := g5 i hik
            exact ⟨v', c'', l', by rw [List.getElem?_append_left (by omega)]; exact q1, q2, by rw [List.getElem?_append_left (by omega)]; exact q3, q4.mono p1, V.bel_mono (Pre.len p2) _ q5, q6, q7.pre p2⟩
          · have : i = k := by omega
            subst this
            exact ⟨v, c', l, by rw [← g4]; simp, f1, by rw [← e1]; simp, p4, p5, p6, p7⟩
    obtain ⟨ls, e1, e2, e3⟩ := all elems.length (Nat.le_refl _)
    refine ⟨ls, fun hw => ?_, fun ρ m hL => ?_⟩
    · have hb : Tryz.prog.bytesOf 22 = 24 := by kernel_rfl
      simp only [DataW.weights, Tryz.underlying25, hb, weightsAll_eq, List.all_cons, List.all_append, Bool.and_eq_true, List.length_map] at hw
      obtain ⟨h1, h2, _⟩ := hw
      have h1 := of_decide_eq_true h1
      simp only [reachBytes] at h1
      refine ⟨by omega, fun i hi => ?_⟩
      have hi2 : i < elems.length := by omega
      have := e2 i hi hi2 (List.all_eq_true.2 fun y hy => List.all_eq_true.1 h2 y (List.mem_flatMap.2 ⟨elems[i].1, List.mem_map.2 ⟨_, List.getElem_mem hi2, rfl⟩, hy⟩))
      simpa [Ff.rw_, hi] using this
    · obtain ⟨ρ1, m1, vs, g1, g2, g3, g4, g5⟩ := e3 ρ m hL
      by_cases hc0 : cap = 0
      · subst hc0
        have : ls = [] := List.length_eq_zero_iff.1 (by omega)
        subst this
        obtain rfl : len = 0 := by omega
        exact ⟨ρ, m, .sle, ⟨fun _ _ h => h, List.prefix_refl _, hL, ⟨a, rfl⟩, trivial, rfl⟩, .inr (.inl ⟨rfl, rfl⟩)⟩
      · have hs : w.cell? a ≠ none := by
          by_cases hl0 : 0 < len
          · obtain ⟨c', f1, _⟩ := each 0 (by omega)
            rw [show a.add 0 = a from rfl] at f1
            rw [f1]; simp
          · obtain rfl : len = 0 := by omega
            obtain ⟨r1, r2⟩ := hsp rfl
            have h1 := r2 0 (by omega)
            rw [List.getElem?_eq_getElem (by omega), Option.bind_eq_some_iff] at h1
            obtain ⟨cs, h2, h3⟩ := h1
            obtain ⟨_, h4, h5⟩ := World.cells?_some h2
            have h6 := h5 0 (by omega)
            have hz : (a.add ((0 + 0) * 1)).add 0 = a := rfl
            rw [hz] at h6
            rw [h6]
            match cs, h4 with
            | [c'], _ => simp
        obtain ⟨xa, h0⟩ := Option.ne_none_iff_exists'.1 hs
        obtain ⟨hB, hs⟩ := cell_lt h0
        obtain ⟨ρ', k1, k2, k3⟩ := g3.add (B := a.block) (O := a.off) (vs := vs) hB (fun i v hv => by
          have hi := (List.getElem?_eq_some_iff.1 hv).1
          obtain ⟨v', c', l, q1, q2, q3, q4, q5, q6, q7⟩ := g5 i (by omega)
          rw [hv] at q1
          obtain rfl := Option.some.inj q1
          rw [add_eq hs] at q2
          exact ⟨q6, c', q2, q4⟩) (fun v hv => by
          obtain ⟨i, hi, rfl⟩ := List.mem_iff_getElem.1 hv
          obtain ⟨v', c', l, q1, q2, q3, q4, q5, q6, q7⟩ := g5 i (by omega)
          rw [List.getElem?_eq_getElem hi] at q1
          obtain rfl := Option.some.inj q1
          exact q5)
        refine ⟨ρ', _, .sl m1.length 0 len len 1 false, ⟨fun b p hp => k1 _ _ (g1 _ _ hp), g2.trans (List.prefix_append _ _), k3, ?_, by simp [V.bel], rfl⟩, .inr (.inr ⟨m1.length, 0, len, false, ⟨vs, 1⟩, by rw [e1, hlen], by simp, by simp, by omega, fun i hi => ?_⟩)⟩
        · have e : (⟨a.block, a.off, none⟩ : Addr) = a := by rw [← hs]
          exact ⟨_, a.off, cap, k2, by rw [e], Nat.le_refl _, hl, fun h => by simp at h, fun _ => by simp, by simp, fun h => by simp at h⟩
        · obtain ⟨v', c', l, q1, q2, q3, q4, q5, q6, q7⟩ := g5 i (by omega)
          refine ⟨v', by rw [Nat.zero_add]; exact q1, ?_⟩
          rw [List.getElem?_eq_getElem hi] at q3
          obtain rfl := Option.some.inj q3
          exact q7.pre (List.prefix_append _ _)
end Go.Proofs.YtefjnnghfloddaaGreat.Abs

/- The law's input, as it is read: a configuration. -/
namespace Go.Proofs.YtefjnnghfloddaaGreat.Abs
open Go.ChangeShapes
set_option linter.unusedVariables false
set_option linter.unusedSimpArgs false
set_option linter.unusedSectionVars false
variable {H : Type} {enc : TypeId × Value → H} {w : World}
def Lds (w : World) (cs : List Value) (R : Mem → List V → Prop) : Prop :=
  ∀ (ρ : Rho) (m : Mem), Ld ρ m w → ∃ (ρ' : Rho) (m' : Mem) (vs : List V), ρ.le ρ' ∧ Pre m m' ∧ Ld ρ' m' w ∧ RelL ρ' vs cs ∧ belL m'.length vs ∧ (vs.all V.isCell) = true ∧ R m' vs
theorem RelL.le {ρ ρ' : Rho} {vs : List V} {cs : List Value} (h : RelL ρ vs cs) (hl : ρ.le ρ') : RelL ρ' vs cs := RelL.mono hl vs cs h
theorem Lds.app {cs cs' : List Value} {R R' : Mem → List V → Prop} (h : Lds w cs R) (h' : Lds w cs' R') (hR : ∀ m m' vs, Pre m m' → R m vs → R m' vs) : Lds w (cs ++ cs') fun m vs => ∃ a b, vs = a ++ b ∧ R m a ∧ R' m b := by
  intro ρ m hL
  obtain ⟨ρ1, m1, a, a1, a2, a3, a4, a5, a6, a7⟩ := h ρ m hL
  obtain ⟨ρ2, m2, b, b1, b2, b3, b4, b5, b6, b7⟩ := h' ρ1 m1 a3
  refine ⟨ρ2, m2, a ++ b, fun x p hp => b1 _ _ (a1 _ _ hp), a2.trans b2, b3, (a4.le b1).append b4, belL_append (belL_iff.2 fun v hv => V.bel_mono (Pre.len b2) v (belL_iff.1 a5 v hv)) b5, by simp only [List.all_append, a6, b6]; rfl, a, b, rfl, hR _ _ _ b2 a7, b7⟩
theorem Lds.imp {cs : List Value} {R R' : Mem → List V → Prop} (h : Lds w cs R) (hR : ∀ m vs, R m vs → R' m vs) : Lds w cs R' := by
  intro ρ m hL
  obtain ⟨ρ1, m1, a, a1, a2, a3, a4, a5, a6, a7⟩ := h ρ m hL
  exact ⟨ρ1, m1, a, a1, a2, a3, a4, a5, a6, hR _ _ a7⟩
def Rng (y : Int) : Prop := -9223372036854775808 ≤ y ∧ y ≤ 9223372036854775807
theorem lds_int {t : TypeId} (ht : Tryz.prog.underlying t = some (.int .i64)) {fuel : Nat} {cs : List Value} {x : DataW H × List MemPlace} (h : DataW.trod enc Tryz.prog w 0 (fun _ => true) true fuel t cs = some x) : ∃ y, Rng y ∧ Lds w cs fun m vs => vs = [I y] := by
  obtain ⟨y, rfl, rfl, hw⟩ := DataW.trod_int ht h
  refine ⟨y, by simp [Lit.wf] at hw; exact hw, fun ρ m hL => ⟨ρ, m, [I y], fun _ _ h => h, List.prefix_refl _, hL, ?_, by simp [belL, V.bel], by simp, rfl⟩⟩
  simp [RelL, Rel]
theorem Got.lds {c : Value} {R : Mem → V → Prop} (h : ∀ (ρ : Rho) (m : Mem), Ld ρ m w → ∃ ρ' m' v, Got ρ m w c ρ' m' v ∧ R m' v) : Lds w [c] fun m vs => ∃ v, vs = [v] ∧ R m v := by
  intro ρ m hL
  obtain ⟨ρ', m', v, ⟨h1, h2, h3, h4, h5, h6⟩, h7⟩ := h ρ m hL
  refine ⟨ρ', m', [v], h1, h2, h3, ?_, ?_, ?_, v, rfl, h7⟩
  · simp only [RelL]; exact ⟨c, [], rfl, h4, rfl⟩
  · simp only [belL]; exact ⟨h5, trivial⟩
  · simp only [List.all_cons, h6]; rfl
def Sized (t : TypeId) (d : DataW H) : Prop := (d.weights Tryz.prog t).all (· ≤ reachBytes) = true
theorem lds_ints {fuel : Nat} {cs : List Value} {x : DataW H × List MemPlace} (h : DataW.trod enc Tryz.prog w 0 (fun _ => true) true fuel 22 cs = some x) :
    ∃ l : List Int, (Sized 22 x.1 → l.length ≤ 17592186044416) ∧ (∀ y ∈ l, Rng y) ∧ Lds w cs fun m vs => ∃ v, vs = [v] ∧ Ints m v l := by
  obtain ⟨c, rfl⟩ : ∃ c, cs = [c] := by
    rcases DataW.trod_slice Tryz.underlying22 h with ⟨hcs, _⟩ | ⟨a, len, cap, elems, rest, n, _, hcs, _⟩ <;> exact ⟨_, hcs⟩
  obtain ⟨l, h1, h2, h3⟩ := ld_ints h
  exact ⟨l, h1, h2, Got.lds h3⟩
theorem lds_rows {fuel : Nat} {cs : List Value} {x : DataW H × List MemPlace} (h : DataW.trod enc Tryz.prog w 0 (fun _ => true) true fuel 25 cs = some x) :
    ∃ l : List (List Int), (Sized 25 x.1 → l.length ≤ 17592186044416 ∧ ∀ i, i < l.length → (Ff.rw_ l i).length ≤ 17592186044416) ∧ Lds w cs fun m vs => ∃ v, vs = [v] ∧ Rows m v l := by
  obtain ⟨c, rfl⟩ : ∃ c, cs = [c] := by
    rcases DataW.trod_slice Tryz.underlying25 h with ⟨hcs, _⟩ | ⟨a, len, cap, elems, rest, n, _, hcs, _⟩ <;> exact ⟨_, hcs⟩
  obtain ⟨l, h1, h3⟩ := ld_rows h
  exact ⟨l, h1, Got.lds h3⟩
theorem cellsOf24 : Tryz.prog.cellsOf 24 = 3 := by kernel_rfl
theorem cellsOf25 : Tryz.prog.cellsOf 25 = 1 := by kernel_rfl
theorem cellsOf3 : Tryz.prog.cellsOf 3 = 1 := by kernel_rfl
theorem cellsOf27 : Tryz.prog.cellsOf 27 = 5 := by kernel_rfl
theorem cellsOf29 : Tryz.prog.cellsOf 29 = 1 := by kernel_rfl
theorem cellsOf31 : Tryz.prog.cellsOf 31 = 9 := by kernel_rfl
theorem sized_agg {t : TypeId} {fs : Array Field} (ht : Tryz.prog.underlying t = some (.struct fs)) {l : List (DataW H)} (h : Sized t (.agg l)) : (DataW.weightsEach Tryz.prog (fs.toList.map (·.type)) l).all (· ≤ reachBytes) = true := by
  simp only [Sized, DataW.weights, ht] at h
  exact h
theorem len3 {α : Type} : ∀ {l : List α}, l.length = 3 → ∃ a b c, l = [a, b, c]
  | [a, b, c], _ => ⟨a, b, c, rfl⟩
theorem len5 {α : Type} : ∀ {l : List α}, l.length = 5 → ∃ a b c d e, l = [a, b, c, d, e]
  | [a, b, c, d, e], _ => ⟨a, b, c, d, e, rfl⟩
theorem len9 {α : Type} : ∀ {l : List α}, l.length = 9 → ∃ a b c d e f g h i, l = [a, b, c, d, e, f, g, h, i]
  | [a, b, c, d, e, f, g, h, i], _ => ⟨a, b, c, d, e, f, g, h, i, rfl⟩
theorem len1 {α : Type} : ∀ {l : List α}, l.length = 1 → ∃ a, l = [a]
  | [a], _ => ⟨a, rfl⟩
theorem lds_field {fuel : Nat} {cs : List Value} {x : DataW H × List MemPlace} (h : DataW.trod enc Tryz.prog w 0 (fun _ => true) true fuel 24 cs = some x) :
    ∃ (p n : Int) (mod : List Int), Rng p ∧ Rng n ∧ (∀ y ∈ mod, Rng y) ∧ (Sized 24 x.1 → mod.length ≤ 17592186044416) ∧ Lds w cs fun m vs => ∃ vm, vs = [I p, I n, vm] ∧ Ints m vm mod := by
  obtain ⟨xs, n', _, rfl, hl, hlen, hf⟩ := DataW.trod_struct Tryz.underlying24 h
  rw [cellsOf24] at hl
  have hlen : xs.length = 3 := hlen
  obtain ⟨c0, c1, c2, rfl⟩ := len3 hl
  obtain ⟨x0, x1, x2, rfl⟩ := len3 hlen
  ·
    have f0 : DataW.trod enc Tryz.prog w 0 (fun _ => true) true n' 3 ((([c0, c1, c2] : List Value).drop 0).take (Tryz.prog.cellsOf 3)) = some x0 := hf 0 _ rfl
    rw [cellsOf3] at f0
    have f1 : DataW.trod enc Tryz.prog w 0 (fun _ => true) true n' 3 ((([c0, c1, c2] : List Value).drop 1).take (Tryz.prog.cellsOf 3)) = some x1 := hf 1 _ rfl
    rw [cellsOf3] at f1
    have f2 : DataW.trod enc Tryz.prog w 0 (fun _ => true) true n' 22 ((([c0, c1, c2] : List Value).drop 2).take (Tryz.prog.cellsOf 22)) = some x2 := hf 2 _ rfl
    rw [cellsOf22] at f2
    obtain ⟨p, hp, l0⟩ := lds_int Tryz.underlying3 f0
    obtain ⟨n, hn, l1⟩ := lds_int Tryz.underlying3 f1
    obtain ⟨mod, hm1, hm2, l2⟩ := lds_ints f2
    refine ⟨p, n, mod, hp, hn, hm2, fun hs => hm1 ?_, ?_⟩
    · have h3 : (DataW.weightsEach Tryz.prog [3, 3, 22] [x0.1, x1.1, x2.1]).all (· ≤ reachBytes) = true := sized_agg Tryz.underlying24 hs
      simp only [DataW.weightsEach, List.all_append, Bool.and_eq_true] at h3
      exact h3.2.2.1
    · refine ((l0.app (l1.app l2 (fun m m' vs _ h => h)) (fun m m' vs _ h => h)).imp ?_ : Lds w ([c0] ++ ([c1] ++ [c2])) _)
      rintro m vs ⟨a, b, rfl, rfl, a', b', rfl, rfl, v, rfl, hv⟩
      exact ⟨v, rfl, hv⟩
theorem lds_code {fuel : Nat} {cs : List Value} {x : DataW H × List MemPlace} (h : DataW.trod enc Tryz.prog w 0 (fun _ => true) true fuel 27 cs = some x) :
    ∃ (p n : Int) (mod : List Int) (N : Int) (gen : List (List Int)), Rng p ∧ Rng n ∧ (∀ y ∈ mod, Rng y) ∧ Rng N ∧ (Sized 27 x.1 → mod.length ≤ 17592186044416 ∧ gen.length ≤ 17592186044416 ∧ ∀ i, i < gen.length → (Ff.rw_ gen i).length ≤ 17592186044416) ∧
      Lds w cs fun m vs => ∃ vm gv, vs = [I p, I n, vm, I N, gv] ∧ Ints m vm mod ∧ Rows m gv gen := by
  obtain ⟨xs, n', _, rfl, hl, hlen, hf⟩ := DataW.trod_struct Tryz.underlying27 h
  rw [cellsOf27] at hl
  have hlen : xs.length = 3 := hlen
  obtain ⟨c0, c1, c2, c3, c4, rfl⟩ := len5 hl
  obtain ⟨x0, x1, x2, rfl⟩ := len3 hlen
  ·
    have f0 : DataW.trod enc Tryz.prog w 0 (fun _ => true) true n' 24 ((([c0, c1, c2, c3, c4] : List Value).drop 0).take (Tryz.prog.cellsOf 24)) = some x0 := hf 0 _ rfl
    rw [cellsOf24] at f0
    have f1 : DataW.trod enc Tryz.prog w 0 (fun _ => true) true n' 3 ((([c0, c1, c2, c3, c4] : List Value).drop 3).take (Tryz.prog.cellsOf 3)) = some x1 := hf 1 _ rfl
    rw [cellsOf3] at f1
    have f2 : DataW.trod enc Tryz.prog w 0 (fun _ => true) true n' 25 ((([c0, c1, c2, c3, c4] : List Value).drop 4).take (Tryz.prog.cellsOf 25)) = some x2 := hf 2 _ rfl
    rw [cellsOf25] at f2
    obtain ⟨p, n, mod, hp, hn, hm, hms, l0⟩ := lds_field f0
    obtain ⟨N, hN, l1⟩ := lds_int Tryz.underlying3 f1
    obtain ⟨gen, hg, l2⟩ := lds_rows f2
    refine ⟨p, n, mod, N, gen, hp, hn, hm, hN, fun hs => ?_, ?_⟩
    · have h3 : (DataW.weightsEach Tryz.prog [24, 3, 25] [x0.1, x1.1, x2.1]).all (· ≤ reachBytes) = true := sized_agg Tryz.underlying27 hs
      simp only [DataW.weightsEach, List.all_append, Bool.and_eq_true] at h3
      exact ⟨hms h3.1, hg h3.2.2.1⟩
    · refine ((l0.app (l1.app l2 (fun m m' vs _ h => h)) ?_).imp ?_ : Lds w ([c0, c1, c2] ++ ([c3] ++ [c4])) _)
      · rintro m m' vs hp ⟨vm, rfl, hv⟩
        exact ⟨vm, rfl, hv.pre hp⟩
      · rintro m vs ⟨a, b, rfl, ⟨vm, rfl, hvm⟩, a', b', rfl, rfl, v, rfl, hv⟩
        exact ⟨vm, v, rfl, hvm, hv⟩
theorem lds_excl {fuel : Nat} {cs : List Value} {x : DataW H × List MemPlace} (h : DataW.trod enc Tryz.prog w 0 (fun _ => true) true fuel 29 cs = some x) :
    ∃ l : List (List Int), (Sized 29 x.1 → l.length ≤ 17592186044416 ∧ ∀ i, i < l.length → (Ff.rw_ l i).length ≤ 17592186044416) ∧ Lds w cs fun m vs => ∃ v, vs = [v] ∧ Rows m v l := by
  obtain ⟨xs, n', _, rfl, hl, hlen, hf⟩ := DataW.trod_struct Tryz.underlying29 h
  rw [cellsOf29] at hl
  have hlen : xs.length = 1 := hlen
  obtain ⟨c0, rfl⟩ := len1 hl
  obtain ⟨x0, rfl⟩ := len1 hlen
  ·
    have f0 : DataW.trod enc Tryz.prog w 0 (fun _ => true) true n' 25 ((([c0] : List Value).drop 0).take (Tryz.prog.cellsOf 25)) = some x0 := hf 0 _ rfl
    rw [cellsOf25] at f0
    obtain ⟨l, h1, l0⟩ := lds_rows f0
    refine ⟨l, fun hs => ?_, l0⟩
    have h3 : (DataW.weightsEach Tryz.prog [25] [x0.1]).all (· ≤ reachBytes) = true := sized_agg Tryz.underlying29 hs
    simp only [DataW.weightsEach, List.all_append, Bool.and_eq_true] at h3
    exact h1 h3.1
theorem lds_cfg {fuel : Nat} {cs : List Value} {x : DataW H × List MemPlace} (h : DataW.trod enc Tryz.prog w 0 (fun _ => true) true fuel 31 cs = some x) :
    ∃ (p n : Int) (mod : List Int) (N : Int) (gen : List (List Int)) (d : Int) (sets : List (List Int)) (racks : List Int) (wd : Int), Rng d ∧ Rng N ∧
      (Sized 31 x.1 → sets.length ≤ 17592186044416 ∧ ∀ i, i < sets.length → (Ff.rw_ sets i).length ≤ 17592186044416) ∧
      Lds w cs fun m vs => ∃ vm gv sv rv, vs = [I p, I n, vm, I N, gv, I d, sv, rv, I wd] ∧ Ints m vm mod ∧ Rows m gv gen ∧ Rows m sv sets ∧ Ints m rv racks := by
  obtain ⟨xs, n', _, rfl, hl, hlen, hf⟩ := DataW.trod_struct Tryz.underlying31 h
  rw [cellsOf31] at hl
  have hlen : xs.length = 5 := hlen
  obtain ⟨c0, c1, c2, c3, c4, c5, c6, c7, c8, rfl⟩ := len9 hl
  obtain ⟨x0, x1, x2, x3, x4, rfl⟩ := len5 hlen
  ·
    have f0 : DataW.trod enc Tryz.prog w 0 (fun _ => true) true n' 27 ((([c0, c1, c2, c3, c4, c5, c6, c7, c8] : List Value).drop 0).take (Tryz.prog.cellsOf 27)) = some x0 := hf 0 _ rfl
    rw [cellsOf27] at f0
    have f1 : DataW.trod enc Tryz.prog w 0 (fun _ => true) true n' 3 ((([c0, c1, c2, c3, c4, c5, c6, c7, c8] : List Value).drop 5).take (Tryz.prog.cellsOf 3)) = some x1 := hf 1 _ rfl
    rw [cellsOf3] at f1
    have f2 : DataW.trod enc Tryz.prog w 0 (fun _ => true) true n' 29 ((([c0, c1, c2, c3, c4, c5, c6, c7, c8] : List Value).drop 6).take (Tryz.prog.cellsOf 29)) = some x2 := hf 2 _ rfl
    rw [cellsOf29] at f2
    have f3 : DataW.trod enc Tryz.prog w 0 (fun _ => true) true n' 22 ((([c0, c1, c2, c3, c4, c5, c6, c7, c8] : List Value).drop 7).take (Tryz.prog.cellsOf 22)) = some x3 := hf 3 _ rfl
    rw [cellsOf22] at f3
    have f4 : DataW.trod enc Tryz.prog w 0 (fun _ => true) true n' 3 ((([c0, c1, c2, c3, c4, c5, c6, c7, c8] : List Value).drop 8).take (Tryz.prog.cellsOf 3)) = some x4 := hf 4 _ rfl
    rw [cellsOf3] at f4
    obtain ⟨p, n, mod, N, gen, hp, hn, hm, hN, hms, l0⟩ := lds_code f0
    obtain ⟨d, hd, l1⟩ := lds_int Tryz.underlying3 f1
    obtain ⟨sets, hs, l2⟩ := lds_excl f2
    obtain ⟨racks, hr, hr2, l3⟩ := lds_ints f3
    obtain ⟨wd, hwd, l4⟩ := lds_int Tryz.underlying3 f4
    refine ⟨p, n, mod, N, gen, d, sets, racks, wd, hd, hN, fun hsz => ?_, ?_⟩
    · have h3 : (DataW.weightsEach Tryz.prog [27, 3, 29, 22, 3] [x0.1, x1.1, x2.1, x3.1, x4.1]).all (· ≤ reachBytes) = true := sized_agg Tryz.underlying31 hsz
      simp only [DataW.weightsEach, List.all_append, Bool.and_eq_true] at h3
      exact hs h3.2.2.1
    · have hI : ∀ (l : List Int) (m m' : Mem) (vs : List V), Pre m m' → (∃ v, vs = [v] ∧ Ints m v l) → ∃ v, vs = [v] ∧ Ints m' v l := by
        rintro l m m' vs hp ⟨v, rfl, hv⟩
        exact ⟨v, rfl, hv.pre hp⟩
      have hR : ∀ (l : List (List Int)) (m m' : Mem) (vs : List V), Pre m m' → (∃ v, vs = [v] ∧ Rows m v l) → ∃ v, vs = [v] ∧ Rows m' v l := by
        rintro l m m' vs hp ⟨v, rfl, hv⟩
        exact ⟨v, rfl, hv.pre hp⟩
      refine ((l0.app (l1.app (l2.app (l3.app l4 (hI _)) (hR _)) (fun m m' vs _ h => h)) ?_).imp ?_ : Lds w ([c0, c1, c2, c3, c4] ++ ([c5] ++ ([c6] ++ ([c7] ++ [c8])))) _)
      · rintro m m' vs hp ⟨vm, gv, rfl, hv, hg⟩
        exact ⟨vm, gv, rfl, hv.pre hp, hg.pre hp⟩
      · rintro m vs ⟨a, b, rfl, ⟨vm, gv, rfl, hvm, hgv⟩, a', b', rfl, rfl, a2, b2, rfl, ⟨sv, rfl, hsv⟩, a3, b3, rfl, ⟨rv, rfl, hrv⟩, rfl⟩
        exact ⟨vm, gv, sv, rv, rfl, hvm, hgv, hsv, hrv⟩
end Go.Proofs.YtefjnnghfloddaaGreat.Abs

/- The contract of slices.Sort, out of the kit's. -/
namespace Go.Proofs.YtefjnnghfloddaaGreat.Abs
open Go.Proofs
set_option linter.unusedVariables false
set_option linter.unusedSimpArgs false
def sortRen : Go.Shelf.Ren := ⟨fun | 189 => 37 | 125 => 69 | 257 => 68 | 128 => 110 | 129 => 111 | 294 => 101 | 295 => 102 | 296 => 103 | 297 => 104 | 298 => 105 | 299 => 106 | 216 => 107 | 300 => 108 | 301 => 109 | 328 => 134 | 329 => 135 | 330 => 136 | 331 => 137 | 332 => 138 | 215 => 139 | 343 => 159 | n => n,
  fun | 28 => 22 | 3 => 3 | 46 => 95 | 0 => 0 | 51 => 141 | 53 => 143 | 4 => 4 | 183 => 133 | 182 => 132 | 131 => 138 | 5 => 5 | 9 => 9 | 218 => 161 | 222 => 165 | 228 => 179 | 229 => 55 | n => n, fun n => n⟩
theorem sortLays : Lays.n189 Tryz.prog sortRen := by
  constructor <;> first | kernel_rfl | (intro w; kernel_rfl) | decide
theorem intsOf_eq : ∀ {cs : List V} {l : List Int}, intsOf cs = some l → cs = l.map (.int .i64 ·)
  | [], l, h => by simp [intsOf] at h; subst h; rfl
  | .int .i64 n :: cs, l, h => by
    simp only [intsOf, Option.map_eq_some_iff] at h
    obtain ⟨l', h1, rfl⟩ := h
    simp [intsOf_eq h1]
theorem sortX_some {args : List V} {m : Mem} {v : V} {m' : Mem} (h : sortX args m = some (v, m')) : ∃ (b c : Nat) (ex : Bool) (l : List Int), args = [.sl b 0 l.length c 1 ex] ∧ m[b]? = some ⟨l.map (.int .i64 ·), 2⟩ ∧ 0 < l.length ∧ l.length < 4611686018427387904 ∧ v = .tup [] ∧ m' = m.set b ⟨(l.mergeSort fun x y => decide (x ≤ y)).map (.int .i64 ·), 2⟩ := by
  unfold sortX at h
  split at h
  · rename_i b n c ex
    split at h
    · rename_i k hk
      split at h
      · rename_i hc
        simp only [Option.map_eq_some_iff, Prod.mk.injEq] at h
        obtain ⟨l, h1, rfl, rfl⟩ := h
        have := intsOf_eq h1
        obtain ⟨cells, st⟩ := k
        simp only at hc this
        obtain ⟨c1, c2, c3, c4⟩ := hc
        subst this
        subst c1
        simp at c2
        subst c2
        exact ⟨b, c, ex, l, rfl, hk, c3, c4, rfl, rfl⟩
      · cases h
    · cases h
  · cases h
theorem Sim.more {ρ : Rho} {m : Mem} {w w' : World} (S : Sim ρ m w) (h : ∀ k, k < w.heap.size → w'.heap[k]? = w.heap[k]?) (hs : w.heap.size ≤ w'.heap.size) : Sim ρ m w' where
  dom b p hp := by have := S.dom b p hp; exact ⟨this.1, by omega⟩
  cell b p k hp hk hst i v hv := by
    obtain ⟨h1, x, h2, h3⟩ := S.cell b p k hp hk hst i v hv
    exact ⟨h1, x, by rw [cell_congr (h _ (S.dom b p hp).2)]; exact h2, h3⟩
  own b p k hp hk hst := by
    obtain ⟨h1, h2, arr, ty, h3, h4⟩ := S.own b p k hp hk hst
    exact ⟨h1, h2, arr, ty, by rw [h _ (S.dom b p hp).2]; exact h3, h4⟩
  apart := S.apart
theorem putCells_put (arr : Array Value) (Q : Nat) (d : List Int) (hl : Q + d.length ≤ arr.size) : Go.Sort.putCells (Value.int .i64) Q d.toArray arr = (put arr.toList Q (d.map (Value.int .i64 ·))).toArray := by
  apply Array.ext_getElem?
  intro i
  simp only [Go.Sort.putCells, Array.getElem?_mapIdx, List.getElem?_toArray]
  rcases Nat.lt_or_ge i Q with h1 | h1
  · rw [put_get_lt _ _ _ _ h1, Array.getElem?_toList]
    cases arr[i]? with
    | none => rfl
    | some x => simp; omega
  · rcases Nat.lt_or_ge i (Q + d.length) with h2 | h2
    · have h3 := put_get_in arr.toList Q (d.map (Value.int .i64 ·)) (i - Q) (by simp; omega) (by simpa using hl)
      rw [show Q + (i - Q) = i by omega] at h3
      rw [h3, Array.getElem?_eq_getElem (by omega)]
      have h4 : i - Q < d.length := by omega
      simp [h1, h2, h4]
    · rw [put_get_ge _ _ _ _ (by simpa using h2), Array.getElem?_toList]
      cases arr[i]? with
      | none => rfl
      | some x => simp; omega
theorem sort_calls {ρ : Rho} {m m' : Mem} {w : World} {args : List V} {xs : Array Value} {v : V} (h : sortX args m = some (v, m')) (hr : RelL ρ args xs.toList) (S : Sim ρ m w) :
    Calls Tryz.prog 37 xs w fun e w' => ∃ ρ' x, e = .returned x ∧ Rel ρ' v x ∧ Sim ρ' m' w' ∧ Step ρ m w ρ' m' w' := by
  obtain ⟨b, c, ex, l, rfl, hb, hl0, hl1, rfl, rfl⟩ := sortX_some h
  simp only [RelL, Rel] at hr
  obtain ⟨_, _, hxs, ⟨p, Q, c', hp, rfl, hn, hcc, _, hQ, _, _⟩, rfl⟩ := hr
  obtain rfl := hQ (by omega)
  obtain rfl : xs = #[.slice (some ⟨p.B, p.O + 0, none⟩) l.length c'] := Array.toList_inj.1 hxs
  obtain ⟨hrw, hroom, arr, ty, harr, hsz⟩ := S.own b p _ hp hb rfl
  have hH : Go.Sort.Holds (Value.int .i64) w p.B (p.O + 0) l.toArray := by
    intro j hj
    have hj' : j < l.length := by simpa using hj
    obtain ⟨_, x, h1, h2⟩ := S.cell b p _ hp hb (by simp) j (.int .i64 l[j]) (by simp [hj'])
    simp only [Rel] at h2
    subst h2
    refine ⟨by rw [Nat.add_zero, h1, getElem!_pos _ j hj]; simp, frozen_of_heap harr⟩
  refine (Any.slices_Sort_int sortLays p.B (p.O + 0) c' l w hH (S.dom b p hp).2 hl1).mono fun e w' hh => ?_
  obtain ⟨rfl, n, os, rfl⟩ := hh
  obtain ⟨S1, st1⟩ := S.write (o := 0) (us := (l.mergeSort fun x y => decide (x ≤ y)).map (.int .i64 ·)) (ys := (l.mergeSort fun x y => decide (x ≤ y)).map (.int .i64 ·)) hp hb rfl (by
    generalize l.mergeSort _ = k
    induction k with
    | nil => rfl
    | cons y k ih => exact ⟨_, _, rfl, rfl, ih⟩) (by intro v hv; obtain ⟨z, _, rfl⟩ := List.mem_map.1 hv; rfl) (by simp [List.length_mergeSort]) rfl
  have hput : put (l.map (V.int .i64 ·)) 0 ((l.mergeSort fun x y => decide (x ≤ y)).map (V.int .i64 ·)) = (l.mergeSort fun x y => decide (x ≤ y)).map (V.int .i64 ·) := by
    apply List.ext_getElem?
    intro i
    rcases Nat.lt_or_ge i l.length with hi | hi
    · have := put_get_in (l.map (V.int .i64 ·)) 0 ((l.mergeSort fun x y => decide (x ≤ y)).map (V.int .i64 ·)) i (by simpa [List.length_mergeSort] using hi) (by simp [List.length_mergeSort])
      rwa [Nat.zero_add] at this
    · rw [put_get_ge _ _ _ _ (by simpa [List.length_mergeSort] using hi), List.getElem?_eq_none (by simpa using hi), List.getElem?_eq_none (by simpa [List.length_mergeSort] using hi)]
  rw [hput] at S1 st1
  obtain ⟨a1, a2, a3, a4, a5, a6⟩ := setCells_heap p.B ((l.mergeSort fun x y => decide (x ≤ y)).map (Value.int .i64 ·)) (p.O + 0) w arr ty (0, 0) harr
  generalize hw1 : w.setCells p.B (p.O + 0) ((l.mergeSort fun x y => decide (x ≤ y)).map (Value.int .i64 ·)) = w1 at *
  generalize hw2 : Go.Sort.grow (Go.Sort.putRow (Value.int .i64) (Go.Sort.ahead w n) p.B (p.O + 0) (l.mergeSort fun x y => decide (x ≤ y)).toArray) os = w2
  have hheap : w2.heap = w.heap.modify p.B (Go.Sort.onCells (Go.Sort.putCells (Value.int .i64) (p.O + 0) (l.mergeSort fun x y => decide (x ≤ y)).toArray)) ++ os := by rw [← hw2]; rfl
  have hsame : ∀ k, k < w1.heap.size → w2.heap[k]? = w1.heap[k]? := by
    intro k hk
    rw [a3] at hk
    rw [hheap, Array.getElem?_append_left (by simpa using hk), Array.getElem?_modify]
    by_cases hkB : p.B = k
    · subst hkB
      rw [if_pos rfl, a1, harr]
      simp only [Option.map_some, Go.Sort.onCells]
      congr 2
      exact putCells_put _ _ _ (by simp [List.length_mergeSort] at hroom ⊢; omega)
    · rw [if_neg hkB, a2 k (fun e => hkB e.symm)]
  have hsize : w1.heap.size ≤ w2.heap.size := by rw [hheap, a3]; simp
  have hos : w2.os = w1.os := by rw [a4, ← hw2]; rfl
  have htape : w2.tape = w1.tape := by rw [a5, ← hw2]; rfl
  have hout : w2.output = w1.output := by rw [a6, ← hw2]; rfl
  refine ⟨ρ, .tuple #[], rfl, by simp only [Rel, RelL]; exact ⟨#[], rfl, rfl⟩, S1.more hsame hsize, ?_⟩
  refine ⟨st1.ext, st1.len, Nat.le_trans st1.size hsize, fun B hB hno => ?_, hos.trans st1.os, htape.trans st1.tape, hout.trans st1.output, st1.st, st1.new⟩
  obtain ⟨k1, k2⟩ := st1.keep B hB hno
  exact ⟨(hsame B (Nat.lt_of_lt_of_le hB st1.size)).trans k1, k2⟩
theorem X_sound : CallSound Tryz.prog X := by
  intro f args m v m' h hs hb
  unfold X at h
  split at h
  · rename_i hf
    subst hf
    refine ⟨fun args' w => ?_, fun ρ w xs hr S => sort_calls h hr S⟩
    obtain ⟨c, hc⟩ : ∃ c, Tryz.f37.body = some c := ⟨_, rfl⟩
    have h3 : ¬ Tryz.f37.name = "runtime.NumGoroutine" := by
      have : (Tryz.f37.name == "runtime.NumGoroutine") = false := by kernel_rfl
      simpa using this
    simp [callFunc, Tryz.func37, h3, hc]
  · cases h
theorem X_good : CallGood X := by
  intro f args m v m' h hs hb
  unfold X at h
  split at h
  · obtain ⟨b, c, ex, l, rfl, hk, hl0, hl1, rfl, rfl⟩ := sortX_some h
    refine ⟨by simp [V.bel, belL], fun k hk2 v hv => ?_, by simp⟩
    rw [List.length_set]
    rcases List.mem_or_eq_of_mem_set hk2 with h1 | h1
    · exact hs k h1 v hv
    · subst h1
      simp only at hv
      obtain ⟨z, _, rfl⟩ := List.mem_map.1 hv
      trivial
  · cases h
end Go.Proofs.YtefjnnghfloddaaGreat.Abs

/- From the executor to the model's calls. -/
namespace Go.Proofs.YtefjnnghfloddaaGreat.Abs
open Go.RowKit
set_option linter.unusedVariables false
set_option linter.unusedSimpArgs false
theorem DD_sound : CallSound Tryz.prog DD := (D_sound T_ok F_ok X_sound X_good).1
theorem calls_of {ρ : Rho} {m : Mem} {w : World} {f : FuncId} {vs : List V} {xs : Array Value} {b : Bool} (hL : Ld ρ m w) (hv : RelL ρ vs xs.toList) (hb : belL m.length vs) (h : WV (DD f vs m) fun v m' => v = .bool b) :
    Calls Tryz.prog f xs w fun e w' => e = .returned (.bool b) ∧ Below w.heap.size w w' := by
  obtain ⟨v, m', h1, rfl⟩ := h
  refine ((DD_sound f vs m _ m' h1 hL.sc hb).2 ρ w xs hv hL.sim).mono fun e w' ⟨ρ', x, h2, h3, h4, h5⟩ => ?_
  simp only [Rel] at h3
  subst h3
  refine ⟨h2, h5.os, h5.tape, h5.output, h5.size, fun k hk => (h5.keep k hk ?_).1⟩
  rintro ⟨b, p, kb, _, hk, hst, _⟩
  have := hL.ro b kb hk
  omega
end Go.Proofs.YtefjnnghfloddaaGreat.Abs
