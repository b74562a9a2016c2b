/- A part of a proof of a law of the store, without conditions: its texts are: Ma Mb Mc Md Me Mf Mg Mh Mi. -/

/- The numbers that the program computes, in plain Lean: digits, residues. -/
namespace Go.Proofs.YtefjnnghfloddaaGreat.Abs
set_option linter.unusedVariables false
set_option linter.unusedSimpArgs false
theorem mul_bd {a b A B : Int} (h0 : 0 ≤ a) (h1 : a ≤ A) (h2 : 0 ≤ b) (h3 : b ≤ B) : 0 ≤ a * b ∧ a * b ≤ A * B :=
  ⟨Int.mul_nonneg h0 h2, Int.mul_le_mul h1 h3 h2 (by omega)⟩
theorem sq_lt {a b : Int} (h0 : 0 ≤ b) (h : ¬ (a < b)) : b * b ≤ a * a := (mul_bd h0 (by omega) h0 (by omega)).2
def isPr (n : Int) : Prop := 2 ≤ n ∧ ∀ d, 2 ≤ d → d * d ≤ n → n % d ≠ 0
def ordF (p m : Int) : Int := if 2 ≤ p ∧ p ≤ 256 ∧ 1 ≤ m ∧ m ≤ 8 ∧ p ^ m.toNat ≤ 256 then p ^ m.toNat else 0
def digs (p : Int) : Nat → Int → List Int
  | 0, _ => []
  | n + 1, x => (x % p) :: digs p n (x / p)
@[simp] theorem digs_len (p : Int) (n : Nat) (x : Int) : (digs p n x).length = n := by
  induction n generalizing x with
  | zero => rfl
  | succ n ih => simp [digs, ih]
def cut (p : Int) : Nat → Int → Int
  | 0, x => x
  | i + 1, x => cut p i x / p
theorem cut_succ (p : Int) (i : Nat) (x : Int) : cut p (i + 1) x = cut p i (x / p) := by
  induction i with
  | zero => rfl
  | succ i ih => rw [cut, ih, cut]
theorem cut_nonneg {p : Int} (hp : 0 < p) {i : Nat} {x : Int} (h : 0 ≤ x) : 0 ≤ cut p i x := by
  induction i with
  | zero => exact h
  | succ i ih => exact Int.ediv_nonneg ih (by omega)
theorem cut_le {p : Int} (hp : 1 ≤ p) {i : Nat} {x : Int} (h : 0 ≤ x) : cut p i x ≤ x := by
  induction i with
  | zero => exact Int.le_refl _
  | succ i ih => exact Int.le_trans (Int.ediv_le_self _ (cut_nonneg (by omega) h)) ih
theorem digs_get (p : Int) (n : Nat) (x : Int) (i : Nat) (h : i < n) : (digs p n x)[i]? = some (cut p i x % p) := by
  induction n generalizing x i with
  | zero => omega
  | succ n ih =>
    cases i with
    | zero => simp [digs, cut]
    | succ i => simp [digs, ih _ i (by omega), cut_succ]
theorem digs_getD (p : Int) (n : Nat) (x : Int) (i : Nat) (h : i < n) : (digs p n x).getD i 0 = cut p i x % p := by
  rw [List.getD_eq_getElem?_getD, digs_get p n x i h]; rfl
def val (p : Int) : List Int → Int
  | [] => 0
  | d :: l => d + p * val p l
theorem val_drop (p : Int) (l : List Int) (i : Nat) (h : i < l.length) : val p (l.drop i) = l.getD i 0 + p * val p (l.drop (i + 1)) := by
  rw [List.drop_eq_getElem_cons h, val]; simp [h]
def Digs (p : Int) (l : List Int) : Prop := ∀ i, i < l.length → 0 ≤ l.getD i 0 ∧ l.getD i 0 < p
theorem val_bd {p : Int} (hp : 1 ≤ p) : ∀ (l : List Int), Digs p l → 0 ≤ val p l ∧ val p l < p ^ l.length
  | [], _ => by simp [val]
  | d :: l, h => by
    have h0 := h 0 (by simp)
    have ih := val_bd hp l (fun i hi => by simpa using h (i + 1) (by simpa using hi))
    simp at h0
    have a := Int.mul_nonneg (show (0:Int) ≤ p by omega) ih.1
    have b : p * (val p l + 1) ≤ p * p ^ l.length := Int.mul_le_mul_of_nonneg_left (by omega) (by omega)
    rw [Int.mul_add] at b
    simp only [val, List.length_cons]
    rw [Int.pow_succ, Int.mul_comm (p ^ l.length) p]
    omega
theorem digs_Digs {p : Int} (hp : 1 ≤ p) (n : Nat) (x : Int) : Digs p (digs p n x) := by
  intro i hi
  rw [digs_len] at hi
  rw [digs_getD p n x i hi]
  exact ⟨Int.emod_nonneg _ (by omega), Int.emod_lt_of_pos _ (by omega)⟩
def stepM (p : Int) (mod a : List Int) (out : List Int) (c : Int) : List Int :=
  (List.range out.length).map fun j => ((if j = 0 then 0 else out.getD (j - 1) 0) + (p - out.getD (out.length - 1) 0) * mod.getD j 0 + c * a.getD j 0) % p
@[simp] theorem stepM_len (p : Int) (mod a out : List Int) (c : Int) : (stepM p mod a out c).length = out.length := by simp [stepM]
theorem stepM_get (p : Int) (mod a out : List Int) (c : Int) (j : Nat) (h : j < out.length) : (stepM p mod a out c).getD j 0 = ((if j = 0 then 0 else out.getD (j - 1) 0) + (p - out.getD (out.length - 1) 0) * mod.getD j 0 + c * a.getD j 0) % p := by
  simp [stepM, h]
def horn (p : Int) (mod a : List Int) (out : List Int) : List Int → List Int
  | [] => out
  | c :: b => stepM p mod a (horn p mod a out b) c
@[simp] theorem horn_len (p : Int) (mod a out b : List Int) : (horn p mod a out b).length = out.length := by
  induction b with
  | nil => rfl
  | cons c b ih => simp [horn, ih]
def mulM (p : Int) (m : Nat) (mod : List Int) (x y : Int) : Int := val p (horn p mod (digs p m x) (List.replicate m 0) (digs p m y))
theorem stepM_Digs {p : Int} (hp : 1 ≤ p) (mod a out : List Int) (c : Int) : Digs p (stepM p mod a out c) := by
  intro i hi
  rw [stepM_len] at hi
  rw [stepM_get _ _ _ _ _ _ hi]
  exact ⟨Int.emod_nonneg _ (by omega), Int.emod_lt_of_pos _ (by omega)⟩
theorem rep_Digs {p : Int} (hp : 1 ≤ p) (m : Nat) : Digs p (List.replicate m 0) := by
  intro i hi
  simp at hi
  simp [hi]
  omega
theorem horn_Digs {p : Int} (hp : 1 ≤ p) (mod a out b : List Int) (h : Digs p out) : Digs p (horn p mod a out b) := by
  cases b with
  | nil => exact h
  | cons c b => exact stepM_Digs hp _ _ _ _
theorem mulM_bd {p : Int} (hp : 1 ≤ p) (m : Nat) (mod : List Int) (x y : Int) : 0 ≤ mulM p m mod x y ∧ mulM p m mod x y < p ^ m := by
  have := val_bd hp _ (horn_Digs hp mod (digs p m x) _ (digs p m y) (rep_Digs hp m))
  simpa [mulM] using this
theorem pigeon : ∀ (N k : Nat) (f : Nat → Nat), (∀ i, i < k → f i < N) → (∀ i j, i < j → j < k → f i ≠ f j) → k ≤ N
  | 0, k, f, h, _ => by
    rcases Nat.eq_zero_or_pos k with h0 | h0
    · omega
    · have := h 0 h0; omega
  | N + 1, k, f, h, hi => by
    by_cases hk : k = 0
    · omega
    have hne : ∀ i j, i < k → j < k → i ≠ j → f i ≠ f j := by
      intro i j h1 h2 h3
      rcases Nat.lt_or_ge i j with h4 | h4
      · exact hi i j h4 h2
      · exact (hi j i (by omega) h1).symm
    by_cases hN : ∃ i, i < k ∧ f i = N
    · obtain ⟨i0, h1, h2⟩ := hN
      have := pigeon N (k - 1) (fun i => if i = i0 then f (k - 1) else f i) (by
        intro i hik
        split
        · have a := h (k - 1) (by omega)
          have b := hne (k - 1) i0 (by omega) h1 (by omega)
          omega
        · have a := h i (by omega)
          have b := hne i i0 (by omega) h1 (by omega)
          omega) (by
        intro i j hij hjk
        split <;> split
        · omega
        · exact hne _ _ (by omega) (by omega) (by omega)
        · exact hne _ _ (by omega) (by omega) (by omega)
        · exact hne _ _ (by omega) (by omega) (by omega))
      omega
    · have := pigeon N k f (by
        intro i hik
        have a := h i hik
        have b : f i ≠ N := fun e => hN ⟨i, hik, e⟩
        omega) hi
      omega
theorem pigeon_all {k : Nat} {f : Nat → Nat} (h : ∀ i, i < k → f i < k) (hi : ∀ i j, i < j → j < k → f i ≠ f j) {x : Nat} (hx : x < k) : ∃ i, i < k ∧ f i = x := by
  refine Decidable.byContradiction fun hn => ?_
  have hne : ∀ i, i < k → f i ≠ x := fun i h1 h2 => hn ⟨i, h1, h2⟩
  have hh : ∀ i j, i < k → j < k → i ≠ j → f i ≠ f j := by
    intro i j h1 h2 h3
    rcases Nat.lt_or_ge i j with h4 | h4
    · exact hi i j h4 h2
    · exact (hi j i (by omega) h1).symm
  have := pigeon (k - 1) k (fun i => if f i < x then f i else f i - 1) (by
    intro i h1
    have a := h i h1
    have b := hne i h1
    split <;> omega) (by
    intro i j h1 h2
    have a := hne i (by omega)
    have b := hne j h2
    have c := hi i j h1 h2
    split <;> split <;> omega)
  omega
end Go.Proofs.YtefjnnghfloddaaGreat.Abs

/- Residues of polynomials are a ring. -/
namespace Go.Proofs.YtefjnnghfloddaaGreat.Abs
set_option linter.unusedVariables false
set_option linter.unusedSimpArgs false
abbrev Vec := Nat → Int
def lin (u : Vec) (c : Int) (v : Vec) : Vec := fun j => u j + c * v j
def tX (n : Nat) (md : Vec) (v : Vec) : Vec := fun j => if j < n then (if j = 0 then 0 else v (j - 1)) - v (n - 1) * md j else 0
def tXs (n : Nat) (md : Vec) : Nat → Vec → Vec
  | 0, v => v
  | i + 1, v => tX n md (tXs n md i v)
def apn (n : Nat) (md : Vec) (b : Vec) : Nat → Vec → Vec
  | 0, v => fun _ => 0
  | k + 1, v => lin (apn n md b k v) (b k) (tXs n md k v)
variable {n : Nat} {md : Vec}
theorem tX_lin (u v : Vec) (c : Int) : tX n md (lin u c v) = lin (tX n md u) c (tX n md v) := by
  funext j
  simp only [tX, lin]
  split
  · split <;> grind
  · grind
theorem tX_zero : tX n md (fun _ => 0) = fun _ => 0 := by
  funext j; simp [tX]
theorem tXs_lin (i : Nat) (u v : Vec) (c : Int) : tXs n md i (lin u c v) = lin (tXs n md i u) c (tXs n md i v) := by
  induction i with
  | zero => rfl
  | succ i ih => rw [tXs, ih, tX_lin]; rfl
theorem tXs_zero (i : Nat) : tXs n md i (fun _ => 0) = fun _ => 0 := by
  induction i with
  | zero => rfl
  | succ i ih => rw [tXs, ih, tX_zero]
theorem tXs_succ (i : Nat) (v : Vec) : tXs n md (i + 1) v = tXs n md i (tX n md v) := by
  induction i with
  | zero => rfl
  | succ i ih => rw [tXs, ih, tXs]
theorem tXs_add (i j : Nat) (v : Vec) : tXs n md (i + j) v = tXs n md i (tXs n md j v) := by
  induction i with
  | zero => rw [Nat.zero_add]; rfl
  | succ i ih => rw [show i + 1 + j = (i + j) + 1 by omega, tXs, ih, tXs]
theorem apn_lin (b : Vec) (k : Nat) (u v : Vec) (c : Int) : apn n md b k (lin u c v) = lin (apn n md b k u) c (apn n md b k v) := by
  induction k with
  | zero => funext j; simp [apn, lin]
  | succ k ih => simp only [apn, ih, tXs_lin]; funext j; simp only [lin]; grind
theorem apn_zero (b : Vec) (k : Nat) : apn n md b k (fun _ => 0) = fun _ => 0 := by
  induction k with
  | zero => rfl
  | succ k ih => simp only [apn, ih, tXs_zero]; funext j; simp [lin]
theorem apn_tX (b : Vec) (k : Nat) (v : Vec) : apn n md b k (tX n md v) = tX n md (apn n md b k v) := by
  induction k with
  | zero => rw [apn, apn, tX_zero]
  | succ k ih => simp only [apn, ih, tX_lin, ← tXs_succ]; rfl
theorem apn_tXs (b : Vec) (k i : Nat) (v : Vec) : apn n md b k (tXs n md i v) = tXs n md i (apn n md b k v) := by
  induction i with
  | zero => rfl
  | succ i ih => rw [tXs, apn_tX, ih, tXs]
theorem apn_apn (a b : Vec) (k l : Nat) (v : Vec) : apn n md b k (apn n md a l v) = apn n md a l (apn n md b k v) := by
  induction l with
  | zero => rw [apn, apn, apn_zero]
  | succ l ih => rw [apn, apn_lin, ih, apn_tXs]; rfl
theorem apn_add (a b : Vec) (c : Int) (k : Nat) (v : Vec) : apn n md (lin a c b) k v = lin (apn n md a k v) c (apn n md b k v) := by
  induction k with
  | zero => funext j; simp [apn, lin]
  | succ k ih => simp only [apn, ih]; funext j; simp only [lin]; grind
theorem apn_congr {a b : Vec} (k : Nat) (h : ∀ i, i < k → a i = b i) (v : Vec) : apn n md a k v = apn n md b k v := by
  induction k with
  | zero => rfl
  | succ k ih => simp only [apn]; rw [ih (fun i hi => h i (by omega)), h k (by omega)]
def eX (j : Nat) : Vec := fun i => if i = j then 1 else 0
theorem tX_e (j : Nat) (h : j + 1 < n) : tX n md (eX j) = eX (j + 1) := by
  funext i
  simp only [tX, eX]
  by_cases hi : i < n
  · rw [if_pos hi, if_neg (show ¬ n - 1 = j by omega)]
    by_cases h0 : i = 0
    · subst h0; simp
    · by_cases e : i = j + 1
      · subst e; simp
      · rw [if_neg h0, if_neg (by omega), if_neg e]; simp
  · rw [if_neg hi, if_neg (by omega)]
theorem tXs_e (j : Nat) (h : j < n) : tXs n md j (eX 0) = eX j := by
  induction j with
  | zero => rfl
  | succ j ih => rw [tXs, ih (by omega), tX_e j h]
def Vn (n : Nat) (v : Vec) : Prop := ∀ j, n ≤ j → v j = 0
theorem apn_e_get (a : Vec) (k : Nat) (h : k ≤ n) (j : Nat) : apn n md a k (eX 0) j = if j < k then a j else 0 := by
  induction k with
  | zero => simp [apn]
  | succ k ih =>
    rw [apn, lin, ih (by omega), tXs_e k (by omega), eX]
    by_cases h1 : j < k
    · rw [if_pos h1, if_neg (by omega), if_pos (by omega)]; omega
    · by_cases h2 : j = k
      · subst h2; simp
      · rw [if_neg h1, if_neg h2, if_neg (by omega)]; simp
theorem apn_e {a : Vec} (h : Vn n a) : apn n md a n (eX 0) = a := by
  funext j
  rw [apn_e_get a n (Nat.le_refl _) j]
  split
  · rfl
  · exact (h j (by omega)).symm
def mulZ (n : Nat) (md a b : Vec) : Vec := apn n md b n a
theorem mulZ_comm {a b : Vec} (ha : Vn n a) (hb : Vn n b) : mulZ n md a b = mulZ n md b a := by
  unfold mulZ
  conv => lhs; rw [← apn_e (md := md) ha]
  conv => rhs; rw [← apn_e (md := md) hb]
  rw [apn_apn]
theorem tX_Vn (v : Vec) : Vn n (tX n md v) := by
  intro j hj; rw [tX, if_neg (by omega)]
theorem tXs_Vn {v : Vec} (h : Vn n v) (i : Nat) : Vn n (tXs n md i v) := by
  cases i with
  | zero => exact h
  | succ i => exact tX_Vn _
theorem lin_Vn {u v : Vec} (hu : Vn n u) (hv : Vn n v) (c : Int) : Vn n (lin u c v) := by
  intro j hj; rw [lin, hu j hj, hv j hj]; omega
theorem apn_Vn (b : Vec) {v : Vec} (h : Vn n v) (k : Nat) : Vn n (apn n md b k v) := by
  induction k with
  | zero => intro j hj; rfl
  | succ k ih => exact lin_Vn ih (tXs_Vn h k) _
theorem mulZ_Vn {a : Vec} (ha : Vn n a) (b : Vec) : Vn n (mulZ n md a b) := apn_Vn b ha n
theorem mulZ_assoc {a b c : Vec} (ha : Vn n a) (hb : Vn n b) (hc : Vn n c) : mulZ n md (mulZ n md a b) c = mulZ n md a (mulZ n md b c) := by
  rw [mulZ_comm ha (mulZ_Vn hb c), mulZ_comm ha hb]
  unfold mulZ
  rw [apn_apn]
theorem mulZ_lin_l (a b c : Vec) (d : Int) : mulZ n md (lin a d b) c = lin (mulZ n md a c) d (mulZ n md b c) := apn_lin c n a b d
theorem mulZ_lin_r (a b c : Vec) (d : Int) : mulZ n md a (lin b d c) = lin (mulZ n md a b) d (mulZ n md a c) := apn_add b c d n a
theorem mulZ_one {a : Vec} (hn : 1 ≤ n) (ha : Vn n a) : mulZ n md a (eX 0) = a := by
  rw [mulZ_comm ha (by intro j hj; simp [eX]; omega)]
  exact apn_e ha
def Cg (p : Int) (u v : Vec) : Prop := ∃ w, u = lin v p w
variable {p : Int}
theorem Cg.refl (u : Vec) : Cg p u u := ⟨fun _ => 0, by funext j; simp [lin]⟩
theorem Cg.symm {u v : Vec} (h : Cg p u v) : Cg p v u := by
  obtain ⟨w, rfl⟩ := h; exact ⟨fun j => - w j, by funext j; simp only [lin]; grind⟩
theorem Cg.trans {u v w : Vec} (h : Cg p u v) (k : Cg p v w) : Cg p u w := by
  obtain ⟨a, rfl⟩ := h; obtain ⟨b, rfl⟩ := k; exact ⟨fun j => a j + b j, by funext j; simp only [lin]; grind⟩
theorem Cg.lin {u u' v v' : Vec} (h : Cg p u u') (k : Cg p v v') (c : Int) : Cg p (lin u c v) (lin u' c v') := by
  obtain ⟨a, rfl⟩ := h; obtain ⟨b, rfl⟩ := k; exact ⟨fun j => a j + c * b j, by funext j; simp only [Abs.lin]; grind⟩
theorem Cg.tX {u v : Vec} (h : Cg p u v) : Cg p (tX n md u) (tX n md v) := by
  obtain ⟨a, rfl⟩ := h; exact ⟨_, tX_lin _ _ _⟩
theorem Cg.mulZ {a a' b b' : Vec} (h : Cg p a a') (k : Cg p b b') : Cg p (mulZ n md a b) (mulZ n md a' b') := by
  obtain ⟨u, rfl⟩ := h
  obtain ⟨v, rfl⟩ := k
  rw [mulZ_lin_l, mulZ_lin_r]
  exact ⟨Abs.lin (Abs.mulZ n md a' v) 1 (Abs.mulZ n md u (Abs.lin b' p v)), by funext j; simp only [Abs.lin]; grind⟩
theorem Cg.eq {u v : Vec} (h : Cg p u v) {j : Nat} (h1 : 0 ≤ u j ∧ u j < p) (h2 : 0 ≤ v j ∧ v j < p) : u j = v j := by
  obtain ⟨w, rfl⟩ := h
  simp only [Abs.lin] at h1 ⊢
  have : (v j + p * w j) % p = v j % p := by simp
  rwa [Int.emod_eq_of_lt h1.1 h1.2, Int.emod_eq_of_lt h2.1 h2.2] at this
end Go.Proofs.YtefjnnghfloddaaGreat.Abs

/- Residues as numbers: their products, sums and negatives obey the laws of a ring. -/
namespace Go.Proofs.YtefjnnghfloddaaGreat.Abs
set_option linter.unusedVariables false
set_option linter.unusedSimpArgs false
def lv (l : List Int) : Vec := fun j => l.getD j 0
theorem lv_Vn (l : List Int) : Vn l.length (lv l) := by
  intro j hj; simp [lv, hj]
def dv (p : Int) (n : Nat) (x : Int) : Vec := lv (digs p n x)
theorem dv_Vn (p : Int) (n : Nat) (x : Int) : Vn n (dv p n x) := by
  have := lv_Vn (digs p n x); rwa [digs_len] at this
theorem digs_val {p : Int} (hp : 1 ≤ p) : ∀ (l : List Int), Digs p l → digs p l.length (val p l) = l
  | [], _ => rfl
  | d :: l, h => by
    have h0 := h 0 (by simp)
    simp at h0
    have ih := digs_val hp l (fun i hi => by simpa using h (i + 1) (by simpa using hi))
    have a : (d + p * val p l) % p = d := by rw [Int.add_mul_emod_self_left]; exact Int.emod_eq_of_lt h0.1 h0.2
    have b : (d + p * val p l) / p = val p l := by rw [Int.add_mul_ediv_left _ _ (by omega), Int.ediv_eq_zero_of_lt h0.1 h0.2]; omega
    rw [List.length_cons, digs, val, a, b, ih]
theorem val_digs {p : Int} (hp : 1 ≤ p) : ∀ (n : Nat) (x : Int), 0 ≤ x → x < p ^ n → val p (digs p n x) = x
  | 0, x, h, h1 => by rw [Int.pow_zero] at h1; simp [digs, val]; omega
  | n + 1, x, h, h1 => by
    have : x / p < p ^ n := by
      rw [Int.pow_succ] at h1
      exact Int.ediv_lt_of_lt_mul (by omega) h1
    have := val_digs hp n (x / p) (Int.ediv_nonneg h (by omega)) this
    rw [digs, val, this]
    exact Int.emod_add_mul_ediv x p
theorem dv_bd {p : Int} (hp : 1 ≤ p) (n : Nat) (x : Int) (j : Nat) : 0 ≤ dv p n x j ∧ dv p n x j < p := by
  by_cases h : j < n
  · exact digs_Digs hp n x j (by simpa using h)
  · rw [dv_Vn p n x j (by omega)]; omega
theorem dv_val {p : Int} (hp : 1 ≤ p) {l : List Int} {n : Nat} (hl : l.length = n) (h : Digs p l) : dv p n (val p l) = lv l := by
  subst hl; rw [dv, digs_val hp l h]
theorem lv_ext {l l' : List Int} (hl : l.length = l'.length) (h : lv l = lv l') : l = l' := by
  apply List.ext_getElem hl
  intro i h1 h2
  have := congrFun h i
  simpa [lv, h1, h2] using this
theorem res_ext {p : Int} (hp : 1 ≤ p) {n : Nat} {x y : Int} (hx : 0 ≤ x ∧ x < p ^ n) (hy : 0 ≤ y ∧ y < p ^ n) (h : Cg p (dv p n x) (dv p n y)) : x = y := by
  rw [← val_digs hp n x hx.1 hx.2, ← val_digs hp n y hy.1 hy.2]
  congr 1
  exact lv_ext (by simp) (funext fun j => h.eq (dv_bd hp n x j) (dv_bd hp n y j))
theorem Cg.of_eq {p : Int} {u v : Vec} (h : u = v) : Cg p u v := h ▸ .refl u
theorem Cg.of_mod {p : Int} {u v : Vec} (h : ∀ j, u j % p = v j % p) : Cg p u v :=
  ⟨fun j => u j / p - v j / p, by funext j; have a := Int.emod_add_mul_ediv (u j) p; have b := Int.emod_add_mul_ediv (v j) p; have := h j; simp only [Abs.lin]; grind⟩
theorem apn_front {n : Nat} {md : Vec} (b : Vec) (k : Nat) (v : Vec) : apn n md b (k + 1) v = lin (tX n md (apn n md (fun i => b (i + 1)) k v)) (b 0) v := by
  induction k with
  | zero => simp only [apn, tXs, tX_zero]
  | succ k ih =>
    rw [apn, ih, apn, tX_lin]
    funext j; simp only [lin, tXs]; grind
theorem lv_cons (c : Int) (l : List Int) : (fun i => lv (c :: l) (i + 1)) = lv l := by funext i; simp [lv]
theorem stepM_Cg {p : Int} {mod a out : List Int} {c : Int} (ha : a.length = out.length) : Cg p (lv (stepM p mod a out c)) (lin (tX out.length (lv mod) (lv out)) c (lv a)) := by
  refine .of_mod fun j => ?_
  by_cases h : j < out.length
  · have := stepM_get p mod a out c j h
    simp only [lv, lin, tX]
    rw [this, if_pos h, Int.emod_emod]
    generalize (if j = 0 then 0 else out.getD (j - 1) 0) = A
    rw [show A + (p - out.getD (out.length - 1) 0) * mod.getD j 0 + c * a.getD j 0 = A - out.getD (out.length - 1) 0 * mod.getD j 0 + c * a.getD j 0 + p * mod.getD j 0 by grind, Int.add_mul_emod_self_left]
  · simp only [lin, tX]
    rw [if_neg h, lv_Vn (stepM p mod a out c) j (by simp; omega), lv_Vn a j (by omega), Int.mul_zero, Int.add_zero]
theorem horn_Cg {p : Int} {mod a : List Int} : ∀ (b : List Int), Cg p (lv (horn p mod a (List.replicate a.length 0) b)) (apn a.length (lv mod) (lv b) b.length (lv a))
  | [] => by
    refine .of_eq ?_
    funext j; simp [horn, lv, apn]
    rw [List.getElem?_replicate]; split <;> rfl
  | c :: b => by
    rw [List.length_cons, apn_front, lv_cons, horn]
    refine (stepM_Cg (by simp)).trans ?_
    rw [horn_len, List.length_replicate]
    exact (Cg.tX (horn_Cg b)).lin (.refl _) c
theorem mulM_Cg {p : Int} (hp : 1 ≤ p) (n : Nat) (mod : List Int) (x y : Int) : Cg p (dv p n (mulM p n mod x y)) (mulZ n (lv mod) (dv p n x) (dv p n y)) := by
  have h1 := horn_Digs hp mod (digs p n x) _ (digs p n y) (rep_Digs hp n)
  rw [mulM, dv_val hp (by simp) h1]
  have := horn_Cg (p := p) (mod := mod) (a := digs p n x) (digs p n y)
  rwa [digs_len, digs_len] at this
def addM (p : Int) (n : Nat) (x y : Int) : Int := val p ((List.range n).map fun j => (dv p n x j + dv p n y j) % p)
def negM (p : Int) (n : Nat) (x : Int) : Int := val p ((List.range n).map fun j => (p - dv p n x j) % p)
theorem map_Digs {p : Int} (hp : 1 ≤ p) (n : Nat) (f : Nat → Int) : Digs p ((List.range n).map fun j => f j % p) := by
  intro i hi
  simp at hi
  simp [hi]
  exact ⟨Int.emod_nonneg _ (by omega), Int.emod_lt_of_pos _ (by omega)⟩
theorem lv_map (n : Nat) (f : Nat → Int) (j : Nat) : lv ((List.range n).map f) j = if j < n then f j else 0 := by
  by_cases h : j < n <;> simp [lv, h]
theorem addM_bd {p : Int} (hp : 1 ≤ p) (n : Nat) (x y : Int) : 0 ≤ addM p n x y ∧ addM p n x y < p ^ n := by
  simpa [addM] using val_bd hp _ (map_Digs hp n fun j => dv p n x j + dv p n y j)
theorem negM_bd {p : Int} (hp : 1 ≤ p) (n : Nat) (x : Int) : 0 ≤ negM p n x ∧ negM p n x < p ^ n := by
  simpa [negM] using val_bd hp _ (map_Digs hp n fun j => p - dv p n x j)
theorem addM_dv {p : Int} (hp : 1 ≤ p) (n : Nat) (x y : Int) (j : Nat) : dv p n (addM p n x y) j = if j < n then (dv p n x j + dv p n y j) % p else 0 := by
  rw [addM, dv_val hp (by simp) (map_Digs hp n _), lv_map]
theorem negM_dv {p : Int} (hp : 1 ≤ p) (n : Nat) (x : Int) (j : Nat) : dv p n (negM p n x) j = if j < n then (p - dv p n x j) % p else 0 := by
  rw [negM, dv_val hp (by simp) (map_Digs hp n _), lv_map]
theorem addM_Cg {p : Int} (hp : 1 ≤ p) (n : Nat) (x y : Int) : Cg p (dv p n (addM p n x y)) (lin (dv p n x) 1 (dv p n y)) := by
  refine .of_mod fun j => ?_
  rw [addM_dv hp]
  simp only [lin]
  split
  · rw [Int.emod_emod, Int.one_mul]
  · rw [dv_Vn p n x j (by omega), dv_Vn p n y j (by omega)]; simp
theorem negM_Cg {p : Int} (hp : 1 ≤ p) (n : Nat) (x : Int) : Cg p (dv p n (negM p n x)) (lin (fun _ => 0) (-1) (dv p n x)) := by
  refine .of_mod fun j => ?_
  rw [negM_dv hp]
  simp only [lin]
  split
  · rw [Int.emod_emod, show p - dv p n x j = 0 + -1 * dv p n x j + p * 1 by omega, Int.add_mul_emod_self_left]
  · rw [dv_Vn p n x j (by omega)]; simp
def El (p : Int) (n : Nat) (x : Int) : Prop := 0 ≤ x ∧ x < p ^ n
section
variable {p : Int} {n : Nat} {mod : List Int} {x y z : Int}
theorem mulM_El (hp : 1 ≤ p) : El p n (mulM p n mod x y) := mulM_bd hp _ _ _ _
theorem addM_El (hp : 1 ≤ p) : El p n (addM p n x y) := addM_bd hp _ _ _
theorem negM_El (hp : 1 ≤ p) : El p n (negM p n x) := negM_bd hp _ _
theorem zero_El (hp : 1 ≤ p) : El p n 0 := ⟨by omega, Int.pow_pos (by omega)⟩
theorem dv_zero (p : Int) (n : Nat) : dv p n 0 = fun _ => 0 := by
  funext j
  have : ∀ n, digs p n 0 = List.replicate n 0 := by
    intro n; induction n with
    | zero => rfl
    | succ n ih => simp [digs, ih, List.replicate_succ]
  rw [dv, this]; simp only [lv]; simp [List.getElem?_replicate]; split <;> rfl
theorem dv_one (hp : 2 ≤ p) (hn : 1 ≤ n) : dv p n 1 = eX 0 := by
  obtain ⟨n, rfl⟩ : ∃ k, n = k + 1 := ⟨n - 1, by omega⟩
  have h1 : (1:Int) % p = 1 := Int.emod_eq_of_lt (by omega) (by omega)
  have h2 : (1:Int) / p = 0 := Int.ediv_eq_zero_of_lt (by omega) (by omega)
  funext j
  have := congrFun (dv_zero p n) (j - 1)
  rw [dv, digs, h1, h2]
  cases j with
  | zero => simp [lv, eX]
  | succ j => simpa [lv, eX, dv] using this
theorem mulM_comm (hp : 1 ≤ p) : mulM p n mod x y = mulM p n mod y x :=
  res_ext hp (mulM_El hp) (mulM_El hp) ((mulM_Cg hp n mod x y).trans ((mulZ_comm (dv_Vn p n x) (dv_Vn p n y)) ▸ (mulM_Cg hp n mod y x).symm))
theorem mulM_assoc (hp : 1 ≤ p) : mulM p n mod (mulM p n mod x y) z = mulM p n mod x (mulM p n mod y z) := by
  refine res_ext hp (mulM_El hp) (mulM_El hp) ?_
  refine (mulM_Cg hp n mod _ _).trans (((mulM_Cg hp n mod x y).mulZ (.refl _)).trans ?_)
  rw [mulZ_assoc (dv_Vn p n x) (dv_Vn p n y) (dv_Vn p n z)]
  exact ((Cg.refl _).mulZ (mulM_Cg hp n mod y z)).symm.trans (mulM_Cg hp n mod _ _).symm
theorem mulM_one (hp : 2 ≤ p) (hn : 1 ≤ n) (hx : El p n x) : mulM p n mod x 1 = x := by
  refine res_ext (by omega) (mulM_El (by omega)) hx ((mulM_Cg (by omega) n mod x 1).trans ?_)
  rw [dv_one hp hn, mulZ_one hn (dv_Vn p n x)]
  exact .refl _
theorem mulM_add (hp : 1 ≤ p) : mulM p n mod (addM p n x y) z = addM p n (mulM p n mod x z) (mulM p n mod y z) := by
  refine res_ext hp (mulM_El hp) (addM_El hp) ?_
  refine (mulM_Cg hp n mod _ _).trans (((addM_Cg hp n x y).mulZ (.refl _)).trans ?_)
  rw [mulZ_lin_l]
  exact ((mulM_Cg hp n mod x z).lin (mulM_Cg hp n mod y z) 1).symm.trans (addM_Cg hp n _ _).symm
theorem mulM_zero (hp : 1 ≤ p) : mulM p n mod 0 y = 0 := by
  refine res_ext hp (mulM_El hp) (zero_El hp) ((mulM_Cg hp n mod _ _).trans ?_)
  rw [dv_zero, mulZ, apn_zero]
  exact .refl _
theorem addM_comm : addM p n x y = addM p n y x := by simp only [addM, Int.add_comm]
theorem lin_assoc1 (u v w : Vec) : lin (lin u 1 v) 1 w = lin u 1 (lin v 1 w) := by funext j; simp only [lin]; omega
theorem addM_assoc (hp : 1 ≤ p) : addM p n (addM p n x y) z = addM p n x (addM p n y z) := by
  refine res_ext hp (addM_El hp) (addM_El hp) ?_
  refine (addM_Cg hp n _ _).trans (((addM_Cg hp n x y).lin (.refl _) 1).trans ?_)
  rw [lin_assoc1]
  exact ((Cg.refl _).lin (addM_Cg hp n y z) 1).symm.trans (addM_Cg hp n _ _).symm
theorem addM_zero (hp : 1 ≤ p) (hx : El p n x) : addM p n x 0 = x := by
  refine res_ext hp (addM_El hp) hx ((addM_Cg hp n x 0).trans (.of_eq ?_))
  rw [dv_zero]; funext j; simp [lin]
theorem addM_neg (hp : 1 ≤ p) : addM p n x (negM p n x) = 0 := by
  refine res_ext hp (addM_El hp) (zero_El hp) ((addM_Cg hp n x _).trans (((Cg.refl _).lin (negM_Cg hp n x) 1).trans (.of_eq ?_)))
  rw [dv_zero]; funext j; simp only [lin]; omega
theorem El_one (hp : 2 ≤ p) (hn : 1 ≤ n) : El p n 1 := by
  refine ⟨by omega, ?_⟩
  obtain ⟨n, rfl⟩ : ∃ k, n = k + 1 := ⟨n - 1, by omega⟩
  have : (0:Int) < p ^ n := Int.pow_pos (by omega)
  have h2 := Int.mul_le_mul_of_nonneg_left (show 2 ≤ p by omega) (show 0 ≤ p ^ n by omega)
  rw [Int.pow_succ]; omega
end
end Go.Proofs.YtefjnnghfloddaaGreat.Abs

/- Residues of which one has all others as powers are a field. -/
namespace Go.Proofs.YtefjnnghfloddaaGreat.Abs
set_option linter.unusedVariables false
set_option linter.unusedSimpArgs false
structure Pws (p : Int) (n : Nat) (mod : List Int) (q : Nat) (pw : Nat → Int) : Prop where
  hp : 2 ≤ p
  hn : 1 ≤ n
  hq : (q : Int) = p ^ n
  el : ∀ i, El p n (pw i)
  z : pw 0 = 1
  s : ∀ i, pw (i + 1) = mulM p n mod (pw i) (pw 1)
  ne0 : ∀ i, i < q - 1 → pw i ≠ 0
  inj : ∀ i j, i < j → j < q - 1 → pw i ≠ pw j
  one : pw (q - 1) = 1
section
variable {p : Int} {n : Nat} {mod : List Int} {q : Nat} {pw : Nat → Int} (h : Pws p n mod q pw)
include h
theorem Pws.q2 : 2 ≤ q := by
  have := (El_one h.hp h.hn).2
  have := h.hq
  omega
theorem Pws.add (i j : Nat) : mulM p n mod (pw i) (pw j) = pw (i + j) := by
  have := h.hp
  induction j with
  | zero => rw [h.z]; exact mulM_one h.hp h.hn (h.el i)
  | succ j ih => rw [h.s j, ← mulM_assoc (by omega), ih, ← h.s]; rfl
theorem Pws.per (i : Nat) : pw (i + (q - 1)) = pw i := by
  rw [← h.add, h.one]; exact mulM_one h.hp h.hn (h.el i)
theorem Pws.perk (i k : Nat) : pw (i + (q - 1) * k) = pw i := by
  induction k with
  | zero => rfl
  | succ k ih => rw [Nat.mul_succ, ← Nat.add_assoc, h.per, ih]
theorem Pws.mod_ (i : Nat) : pw (i % (q - 1)) = pw i := by
  conv => rhs; rw [← Nat.mod_add_div i (q - 1)]
  rw [h.perk]
theorem Pws.all {x : Int} (hx : El p n x) (h0 : x ≠ 0) : ∃ i, i < q - 1 ∧ pw i = x := by
  have hq := h.hq
  have h2 := h.q2
  have := hx.1
  have := hx.2
  have hb : ∀ i, 0 ≤ pw i ∧ pw i < q := fun i => hq ▸ h.el i
  obtain ⟨i, h1, h2⟩ := pigeon_all (k := q - 1) (f := fun i => (pw i).toNat - 1) (x := x.toNat - 1) (by
    intro i hi
    have := hb i
    have := h.ne0 i hi
    omega) (by
    intro i j hij hj
    have := hb i
    have := hb j
    have := h.ne0 i (by omega)
    have := h.ne0 j hj
    have := h.inj i j hij hj
    omega) (by omega)
  refine ⟨i, h1, ?_⟩
  have := hb i
  have := h.ne0 i h1
  omega
theorem Pws.pw_ne0 (i : Nat) : pw i ≠ 0 := by
  rw [← h.mod_ i]
  exact h.ne0 _ (Nat.mod_lt _ (by have := h.q2; omega))
theorem Pws.mul_ne0 {x y : Int} (hx : El p n x) (hy : El p n y) (x0 : x ≠ 0) (y0 : y ≠ 0) : mulM p n mod x y ≠ 0 := by
  obtain ⟨i, _, rfl⟩ := h.all hx x0
  obtain ⟨j, _, rfl⟩ := h.all hy y0
  rw [h.add]
  exact h.pw_ne0 _
theorem Pws.inv {i : Nat} (hi : i < q - 1) : mulM p n mod (pw i) (pw ((q - 1 - i) % (q - 1))) = 1 := by
  rw [h.mod_, h.add, show i + (q - 1 - i) = 0 + (q - 1) by omega, h.per, h.z]
end
theorem inv_uniq {p : Int} {n : Nat} {mod : List Int} (hp : 2 ≤ p) (hn : 1 ≤ n) {x y z : Int} (hy : El p n y) (hz : El p n z) (h1 : mulM p n mod x y = 1) (h2 : mulM p n mod x z = 1) : y = z := by
  have a : mulM p n mod (mulM p n mod z x) y = z := by rw [mulM_assoc (by omega), h1, mulM_one hp hn hz]
  rw [mulM_comm (by omega) (x := z), h2, mulM_comm (by omega), mulM_one hp hn hy] at a
  exact a
open Classical in
noncomputable def invM (p : Int) (n : Nat) (mod : List Int) (x : Int) : Int := if h : ∃ y, El p n y ∧ mulM p n mod x y = 1 then choose h else 0
theorem invM_eq {p : Int} {n : Nat} {mod : List Int} (hp : 2 ≤ p) (hn : 1 ≤ n) {x y : Int} (hy : El p n y) (h : mulM p n mod x y = 1) : invM p n mod x = y := by
  have he : ∃ y, El p n y ∧ mulM p n mod x y = 1 := ⟨y, hy, h⟩
  rw [invM, dif_pos he]
  exact inv_uniq hp hn (Classical.choose_spec he).1 hy (Classical.choose_spec he).2 h
theorem invM_none {p : Int} {n : Nat} {mod : List Int} {x : Int} (h : ∀ y, El p n y → mulM p n mod x y ≠ 1) : invM p n mod x = 0 := by
  rw [invM, dif_neg (fun ⟨y, a, b⟩ => h y a b)]
theorem invM_El {p : Int} {n : Nat} {mod : List Int} (hp : 2 ≤ p) {x : Int} : El p n (invM p n mod x) := by
  by_cases h : ∃ y, El p n y ∧ mulM p n mod x y = 1
  · rw [invM, dif_pos h]; exact (Classical.choose_spec h).1
  · rw [invM, dif_neg h]; exact zero_El (by omega)
theorem Pws.inv_ {p : Int} {n : Nat} {mod : List Int} {q : Nat} {pw : Nat → Int} (h : Pws p n mod q pw) {x : Int} (hx : El p n x) (h0 : x ≠ 0) : mulM p n mod x (invM p n mod x) = 1 := by
  obtain ⟨i, hi, rfl⟩ := h.all hx h0
  rw [invM_eq h.hp h.hn (h.el _) (h.inv hi)]
  exact h.inv hi
def rstep (p : Int) (low : List Int) (r : List Int) (i : Nat) : List Int :=
  (List.range r.length).map fun t => if t = i then 0 else if i - low.length ≤ t ∧ t < i then (r.getD t 0 + (p - r.getD i 0) * low.getD (t - (i - low.length)) 0) % p else r.getD t 0
def remL (p : Int) (low : List Int) (r : List Int) : Nat → List Int
  | 0 => r
  | k + 1 => remL p low (rstep p low r (low.length + k)) k
@[simp] theorem rstep_len (p : Int) (low r : List Int) (i : Nat) : (rstep p low r i).length = r.length := by simp [rstep]
def divB (p : Int) (mod low : List Int) : Bool := (remL p low (mod ++ [1]) (mod.length + 1 - low.length)).all (· == 0)
theorem rstep_lv (p : Int) (low r : List Int) (i t : Nat) (hi : i < r.length) : lv (rstep p low r i) t = if t = i then 0 else if i - low.length ≤ t ∧ t < i then (lv r t + (p - lv r i) * lv low (t - (i - low.length))) % p else lv r t := by
  rw [rstep, lv_map]
  by_cases h : t < r.length
  · rw [if_pos h]; rfl
  · rw [if_neg h, if_neg (by omega), if_neg (by omega), lv_Vn r t (by omega)]
variable {n : Nat} {md : Vec} {p : Int}
theorem apn_ext (b : Vec) {k k' : Nat} (h : k ≤ k') (hb : ∀ i, k ≤ i → i < k' → b i = 0) (v : Vec) : apn n md b k' v = apn n md b k v := by
  induction k' with
  | zero => rw [show k = 0 by omega]
  | succ k' ih =>
    rcases Nat.lt_or_ge k (k' + 1) with h1 | h1
    · rw [apn, ih (by omega) (fun i a b => hb i a (by omega)), hb k' (by omega) (by omega)]
      funext j; simp [lin]
    · rw [show k = k' + 1 by omega]
theorem apn_shift (b : Vec) (s k : Nat) (v : Vec) : apn n md (fun t => if s ≤ t then b (t - s) else 0) (s + k) v = tXs n md s (apn n md b k v) := by
  induction k with
  | zero =>
    rw [Nat.add_zero, apn, tXs_zero, apn_ext _ (Nat.zero_le s) (fun i _ h => by rw [if_neg (by omega)])]
    rfl
  | succ k ih =>
    rw [← Nat.add_assoc, apn, ih, apn, tXs_lin, if_pos (by omega), show s + k - s = k by omega, tXs_add]
theorem apn_Cg {b b' : Vec} (k : Nat) (h : ∀ i, i < k → b i % p = b' i % p) (v : Vec) : Cg p (apn n md b k v) (apn n md b' k v) := by
  induction k with
  | zero => exact .refl _
  | succ k ih =>
    have hk := h k (by omega)
    have a := Int.emod_add_mul_ediv (b k) p
    have c := Int.emod_add_mul_ediv (b' k) p
    obtain ⟨w, hw⟩ := ih (fun i hi => h i (by omega))
    refine ⟨lin w (b k / p - b' k / p) (tXs n md k v), ?_⟩
    funext j
    have := congrFun hw j
    simp only [apn, lin] at this ⊢
    grind
def ev (n : Nat) (md : Vec) (c : Vec) (k : Nat) : Vec := apn n md c k (eX 0)
theorem tXs_top (hn : 1 ≤ n) (hm : Vn n md) : tXs n md n (eX 0) = lin (fun _ => 0) (-1) md := by
  obtain ⟨n, rfl⟩ : ∃ k, n = k + 1 := ⟨n - 1, by omega⟩
  rw [tXs, tXs_e n (by omega)]
  funext j
  simp only [tX, lin, eX]
  by_cases h : j < n + 1
  · rw [if_pos h]
    by_cases h0 : j = 0
    · simp [h0]
    · rw [if_neg h0, if_neg (by omega)]; simp
  · rw [if_neg h, hm j (by omega)]; simp
theorem ev_rstep {low r : List Int} {i : Nat} (hp : p ≠ 0) (hi : i < r.length) (hd : low.length ≤ i) :
    Cg p (ev n md (lv r) r.length) (lin (ev n md (lv (rstep p low r i)) r.length) (lv r i) (tXs n md (i - low.length) (lin (ev n md (lv low) low.length) 1 (tXs n md low.length (eX 0))))) := by
  have h1 : lin (ev n md (lv low) low.length) 1 (tXs n md low.length (eX 0)) = ev n md (fun t => if t = low.length then 1 else lv low t) (low.length + 1) := by
    rw [ev, ev, apn, if_pos rfl]
    congr 1
    exact apn_congr _ (fun t ht => by rw [if_neg (by omega)]) _
  rw [h1, ev, ev, ev, ← apn_shift, show i - low.length + (low.length + 1) = i + 1 by omega]
  rw [← apn_ext (k := i + 1) (k' := r.length) (fun t => if i - low.length ≤ t then (fun t => if t = low.length then 1 else lv low t) (t - (i - low.length)) else 0) (by omega) (fun t a b => by
    simp only
    rw [if_pos (by omega), if_neg (by omega), lv_Vn low _ (by omega)]), ← apn_add]
  refine apn_Cg _ (fun t ht => ?_) _
  simp only [lin, rstep_lv p low r i t hi]
  by_cases e : t = i
  · subst e
    rw [if_pos rfl, if_pos (by omega), if_pos (by omega)]; simp
  · rw [if_neg e]
    by_cases h : i - low.length ≤ t ∧ t < i
    · rw [if_pos h, if_pos h.1, if_neg (by omega)]
      rw [show (lv r t + (p - lv r i) * lv low (t - (i - low.length))) % p + lv r i * lv low (t - (i - low.length)) = lv r t + p * (lv low (t - (i - low.length)) - (lv r t + (p - lv r i) * lv low (t - (i - low.length))) / p) by
        have := Int.emod_add_mul_ediv (lv r t + (p - lv r i) * lv low (t - (i - low.length))) p
        grind, Int.add_mul_emod_self_left]
    · rw [if_neg h]
      by_cases h2 : i - low.length ≤ t
      · rw [if_pos h2, if_neg (by omega), lv_Vn low _ (by omega)]; simp
      · rw [if_neg h2]; simp
theorem ev_remL {low : List Int} (hp : p ≠ 0) : ∀ (k : Nat) (r : List Int), low.length + k ≤ r.length →
    ∃ g : Vec, (∀ i, k ≤ i → g i = 0) ∧ (0 < k → g (k - 1) = lv r (low.length + k - 1)) ∧ Cg p (ev n md (lv r) r.length) (lin (ev n md (lv (remL p low r k)) r.length) 1 (apn n md g k (lin (ev n md (lv low) low.length) 1 (tXs n md low.length (eX 0)))))
  | 0, r, h => ⟨fun _ => 0, fun _ _ => rfl, by omega, .of_eq (by funext j; simp [lin, remL, apn])⟩
  | k + 1, r, h => by
    obtain ⟨g, h1, _, h3⟩ := ev_remL (low := low) hp k (rstep p low r (low.length + k)) (by rw [rstep_len]; omega)
    rw [rstep_len] at h3
    refine ⟨fun i => if i = k then lv r (low.length + k) else g i, fun i hi => by simp only; rw [if_neg (by omega), h1 i (by omega)], fun _ => by simp only; rw [if_pos (by omega)]; rfl, ?_⟩
    refine (ev_rstep (low := low) (r := r) (i := low.length + k) hp (by omega) (by omega)).trans ?_
    rw [remL, apn, if_pos rfl, show low.length + k - low.length = k by omega]
    refine (h3.lin (.refl _) _).trans (.of_eq ?_)
    rw [apn_congr (a := fun i => if i = k then lv r (low.length + k) else g i) (b := g) k (fun i hi => by rw [if_neg (by omega)])]
    funext j; simp only [lin]; omega
theorem lin_eX_El {p : Int} {n : Nat} (hp : 2 ≤ p) {l : List Int} (hl : l.length = n) (hd : Digs p l) : El p n (val p l) ∧ dv p n (val p l) = lv l := by
  refine ⟨?_, dv_val (by omega) hl hd⟩
  have := val_bd (by omega) l hd
  rwa [hl] at this
theorem divB_zero {p : Int} {mod low : List Int} (hp : 2 ≤ p) (hm : Digs p mod) (hl : Digs p low) (h1 : 1 ≤ low.length) (h2 : low.length < mod.length) (h : divB p mod low = true) :
    ∃ x y, El p mod.length x ∧ El p mod.length y ∧ x ≠ 0 ∧ y ≠ 0 ∧ mulM p mod.length mod x y = 0 := by
  generalize hn : mod.length = n at *
  obtain ⟨g, g1, g2, g3⟩ := ev_remL (p := p) (low := low) (n := n) (md := lv mod) (by omega) (n + 1 - low.length) (mod ++ [1]) (by simp; omega)
  have hz : lv (remL p low (mod ++ [1]) (n + 1 - low.length)) = fun _ => 0 := by
    rw [divB, List.all_eq_true, hn] at h
    funext j
    simp only [lv]
    rw [List.getD_eq_getElem?_getD]
    cases e : (remL p low (mod ++ [1]) (n + 1 - low.length))[j]? with
    | none => rfl
    | some x => have := h x (List.mem_of_getElem? e); simpa using this
  have hlen : (mod ++ [1] : List Int).length = n + 1 := by simp [hn]
  have hmv : Vn n (lv mod) := hn ▸ lv_Vn mod
  have hL : ev n (lv mod) (lv (mod ++ [1])) (n + 1) = fun _ => 0 := by
    rw [ev, apn, tXs_top (by omega) hmv, apn_congr (b := lv mod) n (fun i hi => by simp only [lv, List.getD_eq_getElem?_getD]; rw [List.getElem?_append_left (by omega)]), apn_e hmv]
    funext j; simp [lin, lv, ← hn]; omega
  rw [hlen, hL, hz] at g3
  rw [show ev n (lv mod) (fun _ => 0) (n + 1) = fun _ => 0 by
    rw [ev, apn_ext _ (Nat.zero_le _) (fun _ _ _ => rfl)]; rfl] at g3
  -- the divisor and the quotient as residues
  have hD : lin (ev n (lv mod) (lv low) low.length) 1 (tXs n (lv mod) low.length (eX 0)) = lin (lv low) 1 (eX low.length) := by
    rw [tXs_e _ h2]
    congr 1
    rw [ev, ← apn_ext (k' := n) _ (by omega) (fun i a _ => lv_Vn low i a)]
    exact apn_e (fun j hj => lv_Vn low j (by omega))
  rw [hD] at g3
  let lx : List Int := (List.range n).map fun j => (lin (lv low) 1 (eX low.length) j) % p
  let ly : List Int := (List.range n).map fun j => g j % p
  obtain ⟨ex, dx⟩ := lin_eX_El (n := n) hp (l := lx) (by simp [lx]) (map_Digs (by omega) n _)
  obtain ⟨ey, dy⟩ := lin_eX_El (n := n) hp (l := ly) (by simp [ly]) (map_Digs (by omega) n _)
  have cx : Cg p (dv p n (val p lx)) (lin (lv low) 1 (eX low.length)) := by
    rw [dx]
    refine .of_mod fun j => ?_
    rw [lv_map]
    split
    · exact Int.emod_emod _ _
    · rename_i hj; simp only [lin]; rw [lv_Vn low j (by omega), eX, if_neg (by omega)]; simp
  have cy : Cg p (dv p n (val p ly)) g := by
    rw [dy]
    refine .of_mod fun j => ?_
    rw [lv_map]
    split
    · exact Int.emod_emod _ _
    · rename_i hj; rw [g1 j (by omega)]
  refine ⟨val p lx, val p ly, ex, ey, ?_, ?_, ?_⟩
  · intro h0
    have := congrFun dx low.length
    rw [h0, dv_zero, lv_map, if_pos h2] at this
    simp only [lin, eX, lv_Vn low _ (Nat.le_refl _), if_pos] at this
    rw [Int.emod_eq_of_lt (by omega) (by omega)] at this
    omega
  · intro h0
    have := congrFun dy (n - low.length)
    rw [h0, dv_zero, lv_map, if_pos (by omega)] at this
    have g2 := g2 (by omega)
    rw [show n + 1 - low.length - 1 = n - low.length by omega, show low.length + (n + 1 - low.length) - 1 = n by omega] at g2
    rw [g2] at this
    simp [lv, ← hn] at this
    rw [Int.emod_eq_of_lt (by omega) (by omega)] at this
    omega
  · refine res_ext (by omega) (mulM_El (by omega)) (zero_El (by omega)) ((mulM_Cg (by omega) n mod _ _).trans ?_)
    refine (cx.mulZ cy).trans ?_
    rw [dv_zero]
    refine Cg.symm (g3.trans (.of_eq ?_))
    rw [mulZ, apn_ext (k := n + 1 - low.length) (k' := n) g (by omega) (fun i a _ => g1 i a)]
    funext j; simp [lin]
def pwr (p : Int) (n : Nat) (mod : List Int) (x : Int) : Nat → Int
  | 0 => 1
  | 1 => x
  | i + 2 => mulM p n mod (pwr p n mod x (i + 1)) x
def Run1 (p : Int) (n : Nat) (mod : List Int) (x : Int) (k : Nat) : Prop := 1 ≤ k ∧ (∀ i, 1 ≤ i → i < k → pwr p n mod x i ≠ 0) ∧ ∀ i j, i < j → j < k → pwr p n mod x i ≠ pwr p n mod x j
structure GenOf (p : Int) (n : Nat) (mod : List Int) (q : Nat) (x : Int) : Prop where
  x1 : 1 ≤ x
  xq : x < q
  run : Run1 p n mod x (q - 1)
  one : mulM p n mod (pwr p n mod x (q - 2)) x = 1
theorem GenOf.pws {p : Int} {n : Nat} {mod : List Int} {q : Nat} {x : Int} (h : GenOf p n mod q x) (hp : 2 ≤ p) (hn : 1 ≤ n) (hq : (q : Int) = p ^ n) : Pws p n mod q (pwr p n mod x) := by
  have hx : El p n x := ⟨by have := h.x1; omega, by have := h.xq; omega⟩
  have q2 : 2 ≤ q := by
    have := (El_one hp hn).2
    omega
  have hs : ∀ i, pwr p n mod x (i + 1) = mulM p n mod (pwr p n mod x i) x := by
    intro i
    cases i with
    | zero => simp only [pwr]; rw [mulM_comm (by omega), mulM_one hp hn hx]
    | succ i => rfl
  refine ⟨hp, hn, hq, ?_, rfl, hs, ?_, h.run.2.2, ?_⟩
  · intro i
    match i with
    | 0 => exact El_one hp hn
    | 1 => exact hx
    | i + 2 => exact mulM_El (by omega)
  · intro i hi
    match i with
    | 0 => simp [pwr]
    | i + 1 => exact h.run.2.1 _ (by omega) hi
  · rw [show q - 1 = (q - 2) + 1 by omega, hs]; exact h.one
end Go.Proofs.YtefjnnghfloddaaGreat.Abs

/- Which residues are a field: a table, checked by the kernel. -/
namespace Go.Proofs.YtefjnnghfloddaaGreat.Abs
set_option linter.unusedVariables false
set_option linter.unusedSimpArgs false
def frc {α : Type} (n : Nat) (f : Nat → α) : α :=
  match n with
  | 0 => f 0
  | k + 1 => f (k + 1)
theorem frc_eq {α : Type} (n : Nat) (f : Nat → α) : frc n f = f n := by cases n <;> rfl
def frcL {α : Type} : List Nat → (List Nat → α) → α
  | [], f => f []
  | x :: l, f => frc x fun x => frcL l fun l => f (x :: l)
theorem frcL_eq {α : Type} : ∀ (l : List Nat) (f : List Nat → α), frcL l f = f l
  | [], f => rfl
  | x :: l, f => by rw [frcL, frc_eq, frcL_eq]
def lst : List Nat → Nat → Nat
  | [], d => d
  | x :: l, _ => lst l x
def stN (p t c : Nat) : List Nat → Nat → List Nat → List Nat → List Nat
  | [], _, _, _ => []
  | o :: os, prev, ms, as => frc (((prev.add (t.mul (ms.headD 0))).add (c.mul (as.headD 0))).mod p) fun v => v :: stN p t c os o ms.tail as.tail
def hornN (p n : Nat) (mod a : List Nat) : List Nat → List Nat
  | [] => List.replicate n 0
  | c :: b => frcL (hornN p n mod a b) fun o => stN p (p.sub (lst o 0)) c o 0 mod a
def powN (p n : Nat) (mod a : List Nat) : Nat → Nat → List Nat
  | 0, _ => 1 :: List.replicate (n - 1) 0
  | f + 1, e => frcL (powN p n mod a f (e / 2)) fun h => frcL (hornN p n mod h h) fun s => if e % 2 = 1 then hornN p n mod s a else s
def digN (p : Nat) : Nat → Nat → List Nat
  | 0, _ => []
  | n + 1, x => frc (x % p) fun d => frc (x / p) fun y => d :: digN p n y
def eqN : List Nat → List Nat → Bool
  | [], [] => true
  | x :: l, y :: m => (x.beq y) && eqN l m
  | _, _ => false
def genB (p n : Nat) (mod : List Nat) (E : List Nat) (N x : Nat) : Bool :=
  frcL (digN p n x) fun a => eqN (powN p n mod a 9 N) (1 :: List.replicate (n - 1) 0) && E.all fun e => !(eqN (powN p n mod a 9 e) (1 :: List.replicate (n - 1) 0))
def rsN (p c : Nat) (low : List Nat) : List Nat → List Nat
  | [] => []
  | r :: rs => frc ((r.add (c.mul (low.headD 0))).mod p) fun v => v :: rsN p c low.tail rs
def remN (p : Nat) (low : List Nat) : Nat → List Nat → List Nat
  | 0, r => r
  | _ + 1, [] => []
  | k + 1, c :: r => frcL (rsN p (p.sub c) low r) fun r => remN p low k r
def divN (p : Nat) (mod low : List Nat) : Bool := eqN (remN p low.reverse (mod.length + 1 - low.length) (1 :: mod.reverse)) (List.replicate low.length 0)
def chk1 (p n : Nat) (E : List Nat) (N v : Nat) (w : Nat × Nat) : Bool :=
  frcL (digN p n v) fun mod => if w.1 = 0 then genB p n mod E N w.2 else (2 * w.1).ble n && divN p mod (digN p w.1 w.2)
def chkA (p n : Nat) (E : List Nat) (N : Nat) : Nat → List (Nat × Nat) → Bool
  | _, [] => true
  | v, w :: l => chk1 p n E N v w && chkA p n E N (v + 1) l
def tabL : List (Nat × Nat × List Nat × List (Nat × Nat)) := [
    (2, 1, [], [(0, 1)]),
    (2, 2, [1], [(1, 0), (1, 1), (1, 0), (0, 2)]),
    (2, 3, [1], [(1, 0), (1, 1), (1, 0), (0, 2), (1, 0), (0, 2), (1, 0), (1, 1)]),
    (2, 4, [5, 3], [(1, 0), (1, 1), (1, 0), (0, 2), (1, 0), (2, 3), (1, 0), (1, 1), (1, 0), (0, 2), (1, 0), (1, 1), (1, 0), (1, 1), (1, 0), (0, 3)]),
    (2, 5, [1], [(1, 0), (1, 1), (1, 0), (2, 3), (1, 0), (0, 2), (1, 0), (1, 1), (1, 0), (0, 2), (1, 0), (1, 1), (1, 0), (1, 1), (1, 0), (0, 2), (1, 0), (2, 3), (1, 0), (1, 1), (1, 0), (1, 1), (1, 0), (0, 2), (1, 0), (1, 1), (1, 0), (0, 2), (1, 0), (0, 2), (1, 0), (1, 1)]),
    (2, 6, [21, 9], [(1, 0), (1, 1), (1, 0), (0, 2), (1, 0), (3, 3), (1, 0), (1, 1), (1, 0), (0, 3), (1, 0), (1, 1), (1, 0), (1, 1), (1, 0), (2, 3), (1, 0), (3, 5), (1, 0), (1, 1), (1, 0), (1, 1), (1, 0), (0, 3), (1, 0), (1, 1), (1, 0), (0, 2), (1, 0), (2, 3), (1, 0), (1, 1), (1, 0), (0, 2), (1, 0), (1, 1), (1, 0), (1, 1), (1, 0), (0, 2), (1, 0), (1, 1), (1, 0), (2, 3), (1, 0), (0, 2), (1, 0), (1,
    1), (1, 0), (1, 1), (1, 0), (0, 2), (1, 0), (0, 3), (1, 0), (1, 1), (1, 0), (2, 3), (1, 0), (1, 1), (1, 0), (1, 1), (1, 0), (3, 3)]),
    (2, 7, [1], [(1, 0), (1, 1), (1, 0), (0, 2), (1, 0), (2, 3), (1, 0), (1, 1), (1, 0), (0, 2), (1, 0), (1, 1), (1, 0), (1, 1), (1, 0), (0, 2), (1, 0), (0, 2), (1, 0), (1, 1), (1, 0), (1, 1), (1, 0), (2, 3), (1, 0), (1, 1), (1, 0), (3, 5), (1, 0), (0, 2), (1, 0), (1, 1), (1, 0), (2, 3), (1, 0), (1, 1), (1, 0), (1, 1), (1, 0), (0, 2), (1, 0), (1, 1), (1, 0), (0, 2), (1, 0), (3, 3), (1, 0), (1, 1),
    (1, 0), (1, 1), (1, 0), (2, 3), (1, 0), (3, 5), (1, 0), (1, 1), (1, 0), (0, 2), (1, 0), (1, 1), (1, 0), (1, 1), (1, 0), (0, 2), (1, 0), (0, 2), (1, 0), (1, 1), (1, 0), (1, 1), (1, 0), (3, 5), (1, 0), (1, 1), (1, 0), (0, 2), (1, 0), (2, 3), (1, 0), (1, 1), (1, 0), (1, 1), (1, 0), (0, 2), (1, 0), (0, 2), (1, 0), (1, 1), (1, 0), (3, 3), (1, 0), (1, 1), (1, 0), (1, 1), (1, 0), (2, 3), (1, 0), (1,
    1), (1, 0), (3, 3), (1, 0), (0, 2), (1, 0), (1, 1), (1, 0), (2, 3), (1, 0), (1, 1), (1, 0), (1, 1), (1, 0), (0, 2), (1, 0), (0, 2), (1, 0), (1, 1), (1, 0), (1, 1), (1, 0), (0, 2), (1, 0), (1, 1), (1, 0), (2, 3), (1, 0), (0, 2), (1, 0), (1, 1)]),
    (2, 8, [85, 51, 15], [(1, 0), (1, 1), (1, 0), (2, 3), (1, 0), (4, 3), (1, 0), (1, 1), (1, 0), (3, 3), (1, 0), (1, 1), (1, 0), (1, 1), (1, 0), (3, 5), (1, 0), (2, 3), (1, 0), (1, 1), (1, 0), (1, 1), (1, 0), (4, 9), (1, 0), (1, 1), (1, 0), (0, 3), (1, 0), (0, 2), (1, 0), (1, 1), (1, 0), (3, 5), (1, 0), (1, 1), (1, 0), (1, 1), (1, 0), (2, 3), (1, 0), (1, 1), (1, 0), (0, 2), (1, 0), (0, 2), (1,
    0), (1, 1), (1, 0), (1, 1), (1, 0), (3, 3), (1, 0), (2, 3), (1, 0), (1, 1), (1, 0), (0, 3), (1, 0), (1, 1), (1, 0), (1, 1), (1, 0), (0, 3), (1, 0), (4, 9), (1, 0), (1, 1), (1, 0), (1, 1), (1, 0), (3, 3), (1, 0), (1, 1), (1, 0), (2, 3), (1, 0), (0, 2), (1, 0), (1, 1), (1, 0), (1, 1), (1, 0), (3, 5), (1, 0), (4, 15), (1, 0), (1, 1), (1, 0), (2, 3), (1, 0), (1, 1), (1, 0), (1, 1), (1, 0), (0, 2),
    (1, 0), (1, 1), (1, 0), (0, 2), (1, 0), (0, 2), (1, 0), (1, 1), (1, 0), (0, 2), (1, 0), (1, 1), (1, 0), (1, 1), (1, 0), (2, 3), (1, 0), (0, 2), (1, 0), (1, 1), (1, 0), (1, 1), (1, 0), (0, 3), (1, 0), (1, 1), (1, 0), (0, 9), (1, 0), (2, 3), (1, 0), (1, 1), (1, 0), (2, 3), (1, 0), (1, 1), (1, 0), (1, 1), (1, 0), (0, 2), (1, 0), (1, 1), (1, 0), (0, 6), (1, 0), (0, 2), (1, 0), (1, 1), (1, 0), (1,
    1), (1, 0), (2, 3), (1, 0), (3, 3), (1, 0), (1, 1), (1, 0), (3, 5), (1, 0), (1, 1), (1, 0), (1, 1), (1, 0), (0, 3), (1, 0), (1, 1), (1, 0), (0, 3), (1, 0), (2, 3), (1, 0), (1, 1), (1, 0), (0, 2), (1, 0), (1, 1), (1, 0), (1, 1), (1, 0), (3, 3), (1, 0), (0, 6), (1, 0), (1, 1), (1, 0), (1, 1), (1, 0), (2, 3), (1, 0), (1, 1), (1, 0), (4, 3), (1, 0), (0, 7), (1, 0), (1, 1), (1, 0), (1, 1), (1, 0),
    (0, 2), (1, 0), (3, 5), (1, 0), (1, 1), (1, 0), (2, 3), (1, 0), (1, 1), (1, 0), (1, 1), (1, 0), (0, 2), (1, 0), (4, 3), (1, 0), (1, 1), (1, 0), (1, 1), (1, 0), (0, 7), (1, 0), (1, 1), (1, 0), (2, 3), (1, 0), (0, 6), (1, 0), (1, 1), (1, 0), (3, 3), (1, 0), (1, 1), (1, 0), (1, 1), (1, 0), (0, 2), (1, 0), (1, 1), (1, 0), (3, 5), (1, 0), (2, 3), (1, 0), (1, 1), (1, 0), (1, 1), (1, 0), (0, 6), (1,
    0), (0, 2), (1, 0), (1, 1), (1, 0), (0, 3), (1, 0), (1, 1), (1, 0), (1, 1), (1, 0), (2, 3)]),
    (3, 1, [1], [(0, 2)]),
    (3, 2, [4], [(1, 0), (0, 4), (1, 1), (1, 0), (1, 2), (0, 3), (1, 0), (1, 1), (0, 3)]),
    (3, 3, [13, 2], [(1, 0), (1, 1), (1, 2), (1, 0), (1, 2), (1, 1), (1, 0), (0, 3), (0, 6), (1, 0), (1, 2), (0, 5), (1, 0), (1, 1), (0, 4), (1, 0), (0, 3), (1, 1), (1, 0), (0, 3), (1, 1), (1, 0), (0, 3), (1, 2), (1, 0), (1, 1), (0, 4)]),
    (3, 4, [40, 16], [(1, 0), (2, 5), (1, 1), (1, 0), (1, 2), (0, 3), (1, 0), (1, 1), (0, 3), (1, 0), (1, 1), (0, 12), (1, 0), (0, 4), (1, 1), (1, 0), (0, 5), (1, 2), (1, 0), (2, 1), (0, 4), (1, 0), (1, 1), (1, 2), (1, 0), (1, 2), (1, 1), (1, 0), (1, 2), (0, 3), (1, 0), (1, 1), (2, 1), (1, 0), (0, 4), (1, 1), (1, 0), (0, 10), (1, 1), (1, 0), (0, 5), (1, 2), (1, 0), (1, 1), (0, 3), (1, 0), (1, 1),
    (1, 2), (1, 0), (1, 2), (1, 1), (1, 0), (2, 8), (0, 3), (1, 0), (1, 1), (0, 3), (1, 0), (0, 4), (1, 1), (1, 0), (1, 2), (2, 1), (1, 0), (0, 10), (1, 2), (1, 0), (1, 1), (0, 3), (1, 0), (0, 4), (1, 1), (1, 0), (1, 2), (1, 1), (1, 0), (2, 5), (0, 3), (1, 0), (1, 1), (1, 2)]),
    (3, 5, [121, 22], [(1, 0), (1, 1), (1, 2), (1, 0), (1, 2), (1, 1), (1, 0), (0, 3), (0, 6), (1, 0), (1, 2), (2, 8), (1, 0), (1, 1), (0, 4), (1, 0), (2, 1), (1, 1), (1, 0), (2, 5), (1, 1), (1, 0), (0, 3), (1, 2), (1, 0), (1, 1), (2, 1), (1, 0), (1, 2), (1, 1), (1, 0), (0, 3), (0, 6), (1, 0), (1, 1), (1, 2), (1, 0), (1, 1), (0, 4), (1, 0), (2, 8), (1, 1), (1, 0), (1, 2), (0, 6), (1, 0), (0, 3),
    (1, 2), (1, 0), (1, 1), (2, 5), (1, 0), (0, 3), (1, 1), (1, 0), (2, 8), (2, 5), (1, 0), (1, 1), (1, 2), (1, 0), (1, 2), (1, 1), (1, 0), (0, 3), (1, 1), (1, 0), (1, 2), (0, 5), (1, 0), (1, 1), (0, 4), (1, 0), (1, 1), (0, 4), (1, 0), (0, 3), (1, 1), (1, 0), (0, 4), (1, 2), (1, 0), (1, 2), (0, 5), (1, 0), (1, 1), (0, 4), (1, 0), (0, 3), (1, 1), (1, 0), (0, 3), (1, 1), (1, 0), (0, 3), (1, 2), (1,
    0), (1, 1), (0, 4), (1, 0), (1, 1), (1, 2), (1, 0), (1, 2), (1, 1), (1, 0), (2, 1), (2, 8), (1, 0), (1, 1), (2, 1), (1, 0), (0, 3), (1, 1), (1, 0), (1, 2), (2, 5), (1, 0), (2, 5), (1, 2), (1, 0), (1, 1), (2, 8), (1, 0), (0, 3), (1, 1), (1, 0), (1, 2), (1, 1), (1, 0), (0, 3), (0, 6), (1, 0), (1, 1), (1, 2), (1, 0), (0, 3), (1, 1), (1, 0), (1, 2), (2, 1), (1, 0), (1, 1), (0, 6), (1, 0), (1, 1),
    (0, 4), (1, 0), (0, 3), (1, 1), (1, 0), (2, 8), (1, 2), (1, 0), (0, 3), (0, 6), (1, 0), (1, 1), (1, 2), (1, 0), (1, 2), (1, 1), (1, 0), (0, 3), (1, 1), (1, 0), (0, 3), (1, 2), (1, 0), (1, 1), (0, 5), (1, 0), (1, 1), (1, 2), (1, 0), (1, 2), (1, 1), (1, 0), (2, 5), (2, 1), (1, 0), (1, 2), (0, 5), (1, 0), (1, 1), (0, 4), (1, 0), (0, 3), (1, 1), (1, 0), (2, 1), (1, 2), (1, 0), (1, 1), (0, 4), (1,
    0), (2, 8), (1, 1), (1, 0), (1, 2), (1, 1), (1, 0), (0, 3), (0, 6), (1, 0), (1, 1), (1, 2), (1, 0), (1, 1), (2, 8), (1, 0), (2, 5), (1, 1), (1, 0), (1, 2), (0, 5), (1, 0), (1, 1), (0, 4), (1, 0), (2, 1), (1, 1), (1, 0), (0, 3), (1, 2), (1, 0), (0, 3), (0, 6), (1, 0), (1, 1), (1, 2), (1, 0), (1, 2), (1, 1), (1, 0), (0, 7), (1, 1), (1, 0), (1, 2), (0, 5), (1, 0), (1, 1), (2, 5)]),
    (5, 1, [2], [(0, 2)]),
    (5, 2, [12, 8], [(1, 0), (1, 2), (0, 6), (0, 7), (1, 1), (1, 0), (0, 7), (0, 5), (1, 2), (1, 3), (1, 0), (1, 1), (1, 3), (0, 5), (0, 8), (1, 0), (1, 4), (1, 1), (0, 5), (0, 6), (1, 0), (0, 6), (0, 5), (1, 1), (1, 2)]),
    (5, 3, [62, 4], [(1, 0), (1, 1), (1, 3), (1, 2), (1, 4), (1, 0), (0, 9), (1, 1), (1, 4), (0, 6), (1, 0), (0, 6), (1, 2), (1, 1), (0, 7), (1, 0), (1, 3), (0, 5), (0, 5), (1, 1), (1, 0), (1, 2), (0, 5), (0, 5), (1, 3), (1, 0), (0, 7), (0, 5), (1, 3), (1, 2), (1, 0), (1, 1), (1, 4), (0, 5), (0, 6), (1, 0), (1, 4), (1, 1), (1, 2), (1, 3), (1, 0), (0, 6), (1, 3), (1, 1), (0, 8), (1, 0), (0, 6), (1,
    2), (0, 5), (1, 1), (1, 0), (0, 6), (1, 4), (0, 5), (1, 1), (1, 0), (1, 4), (1, 2), (0, 5), (0, 7), (1, 0), (1, 1), (0, 5), (0, 5), (1, 2), (1, 0), (1, 2), (1, 1), (1, 3), (1, 4), (1, 0), (1, 3), (0, 5), (1, 1), (0, 8), (1, 0), (1, 2), (0, 5), (1, 1), (0, 7), (1, 0), (0, 6), (0, 5), (1, 2), (1, 1), (1, 0), (1, 3), (0, 5), (0, 5), (1, 4), (1, 0), (1, 1), (1, 2), (1, 4), (1, 3), (1, 0), (0, 7),
    (1, 1), (0, 5), (1, 2), (1, 0), (1, 3), (1, 1), (0, 5), (0, 6), (1, 0), (0, 6), (0, 5), (1, 1), (1, 2), (1, 0), (1, 2), (1, 3), (1, 4), (1, 1), (1, 0), (0, 7), (1, 4), (1, 2), (0, 9), (1, 0), (1, 1), (0, 5), (1, 3), (0, 6)]),
    (7, 1, [3, 2], [(0, 3)]),
    (7, 2, [24, 16], [(1, 0), (0, 9), (0, 8), (1, 2), (0, 8), (1, 3), (1, 1), (1, 0), (1, 3), (1, 4), (0, 7), (0, 10), (1, 2), (0, 10), (1, 0), (1, 1), (0, 10), (0, 7), (1, 3), (0, 7), (1, 4), (1, 0), (0, 11), (1, 1), (1, 4), (1, 5), (0, 7), (0, 11), (1, 0), (0, 8), (1, 5), (1, 1), (1, 2), (0, 7), (0, 8), (1, 0), (1, 6), (0, 8), (0, 7), (1, 1), (0, 7), (1, 2), (1, 0), (1, 2), (1, 3), (0, 7), (0,
    9), (1, 1), (0, 9)]),
    (11, 1, [5, 2], [(0, 2)]),
    (11, 2, [60, 40, 24], [(1, 0), (0, 15), (1, 3), (0, 13), (0, 14), (0, 12), (1, 4), (1, 2), (1, 5), (0, 13), (1, 1), (1, 0), (0, 15), (1, 5), (1, 6), (0, 13), (1, 3), (0, 13), (0, 11), (0, 11), (1, 2), (1, 4), (1, 0), (1, 1), (0, 16), (1, 4), (0, 14), (0, 15), (0, 11), (1, 5), (1, 3), (1, 6), (0, 14), (1, 0), (1, 5), (1, 1), (0, 16), (1, 6), (1, 7), (0, 11), (1, 4), (0, 11), (0, 12), (0, 12),
    (1, 0), (1, 7), (0, 11), (1, 1), (1, 2), (0, 17), (1, 5), (0, 11), (0, 16), (0, 12), (1, 6), (1, 0), (0, 12), (0, 11), (0, 13), (1, 1), (1, 6), (1, 2), (0, 17), (1, 7), (1, 8), (0, 12), (1, 0), (0, 12), (0, 11), (0, 13), (1, 7), (1, 1), (1, 8), (0, 12), (1, 2), (1, 3), (0, 18), (1, 0), (1, 3), (0, 11), (1, 8), (1, 9), (0, 13), (1, 1), (0, 11), (0, 12), (0, 14), (1, 2), (1, 0), (1, 2), (1, 9),
    (0, 13), (1, 3), (1, 4), (0, 11), (1, 1), (0, 11), (0, 12), (0, 14), (1, 0), (1, 10), (0, 14), (1, 2), (0, 12), (0, 13), (0, 11), (1, 3), (1, 1), (1, 4), (0, 12), (1, 0), (0, 14), (1, 4), (1, 5), (0, 12), (1, 2), (0, 12), (0, 11), (0, 11), (1, 1), (1, 3)]),
    (13, 1, [6, 4], [(0, 2)]),
    (13, 2, [84, 56, 24], [(1, 0), (1, 5), (0, 15), (1, 6), (1, 3), (0, 14), (0, 14), (0, 15), (0, 17), (1, 2), (1, 4), (0, 15), (1, 1), (1, 0), (1, 4), (0, 13), (0, 17), (0, 15), (0, 15), (1, 5), (1, 3), (0, 17), (1, 6), (1, 7), (1, 2), (0, 17), (1, 0), (1, 1), (1, 6), (0, 16), (1, 7), (1, 4), (0, 13), (0, 13), (0, 16), (0, 18), (1, 3), (1, 5), (0, 16), (1, 0), (0, 18), (1, 1), (1, 5), (0, 14),
    (0, 18), (0, 13), (0, 13), (1, 6), (1, 4), (0, 18), (1, 7), (1, 8), (1, 0), (1, 6), (0, 13), (1, 1), (1, 2), (1, 7), (0, 13), (1, 8), (1, 5), (0, 14), (0, 14), (0, 13), (0, 19), (1, 0), (0, 19), (1, 8), (1, 9), (1, 1), (0, 19), (1, 2), (1, 6), (0, 15), (0, 19), (0, 14), (0, 13), (1, 7), (1, 0), (0, 15), (0, 13), (0, 14), (0, 20), (1, 1), (1, 7), (0, 13), (1, 2), (1, 3), (1, 8), (0, 13), (1,
    9), (1, 0), (0, 16), (0, 13), (0, 15), (0, 14), (1, 8), (1, 1), (0, 13), (1, 9), (1, 10), (1, 2), (0, 13), (1, 3), (1, 0), (0, 14), (1, 3), (1, 4), (1, 9), (0, 14), (1, 10), (1, 1), (0, 16), (0, 14), (0, 15), (0, 13), (1, 2), (1, 0), (1, 2), (0, 13), (1, 10), (1, 11), (1, 3), (0, 13), (1, 4), (1, 1), (0, 17), (0, 14), (0, 13), (0, 15), (1, 0), (0, 15), (1, 11), (1, 2), (0, 17), (0, 15), (0,
    13), (0, 13), (1, 3), (1, 1), (0, 15), (1, 4), (1, 5), (1, 0), (1, 12), (1, 4), (0, 14), (1, 5), (1, 2), (0, 13), (0, 13), (0, 14), (0, 16), (1, 1), (1, 3), (0, 14), (1, 0), (1, 3), (0, 13), (0, 16), (0, 14), (0, 14), (1, 4), (1, 2), (0, 16), (1, 5), (1, 6), (1, 1), (0, 16)]),
    (17, 1, [8], [(0, 3)]),
    (19, 1, [9, 6], [(0, 2)]),
    (23, 1, [11, 2], [(0, 5)]),
    (29, 1, [14, 4], [(0, 2)]),
    (31, 1, [15, 10, 6], [(0, 3)]),
    (37, 1, [18, 12], [(0, 2)]),
    (41, 1, [20, 8], [(0, 6)]),
    (43, 1, [21, 14, 6], [(0, 3)]),
    (47, 1, [23, 2], [(0, 5)]),
    (53, 1, [26, 4], [(0, 2)]),
    (59, 1, [29, 2], [(0, 2)]),
    (61, 1, [30, 20, 12], [(0, 2)]),
    (67, 1, [33, 22, 6], [(0, 2)]),
    (71, 1, [35, 14, 10], [(0, 7)]),
    (73, 1, [36, 24], [(0, 5)]),
    (79, 1, [39, 26, 6], [(0, 3)]),
    (83, 1, [41, 2], [(0, 2)]),
    (89, 1, [44, 8], [(0, 3)]),
    (97, 1, [48, 32], [(0, 5)]),
    (101, 1, [50, 20], [(0, 2)]),
    (103, 1, [51, 34, 6], [(0, 5)]),
    (107, 1, [53, 2], [(0, 2)]),
    (109, 1, [54, 36], [(0, 6)]),
    (113, 1, [56, 16], [(0, 3)]),
    (127, 1, [63, 42, 18], [(0, 3)]),
    (131, 1, [65, 26, 10], [(0, 2)]),
    (137, 1, [68, 8], [(0, 3)]),
    (139, 1, [69, 46, 6], [(0, 2)]),
    (149, 1, [74, 4], [(0, 2)]),
    (151, 1, [75, 50, 30], [(0, 6)]),
    (157, 1, [78, 52, 12], [(0, 5)]),
    (163, 1, [81, 54], [(0, 2)]),
    (167, 1, [83, 2], [(0, 5)]),
    (173, 1, [86, 4], [(0, 2)]),
    (179, 1, [89, 2], [(0, 2)]),
    (181, 1, [90, 60, 36], [(0, 2)]),
    (191, 1, [95, 38, 10], [(0, 19)]),
    (193, 1, [96, 64], [(0, 5)]),
    (197, 1, [98, 28], [(0, 2)]),
    (199, 1, [99, 66, 18], [(0, 3)]),
    (211, 1, [105, 70, 42, 30], [(0, 2)]),
    (223, 1, [111, 74, 6], [(0, 3)]),
    (227, 1, [113, 2], [(0, 2)]),
    (229, 1, [114, 76, 12], [(0, 6)]),
    (233, 1, [116, 8], [(0, 3)]),
    (239, 1, [119, 34, 14], [(0, 7)]),
    (241, 1, [120, 80, 48], [(0, 7)]),
    (251, 1, [125, 50], [(0, 6)])]
def chkT : List (Nat × Nat × List Nat × List (Nat × Nat)) → Bool
  | [] => true
  | (p, n, E, l) :: t => chkA p n E (p ^ n - 1) 0 l && chkT t
theorem chkT_ok : chkT tabL = true := by decide +kernel
end Go.Proofs.YtefjnnghfloddaaGreat.Abs

/- The residues of irreducible polynomials are a field. -/
namespace Go.Proofs.YtefjnnghfloddaaGreat.Abs
set_option linter.unusedVariables false
set_option linter.unusedSimpArgs false
def toI (l : List Nat) : List Int := l.map fun x : Nat => (x : Int)
@[simp] theorem toI_len (l : List Nat) : (toI l).length = l.length := by simp [toI]
theorem toI_get (l : List Nat) (j : Nat) : (toI l).getD j 0 = (l.getD j 0 : Nat) := by
  simp only [toI, List.getD_eq_getElem?_getD, List.getElem?_map]
  cases l[j]? <;> rfl
theorem toI_inj {l m : List Nat} (h : toI l = toI m) : l = m := by
  exact (List.map_inj_right (f := fun x : Nat => (x : Int)) (fun x y e => Int.ofNat.inj e)).1 h
theorem toI_Digs {p : Nat} {l : List Nat} : Digs p (toI l) ↔ ∀ j, j < l.length → l.getD j 0 < p := by
  constructor
  · intro h j hj
    have := (h j (by simpa using hj)).2
    rw [toI_get] at this
    omega
  · intro h j hj
    have := h j (by simpa using hj)
    rw [toI_get]
    omega
theorem getD_tail (l : List Nat) (j : Nat) : l.tail.getD j 0 = l.getD (j + 1) 0 := by cases l <;> simp
theorem headD_get (l : List Nat) : l.headD 0 = l.getD 0 0 := by cases l <;> rfl
theorem stN_len (p t c : Nat) : ∀ (os : List Nat) (prev : Nat) (ms as : List Nat), (stN p t c os prev ms as).length = os.length
  | [], _, _, _ => rfl
  | o :: os, prev, ms, as => by rw [stN, frc_eq]; simp [stN_len p t c os]
theorem stN_get (p t c : Nat) : ∀ (os : List Nat) (prev : Nat) (ms as : List Nat) (j : Nat), j < os.length → (stN p t c os prev ms as).getD j 0 = ((if j = 0 then prev else os.getD (j - 1) 0) + t * ms.getD j 0 + c * as.getD j 0) % p
  | [], _, _, _, j, h => by simp at h
  | o :: os, prev, ms, as, j, h => by
    rw [stN, frc_eq]
    cases j with
    | zero => simp only [List.getD_cons_zero, headD_get]; rfl
    | succ j =>
      rw [List.getD_cons_succ, stN_get p t c os o _ _ j (by simpa using h), getD_tail, getD_tail]
      cases j with
      | zero => rfl
      | succ j => rfl
theorem lst_get : ∀ (l : List Nat) (d : Nat), lst l d = if l.length = 0 then d else l.getD (l.length - 1) 0
  | [], d => rfl
  | x :: l, d => by
    rw [lst, lst_get l x]
    cases l with
    | nil => rfl
    | cons y l => simp
theorem hornN_len (p n : Nat) (mod a b : List Nat) : (hornN p n mod a b).length = n := by
  induction b with
  | nil => simp [hornN]
  | cons c b ih => rw [hornN, frcL_eq, stN_len, ih]
theorem getElem_D {l : List Int} {i : Nat} (h : i < l.length) : l[i] = l.getD i 0 := by rw [List.getD_eq_getElem?_getD, List.getElem?_eq_getElem h]; rfl
theorem hornN_ok {p n : Nat} (hp : 1 ≤ p) {mod a : List Nat} {modI : List Int} (hm : ∀ j, modI.getD j 0 = (mod.getD j 0 : Nat)) : ∀ (b : List Nat), toI (hornN p n mod a b) = horn p modI (toI a) (List.replicate n 0) (toI b)
  | [] => by simp [hornN, horn, toI]
  | c :: b => by
    have ih := hornN_ok hp hm (a := a) (n := n) b
    have hl := hornN_len p n mod a b
    have hd : ∀ j, j < n → (hornN p n mod a b).getD j 0 < p := fun j hj => by
      refine toI_Digs.1 (?_ : Digs p (toI (hornN p n mod a b))) j (by omega)
      rw [ih]
      exact horn_Digs (by omega) _ _ _ _ (rep_Digs (by omega) _)
    rw [hornN, frcL_eq]
    apply List.ext_getElem
    · simp [stN_len, hl, toI, horn]
    intro i h1 h2
    have h1' : i < n := by simpa [stN_len, hl, toI] using h1
    rw [getElem_D h1, getElem_D h2, toI_get, stN_get _ _ _ _ _ _ _ _ (by omega)]
    have e3 : horn p modI (toI a) (List.replicate n 0) (toI (c :: b)) = stepM p modI (toI a) (horn p modI (toI a) (List.replicate n 0) (toI b)) c := rfl
    rw [e3, ← ih, stepM_get _ _ _ _ _ _ (by simpa [hl] using h1'), toI_len, hl, toI_get, toI_get, toI_get, hm, lst_get, hl, if_neg (show ¬ n = 0 by omega)]
    have hsub : ((p.sub ((hornN p n mod a b).getD (n - 1) 0) : Nat) : Int) = p - ((hornN p n mod a b).getD (n - 1) 0 : Nat) := by
      have := hd (n - 1) (by omega)
      show ((p - _ : Nat) : Int) = _
      omega
    rw [Int.natCast_emod, Int.natCast_add, Int.natCast_add, Int.natCast_mul, Int.natCast_mul, hsub]
    congr 3
    split <;> rfl
theorem digN_ok (p : Nat) : ∀ (n x : Nat), toI (digN p n x) = digs p n x
  | 0, _ => rfl
  | n + 1, x => by
    rw [digN, frc_eq, frc_eq, digs, ← Int.natCast_ediv, ← digN_ok p n]
    simp [toI]
theorem eqN_ok : ∀ (l m : List Nat), eqN l m = true ↔ l = m
  | [], [] => by simp [eqN]
  | x :: l, y :: m => by rw [eqN, Bool.and_eq_true, eqN_ok l m]; simp
  | [], _ :: _ => by simp [eqN]
  | _ :: _, [] => by simp [eqN]
theorem digs_one {p : Int} (hp : 2 ≤ p) {n : Nat} (hn : 1 ≤ n) : digs p n 1 = toI (1 :: List.replicate (n - 1) 0) := by
  obtain ⟨n, rfl⟩ : ∃ k, n = k + 1 := ⟨n - 1, by omega⟩
  have h1 : (1:Int) % p = 1 := Int.emod_eq_of_lt (by omega) (by omega)
  have h2 : (1:Int) / p = 0 := Int.ediv_eq_zero_of_lt (by omega) (by omega)
  have : ∀ n, digs p n 0 = List.replicate n 0 := by
    intro n; induction n with
    | zero => rfl
    | succ n ih => simp [digs, ih, List.replicate_succ]
  rw [digs, h1, h2, this]
  simp [toI]
section
variable {p : Int} {n : Nat} {mod : List Int} {x : Int}
theorem pwr_s (hp : 2 ≤ p) (hn : 1 ≤ n) (hx : El p n x) (i : Nat) : pwr p n mod x (i + 1) = mulM p n mod (pwr p n mod x i) x := by
  cases i with
  | zero => simp only [pwr]; rw [mulM_comm (by omega), mulM_one hp hn hx]
  | succ i => rfl
theorem pwr_El (hp : 2 ≤ p) (hn : 1 ≤ n) (hx : El p n x) (i : Nat) : El p n (pwr p n mod x i) := by
  match i with
  | 0 => exact El_one hp hn
  | 1 => exact hx
  | i + 2 => exact mulM_El (by omega)
theorem pwr_add (hp : 2 ≤ p) (hn : 1 ≤ n) (hx : El p n x) (i j : Nat) : mulM p n mod (pwr p n mod x i) (pwr p n mod x j) = pwr p n mod x (i + j) := by
  induction j with
  | zero => exact mulM_one hp hn (pwr_El hp hn hx i)
  | succ j ih => rw [pwr_s hp hn hx j, ← mulM_assoc (by omega), ih, ← pwr_s hp hn hx]; rfl
end
theorem powN_ok {p n : Nat} (hp : 2 ≤ p) (hn : 1 ≤ n) {mod a : List Nat} {modI : List Int} {x : Int} (hm : ∀ j, modI.getD j 0 = (mod.getD j 0 : Nat)) (hx : El p n x) (ha : toI a = digs p n x) :
    ∀ (f e : Nat), e < 2 ^ f → toI (powN p n mod a f e) = digs p n (pwr p n modI x e)
  | 0, e, h => by
    obtain rfl : e = 0 := by omega
    rw [powN, ← digs_one (p := p) (by omega) hn]; rfl
  | f + 1, e, h => by
    have ih := powN_ok hp hn hm hx ha f (e / 2) (by rw [Nat.pow_succ] at h; omega)
    have sq : toI (hornN p n mod (powN p n mod a f (e / 2)) (powN p n mod a f (e / 2))) = digs p n (pwr p n modI x (e / 2 + e / 2)) := by
      rw [hornN_ok (by omega) hm, ih, ← pwr_add (by omega) hn hx, mulM, ]
      have := digs_val (p := p) (by omega) _ (horn_Digs (p := p) (by omega) modI (digs p n (pwr p n modI x (e / 2))) (List.replicate n 0) (digs p n (pwr p n modI x (e / 2))) (rep_Digs (by omega) n))
      rw [horn_len, List.length_replicate] at this
      exact this.symm
    rw [powN, frcL_eq, frcL_eq]
    split
    · rename_i h1
      rw [hornN_ok (by omega) hm, sq, ha, show e = (e / 2 + e / 2) + 1 by omega]
      rw [show (e / 2 + e / 2 + 1) / 2 = e / 2 by omega, pwr_s (by omega) hn hx, mulM]
      have := digs_val (p := p) (by omega) _ (horn_Digs (p := p) (by omega) modI (digs p n (pwr p n modI x (e / 2 + e / 2))) (List.replicate n 0) (digs p n x) (rep_Digs (by omega) n))
      rw [horn_len, List.length_replicate] at this
      exact this.symm
    · rw [sq, show e / 2 + e / 2 = e by omega]
def ordB (N : Nat) (E : List Nat) : Bool := E.all (· < 512) && (List.range N).all fun k => k == 0 || N % k != 0 || E.any fun e => e % k == 0
theorem least {P : Nat → Prop} : ∀ (k : Nat), P k → ∃ m, P m ∧ ∀ j, j < m → ¬ P j := by
  intro k
  induction k using Nat.strongRecOn with
  | _ k ih =>
    intro h
    by_cases hh : ∃ j, j < k ∧ P j
    · obtain ⟨j, h1, h2⟩ := hh
      exact ih j h1 h2
    · exact ⟨k, h, fun j hj hp => hh ⟨j, hj, hp⟩⟩
theorem gen_of {p : Int} {n q : Nat} {mod : List Int} {x : Int} (hp : 2 ≤ p) (hn : 1 ≤ n) (hq : (q : Int) = p ^ n) (hx : El p n x) {E : List Nat} (hE : ordB (q - 1) E = true)
    (h1 : pwr p n mod x (q - 1) = 1) (h2 : ∀ e, e ∈ E → pwr p n mod x e ≠ 1) : GenOf p n mod q x := by
  have q2 : 2 ≤ q := by
    have := (El_one hp hn).2
    omega
  have hadd := pwr_add (mod := mod) hp hn hx
  have hmul : ∀ k t, pwr p n mod x k = 1 → pwr p n mod x (k * t) = 1 := by
    intro k t hk
    induction t with
    | zero => rfl
    | succ t ih => rw [Nat.mul_succ, ← hadd, ih, hk]; exact mulM_one hp hn (El_one hp hn)
  have hmod : ∀ k m, pwr p n mod x k = 1 → pwr p n mod x m = 1 → pwr p n mod x (m % k) = 1 := by
    intro k m hk hm
    have := hadd (m % k) (k * (m / k))
    rw [hmul k _ hk, Nat.mod_add_div, hm, mulM_one hp hn (pwr_El hp hn hx _)] at this
    exact this
  have key : ∀ k, 0 < k → k < q - 1 → pwr p n mod x k ≠ 1 := by
    intro k k0 kq hk
    obtain ⟨m, ⟨m0, mq, hm⟩, hmin⟩ := least (P := fun k => 0 < k ∧ k < q - 1 ∧ pwr p n mod x k = 1) k ⟨k0, kq, hk⟩
    have hdiv : (q - 1) % m = 0 := by
      refine Decidable.byContradiction fun hne => ?_
      exact hmin ((q - 1) % m) (Nat.mod_lt _ m0) ⟨by omega, by have := Nat.mod_lt (q - 1) m0; omega, hmod m _ hm h1⟩
    rw [ordB, Bool.and_eq_true, List.all_eq_true (l := List.range (q - 1))] at hE
    have := hE.2 m (List.mem_range.2 mq)
    have hm0 : m ≠ 0 := by omega
    simp [hm0, hdiv] at this
    obtain ⟨e, he, hem⟩ := this
    apply h2 e he
    have := hmul m (e / m) hm
    rwa [Nat.mul_div_cancel' (Nat.dvd_of_mod_eq_zero hem)] at this
  have hne0 : ∀ i, i < q - 1 → pwr p n mod x i ≠ 0 := by
    intro i hi h0
    have := hadd i (q - 1 - i)
    rw [h0, mulM_zero (by omega), show i + (q - 1 - i) = q - 1 by omega, h1] at this
    omega
  have hs := pwr_s (mod := mod) hp hn hx
  refine ⟨?_, ?_, ⟨by omega, fun i h3 h4 => hne0 i h4, ?_⟩, ?_⟩
  · refine Decidable.byContradiction fun h0 => ?_
    have hx0 : x = 0 := by have := hx.1; omega
    have := hs (q - 2)
    rw [show q - 2 + 1 = q - 1 by omega, h1, hx0, mulM_comm (by omega), mulM_zero (by omega)] at this
    omega
  · have := hx.2; omega
  · intro i j hij hj he
    have a := hadd i (q - 1 - i)
    have b := hadd j (q - 1 - i)
    rw [he, b, show i + (q - 1 - i) = q - 1 by omega, h1, show j + (q - 1 - i) = (j - i) + (q - 1) by omega, ← hadd, h1, mulM_one hp hn (pwr_El hp hn hx _)] at a
    exact key (j - i) (by omega) (by omega) a
  · rw [← hs, show q - 2 + 1 = q - 1 by omega, h1]
theorem rsN_len (p c : Nat) : ∀ (low rs : List Nat), (rsN p c low rs).length = rs.length
  | _, [] => rfl
  | low, r :: rs => by rw [rsN, frc_eq]; simp [rsN_len p c low.tail rs]
theorem rsN_get (p c : Nat) : ∀ (low rs : List Nat) (j : Nat), j < rs.length → (rsN p c low rs).getD j 0 = (rs.getD j 0 + c * low.getD j 0) % p
  | _, [], j, h => by simp at h
  | low, r :: rs, j, h => by
    rw [rsN, frc_eq]
    cases j with
    | zero => simp only [List.getD_cons_zero, headD_get]; rfl
    | succ j => rw [List.getD_cons_succ, rsN_get p c _ rs j (by simpa using h), getD_tail, List.getD_cons_succ]
structure RemI (p : Nat) (k : Nat) (R : List Nat) (r : List Int) : Prop where
  len : R.length = k
  le : k ≤ r.length
  lo : ∀ t, t < k → r.getD t 0 = (R.getD (k - 1 - t) 0 : Nat)
  hi : ∀ t, k ≤ t → r.getD t 0 = 0
  lt : ∀ t, t < k → R.getD t 0 < p
theorem getD_rev (l : List Nat) (j : Nat) (h : j < l.length) : l.reverse.getD j 0 = l.getD (l.length - 1 - j) 0 := by
  rw [List.getD_eq_getElem?_getD, List.getElem?_reverse h, List.getD_eq_getElem?_getD]
theorem remN_ok {p : Nat} (hp : 1 ≤ p) {low : List Nat} (hl : ∀ j, j < low.length → low.getD j 0 < p) : ∀ (k : Nat) (R : List Nat) (r : List Int), RemI p (low.length + k) R r → RemI p low.length (remN p low.reverse k R) (remL p (toI low) r k)
  | 0, R, r, h => by simpa [remN, remL] using h
  | k + 1, [], r, h => by have := h.len; simp at this
  | k + 1, c :: R, r, h => by
    rw [remN, frcL_eq, remL]
    have hlen := h.len
    simp at hlen
    have hc : r.getD (low.length + k) 0 = c := by
      have := h.lo (low.length + k) (by omega)
      rw [show low.length + (k + 1) - 1 - (low.length + k) = 0 by omega] at this
      simpa using this
    have hcp : c < p := by have := h.lt 0 (by omega); simpa using this
    have hle := h.le
    refine remN_ok hp hl k _ _ ⟨by rw [rsN_len]; omega, by rw [rstep_len]; omega, fun t ht => ?_, fun t ht => ?_, fun t ht => ?_⟩
    · have e := rstep_lv p (toI low) r (low.length + k) t (by omega)
      simp only [lv, toI_len] at e
      rw [toI_len, e, if_neg (by omega), rsN_get _ _ _ _ _ (by omega), hc]
      have hlo := h.lo t (by omega)
      rw [show low.length + (k + 1) - 1 - t = (low.length + k - 1 - t) + 1 by omega, List.getD_cons_succ] at hlo
      rw [hlo]
      have hRt := h.lt (low.length + k - 1 - t + 1) (by omega)
      rw [List.getD_cons_succ] at hRt
      have hsub : ((p.sub c : Nat) : Int) = p - c := by
        show ((p - c : Nat) : Int) = _
        omega
      by_cases hk : k ≤ t
      · rw [if_pos (by omega), Int.natCast_emod, Int.natCast_add, Int.natCast_mul, hsub, getD_rev _ _ (by omega), toI_get]
        rw [show t - (low.length + k - low.length) = low.length - 1 - (low.length + k - 1 - t) by omega]
      · rw [if_neg (by omega), show low.reverse.getD (low.length + k - 1 - t) 0 = 0 by simp; rw [List.getElem?_eq_none (by simp; omega)]; rfl, Nat.mul_zero, Nat.add_zero, Nat.mod_eq_of_lt hRt]
    · have e := rstep_lv p (toI low) r (low.length + k) t (by omega)
      simp only [lv, toI_len] at e
      rw [toI_len, e]
      by_cases e2 : t = low.length + k
      · rw [if_pos e2]
      · rw [if_neg e2, if_neg (by omega)]
        exact h.hi t (by omega)
    · rw [rsN_get _ _ _ _ _ (by omega)]
      exact Nat.mod_lt _ (by omega)
theorem divN_ok {p : Nat} (hp : 2 ≤ p) {mod low : List Nat} (hm : ∀ j, j < mod.length → mod.getD j 0 < p) (hl : ∀ j, j < low.length → low.getD j 0 < p) (hd : low.length ≤ mod.length) (h : divN p mod low = true) : divB p (toI mod) (toI low) = true := by
  have h0 := remN_ok (by omega) hl (mod.length + 1 - low.length) (1 :: mod.reverse) (toI mod ++ [1]) ⟨by simp; omega, by simp; omega, fun t ht => ?_, fun t ht => ?_, fun t ht => ?_⟩
  · rw [divN, eqN_ok] at h
    rw [divB, List.all_eq_true]
    rw [h] at h0
    intro x hx
    obtain ⟨i, hi, rfl⟩ := List.getElem_of_mem hx
    have : (remL p (toI low) (toI mod ++ [1]) ((toI mod).length + 1 - (toI low).length))[i] = (remL p (toI low) (toI mod ++ [1]) ((toI mod).length + 1 - (toI low).length)).getD i 0 := by
      rw [List.getD_eq_getElem?_getD, List.getElem?_eq_getElem hi]; rfl
    rw [this, toI_len, toI_len]
    by_cases hh : i < low.length
    · rw [h0.lo i hh]
      simp [List.getElem?_replicate]
      split <;> rfl
    · rw [h0.hi i (by omega)]; rfl
  · by_cases e : t = mod.length
    · subst e
      rw [show low.length + (mod.length + 1 - low.length) - 1 - mod.length = 0 by omega]
      simp [List.getD_eq_getElem?_getD]
    · rw [show low.length + (mod.length + 1 - low.length) - 1 - t = (mod.length - 1 - t) + 1 by omega, List.getD_cons_succ, getD_rev _ _ (by omega), List.getD_eq_getElem?_getD, List.getElem?_append_left (by simp; omega), ← List.getD_eq_getElem?_getD, toI_get]
      rw [show mod.length - 1 - (mod.length - 1 - t) = t by omega]
  · rw [List.getD_eq_getElem?_getD, List.getElem?_eq_none (by simp; omega)]; rfl
  · cases t with
    | zero => simp; omega
    | succ t =>
      rw [List.getD_cons_succ, getD_rev _ _ (by omega)]
      exact hm _ (by omega)
theorem chkA_get {p n : Nat} {E : List Nat} {N : Nat} : ∀ (l : List (Nat × Nat)) (v i : Nat), chkA p n E N v l = true → i < l.length → ∃ w, chk1 p n E N (v + i) w = true
  | [], v, i, _, h => by simp at h
  | w :: l, v, i, h, hi => by
    rw [chkA, Bool.and_eq_true] at h
    cases i with
    | zero => exact ⟨w, h.1⟩
    | succ i =>
      have := chkA_get l (v + 1) i h.2 (by simpa using hi)
      rwa [show v + 1 + i = v + (i + 1) by omega] at this
theorem chkT_get : ∀ (t : List (Nat × Nat × List Nat × List (Nat × Nat))) (e : Nat × Nat × List Nat × List (Nat × Nat)), chkT t = true → e ∈ t → chkA e.1 e.2.1 e.2.2.1 (e.1 ^ e.2.1 - 1) 0 e.2.2.2 = true
  | [], e, _, h => by simp at h
  | (p, n, E, l) :: t, e, h, he => by
    rw [chkT, Bool.and_eq_true] at h
    rcases List.mem_cons.1 he with rfl | he
    · exact h.1
    · exact chkT_get t e h.2 he
def prN (p : Nat) : Bool := (2 ≤ p) && (List.range 17).all fun d => d < 2 || p < d * d || p % d != 0
def tabC (p n : Nat) : Bool := tabL.any fun e => e.1 == p && e.2.1 == n && e.2.2.2.length == (if n = 1 then 1 else p ^ n) && ordB (p ^ n - 1) e.2.2.1
def tabAll : Bool := (List.range 257).all fun p => !(prN p) || (List.range 9).all fun n => n == 0 || 256 < p ^ n || tabC p n
theorem tabAll_ok : tabAll = true := by decide +kernel
theorem tab_get {p n : Nat} (hp : p ≤ 256) (hpr : prN p = true) (h1 : 1 ≤ n) (h2 : n ≤ 8) (hq : p ^ n ≤ 256) (v : Nat) (hv : v < if n = 1 then 1 else p ^ n) : ∃ E w, ordB (p ^ n - 1) E = true ∧ chk1 p n E (p ^ n - 1) v w = true := by
  have h := tabAll_ok
  rw [tabAll, List.all_eq_true] at h
  have h := h p (List.mem_range.2 (by omega))
  rw [hpr] at h
  simp only [Bool.not_true, Bool.false_or] at h
  rw [List.all_eq_true] at h
  have h := h n (List.mem_range.2 (by omega))
  have e1 : (n == 0) = false := by simp; omega
  have e2 : decide (256 < p ^ n) = false := by simp; omega
  rw [e1, e2] at h
  simp only [Bool.false_or] at h
  rw [tabC, List.any_eq_true] at h
  obtain ⟨e, he, h⟩ := h
  simp only [Bool.and_eq_true, beq_iff_eq] at h
  obtain ⟨⟨⟨rfl, rfl⟩, h3⟩, h4⟩ := h
  have h5 := chkT_get _ e chkT_ok he
  obtain ⟨w, hw⟩ := chkA_get _ 0 v h5 (by omega)
  rw [Nat.zero_add] at hw
  exact ⟨_, w, h4, hw⟩
def Irr (p : Int) (mod : List Int) : Prop := ∀ d : Nat, 1 ≤ d → 2 * d ≤ mod.length → ∀ v : Int, 0 ≤ v → v < p ^ d → divB p mod (digs p d v) = false
theorem prN_of {p : Nat} (h : isPr p) (hp : p ≤ 256) : prN p = true := by
  have := h.1
  simp only [prN, Bool.and_eq_true, decide_eq_true_eq, List.all_eq_true, Bool.or_eq_true, bne_iff_ne]
  refine ⟨by omega, fun d hd => ?_⟩
  by_cases h1 : d < 2
  · exact .inl (.inl h1)
  by_cases h2 : p < d * d
  · exact .inl (.inr h2)
  refine .inr fun h3 => h.2 d (by omega) (by exact_mod_cast (by omega : d * d ≤ p)) (by exact_mod_cast h3)
theorem gen_of_irr {p : Int} {n : Nat} {mod : List Int} (hpr : isPr p) (hn : 1 ≤ n ∧ n ≤ 8) (hq : p ^ n ≤ 256) (hm : (n = 1 ∧ mod = []) ∨ (n ≠ 1 ∧ mod.length = n)) (hdig : Digs p mod) (hirr : n ≠ 1 → Irr p mod) : ∃ x, GenOf p n mod (p ^ n).toNat x := by
  have hp2 := hpr.1
  obtain ⟨P, rfl⟩ : ∃ P : Nat, p = P := ⟨p.toNat, by omega⟩
  have hPn : (P : Int) ^ n = ((P ^ n : Nat) : Int) := by simp
  have hle : P ≤ P ^ n := by
    have := Nat.pow_le_pow_right (n := P) (by omega) hn.1
    simpa using this
  have hPq : P ^ n ≤ 256 := by omega
  have hval := val_bd (p := P) (by omega) mod hdig
  have hv : val P mod < if n = 1 then 1 else (P : Int) ^ n := by
    rcases hm with ⟨h1, h2⟩ | ⟨h1, h2⟩
    · simp [h1, h2, val]
    · rw [if_neg h1, ← h2]; exact hval.2
  obtain ⟨E, w, hE, hw⟩ := tab_get (p := P) (n := n) (by omega) (prN_of hpr (by omega)) hn.1 hn.2 hPq (val P mod).toNat (by
    split
    · rename_i h; rw [if_pos h] at hv; omega
    · rename_i h; rw [if_neg h] at hv; omega)
  rw [chk1, frcL_eq] at hw
  have hmod : toI (digN P n (val P mod).toNat) = digs P n (val P mod) := by rw [digN_ok, Int.toNat_of_nonneg hval.1]
  have hmg : ∀ j, mod.getD j 0 = ((digN P n (val P mod).toNat).getD j 0 : Nat) := by
    intro j
    rw [← toI_get, hmod]
    rcases hm with ⟨h1, h2⟩ | ⟨h1, h2⟩
    · subst h2; subst h1
      have := congrFun (dv_zero P 1) j
      simpa [dv, lv, val] using this.symm
    · have := digs_val (p := P) (by omega) mod hdig
      rw [h2] at this
      rw [this]
  have hqe : ((P : Int) ^ n).toNat = P ^ n := by rw [hPn]; omega
  rw [hqe]
  have hlen1 : ∀ k x, (digN P k x).length = k := by
    intro k x
    have := congrArg List.length (digN_ok P k x)
    simpa using this
  split at hw
  · rw [genB, frcL_eq, Bool.and_eq_true, eqN_ok, List.all_eq_true] at hw
    -- w.2 as an element
    have hxE : El P n (val P (toI (digN P n w.2))) := by
      rw [digN_ok]
      have := val_bd (p := P) (by omega) _ (digs_Digs (p := P) (by omega) n w.2)
      rwa [digs_len] at this
    have hda : toI (digN P n w.2) = digs P n (val P (toI (digN P n w.2))) := by
      have := digs_val (p := P) (by omega) _ (digs_Digs (p := P) (by omega) n w.2)
      rw [digs_len] at this
      rw [digN_ok, this]
    have hN : P ^ n - 1 < 2 ^ 9 := by omega
    have ok := powN_ok (p := P) (n := n) (by omega) hn.1 hmg hxE hda 9
    have hone : ∀ y, El P n y → digs P n y = toI (1 :: List.replicate (n - 1) 0) → y = 1 := by
      intro y hy h
      rw [← digs_one (p := P) (by omega) hn.1] at h
      have a := val_digs (p := P) (by omega) n y hy.1 hy.2
      have b := val_digs (p := P) (by omega) n 1 (by omega) (El_one (by omega) hn.1).2
      rw [h, b] at a
      exact a.symm
    have hE5 := hE
    rw [ordB, Bool.and_eq_true, List.all_eq_true] at hE5
    refine ⟨_, gen_of (E := E) (by omega) hn.1 (by rw [hPn]) hxE hE ?_ ?_⟩
    · refine hone _ (pwr_El (by omega) hn.1 hxE _) ?_
      rw [← ok _ hN, hw.1]
    · intro e he h1
      have h2 := hw.2 e he
      have h3 := ok e (by have := hE5.1 e he; simpa using this)
      rw [h1, digs_one (p := P) (by omega) hn.1] at h3
      have h4 := (eqN_ok _ _).2 (toI_inj h3)
      rw [h4] at h2
      simp at h2
  · rename_i hw0
    rw [Bool.and_eq_true] at hw
    have hd : 2 * w.1 ≤ n := Nat.le_of_ble_eq_true hw.1
    have hn1 : n ≠ 1 := by omega
    have hml : mod.length = n := by rcases hm with h | h; exact (hn1 h.1).elim; exact h.2
    have e1 : digs P n (val P mod) = mod := by have := digs_val (p := P) (by omega) mod hdig; rwa [hml] at this
    have hlt : ∀ k x j, j < (digN P k x).length → (digN P k x).getD j 0 < P := by
      intro k x j hj
      refine toI_Digs.1 (?_ : Digs P (toI (digN P k x))) j hj
      rw [digN_ok]
      exact digs_Digs (by omega) _ _
    have h1 := divN_ok (p := P) (by omega) (hlt n _) (hlt w.1 _) (by rw [hlen1, hlen1]; omega) hw.2
    rw [hmod, e1, digN_ok] at h1
    have hb := val_bd (p := P) (by omega) _ (digs_Digs (p := P) (by omega) w.1 w.2)
    have e2 := digs_val (p := P) (by omega) _ (digs_Digs (p := P) (by omega) w.1 w.2)
    rw [digs_len] at hb e2
    have := hirr hn1 w.1 (by omega) (by omega) _ hb.1 hb.2
    rw [e2, h1] at this
    cases this
theorem irr_of_gen {p : Int} {n : Nat} {mod : List Int} {q : Nat} {x : Int} (hp : 2 ≤ p) (hn : 1 ≤ n) (hq : (q : Int) = p ^ n) (hm : mod.length = n) (hdig : Digs p mod) (h : GenOf p n mod q x) : Irr p mod := by
  intro d hd hd2 v hv hv2
  cases hb : divB p mod (digs p d v) with
  | false => rfl
  | true =>
    obtain ⟨a, b, ha, hb, a0, b0, h0⟩ := divB_zero hp hdig (digs_Digs (by omega) d v) (by rw [digs_len]; omega) (by rw [digs_len]; omega) hb
    rw [hm] at ha hb h0
    exact ((h.pws hp hn hq).mul_ne0 ha hb a0 b0 h0).elim
end Go.Proofs.YtefjnnghfloddaaGreat.Abs

/- Two ways to find whether columns are independent agree. -/
namespace Go.Proofs.YtefjnnghfloddaaGreat.Abs
set_option linter.unusedVariables false
set_option linter.unusedSimpArgs false
set_option linter.unusedSectionVars false
structure Ff where
  p : Int
  n : Nat
  mod : List Int
namespace Ff
def E (F : Ff) (x : Int) : Prop := El F.p F.n x
def add (F : Ff) (x y : Int) : Int := addM F.p F.n x y
def neg (F : Ff) (x : Int) : Int := negM F.p F.n x
def mul (F : Ff) (x y : Int) : Int := mulM F.p F.n F.mod x y
noncomputable def inv (F : Ff) (x : Int) : Int := invM F.p F.n F.mod x
def sub (F : Ff) (x y : Int) : Int := F.add x (F.neg y)
structure Ok (F : Ff) : Prop where
  hp : 2 ≤ F.p
  hn : 1 ≤ F.n
  hi : ∀ x, F.E x → x ≠ 0 → F.mul x (F.inv x) = 1
section
variable {F : Ff} (h : F.Ok) {x y z a b c d r s : Int}
include h
theorem Ok.p1 : 1 ≤ F.p := by have := h.hp; omega
theorem Ok.addE : F.E (F.add x y) := addM_El h.p1
theorem Ok.negE : F.E (F.neg x) := negM_El h.p1
theorem Ok.mulE : F.E (F.mul x y) := mulM_El h.p1
theorem Ok.invE : F.E (F.inv x) := invM_El h.hp
theorem Ok.subE : F.E (F.sub x y) := addM_El h.p1
theorem Ok.zeroE : F.E 0 := zero_El h.p1
theorem Ok.oneE : F.E 1 := El_one h.hp h.hn
theorem Ok.addA : F.add (F.add x y) z = F.add x (F.add y z) := addM_assoc h.p1
theorem Ok.mulA : F.mul (F.mul x y) z = F.mul x (F.mul y z) := mulM_assoc h.p1
theorem Ok.mulC : F.mul x y = F.mul y x := mulM_comm h.p1
theorem Ok.add0 (hx : F.E x) : F.add x 0 = x := addM_zero h.p1 hx
theorem Ok.mul1 (hx : F.E x) : F.mul x 1 = x := mulM_one h.hp h.hn hx
theorem Ok.mul0 : F.mul 0 x = 0 := mulM_zero h.p1
theorem Ok.mul0r : F.mul x 0 = 0 := by rw [h.mulC, h.mul0]
theorem Ok.addN : F.add x (F.neg x) = 0 := addM_neg h.p1
theorem Ok.add_mul : F.mul (F.add x y) z = F.add (F.mul x z) (F.mul y z) := mulM_add h.p1
theorem Ok.mul_add : F.mul z (F.add x y) = F.add (F.mul z x) (F.mul z y) := by rw [h.mulC, h.add_mul, h.mulC, h.mulC (x := y)]
theorem Ok.neg_mul : F.mul (F.neg x) y = F.neg (F.mul x y) := by
  have hp := h.p1
  refine res_ext hp (mulM_El hp) (negM_El hp) ((mulM_Cg hp _ _ _ _).trans (((negM_Cg hp _ x).mulZ (.refl _)).trans ?_))
  rw [mulZ_lin_l, show mulZ F.n (lv F.mod) (fun _ => 0) (dv F.p F.n y) = fun _ => 0 from apn_zero _ _]
  exact ((Cg.refl _).lin (mulM_Cg hp F.n F.mod x y) (-1)).symm.trans (negM_Cg hp _ _).symm
theorem Ok.mul_neg : F.mul x (F.neg y) = F.neg (F.mul x y) := by rw [h.mulC, h.neg_mul, h.mulC]
theorem Ok.neg_add : F.neg (F.add x y) = F.add (F.neg x) (F.neg y) := by
  have hp := h.p1
  refine res_ext hp (negM_El hp) (addM_El hp) ((negM_Cg hp _ _).trans (((Cg.refl _).lin (addM_Cg hp _ x y) (-1)).trans ?_))
  refine Cg.trans ?_ (addM_Cg hp _ _ _).symm
  refine Cg.trans ?_ ((negM_Cg hp _ x).lin (negM_Cg hp _ y) 1).symm
  refine .of_eq ?_
  funext j; simp only [lin]; omega
theorem Ok.neg_neg (hx : F.E x) : F.neg (F.neg x) = x := by
  have hp := h.p1
  refine res_ext hp (negM_El hp) hx ((negM_Cg hp _ _).trans (((Cg.refl _).lin (negM_Cg hp _ x) (-1)).trans (.of_eq ?_)))
  funext j; simp only [lin]; omega
theorem Ok.sub_self : F.sub x x = 0 := h.addN
theorem Ok.neg0 : F.neg 0 = 0 := by
  have := h.addN (x := 0)
  rwa [show F.add 0 (F.neg 0) = F.add (F.neg 0) 0 from addM_comm, h.add0 h.negE] at this
theorem Ok.sub0 (hx : F.E x) : F.sub x 0 = x := by rw [sub, h.neg0, h.add0 hx]
theorem Ok.sub_eq0 (hx : F.E x) (hy : F.E y) : F.sub x y = 0 ↔ x = y := by
  constructor
  · intro e
    have h1 : F.add (F.sub x y) y = x := by
      rw [sub, h.addA, show F.add (F.neg y) y = F.add y (F.neg y) from addM_comm, h.addN, h.add0 hx]
    rw [e, show F.add 0 y = F.add y 0 from addM_comm, h.add0 hy] at h1
    exact h1.symm
  · rintro rfl; exact h.sub_self
theorem Ok.mul_sub : F.mul z (F.sub x y) = F.sub (F.mul z x) (F.mul z y) := by rw [sub, h.mul_add, h.mul_neg]; rfl
theorem Ok.aA : Std.Associative F.add := ⟨fun _ _ _ => h.addA⟩
theorem Ok.aC : Std.Commutative F.add := ⟨fun _ _ => addM_comm⟩
theorem Ok.mA : Std.Associative F.mul := ⟨fun _ _ _ => h.mulA⟩
theorem Ok.mC : Std.Commutative F.mul := ⟨fun _ _ => h.mulC⟩
theorem Ok.lin1 : F.sub (F.sub a (F.mul s b)) (F.mul (F.sub c (F.mul s d)) r) = F.sub (F.sub a (F.mul c r)) (F.mul s (F.sub b (F.mul d r))) := by
  have := h.aA; have := h.aC; have := h.mA; have := h.mC
  simp only [sub, h.add_mul, h.mul_add, h.neg_mul, h.mul_neg, h.neg_add, h.neg_neg h.mulE]
  ac_rfl
end
def EV (F : Ff) (v : Nat → Int) : Prop := ∀ j, F.E (v j)
def sm (F : Ff) (v : Nat → Int) (s : Int) (w : Nat → Int) : Nat → Int := fun j => F.sub (v j) (F.mul s (w j))
structure Lin (F : Ff) (f : (Nat → Int) → Nat → Int) : Prop where
  ev : ∀ v, F.EV v → F.EV (f v)
  lin : ∀ v s w, F.EV v → F.EV w → F.E s → f (F.sm v s w) = F.sm (f v) s (f w)
section
variable {F : Ff} (h : F.Ok)
include h
theorem Ok.smE (v w : Nat → Int) (s : Int) : F.EV (F.sm v s w) := fun _ => h.subE
def red1 (F : Ff) (row : Nat → Int) (k : Nat) (v : Nat → Int) : Nat → Int := F.sm v (v k) row
theorem Ok.red1_lin (row : Nat → Int) (k : Nat) : F.Lin (F.red1 row k) := by
  refine ⟨fun v _ => h.smE _ _ _, fun v s w hv hw hs => ?_⟩
  funext j
  simp only [red1, sm]
  exact h.lin1
theorem Ok.comp {f g : (Nat → Int) → Nat → Int} (hf : F.Lin f) (hg : F.Lin g) : F.Lin (fun v => g (f v)) :=
  ⟨fun v hv => hg.ev _ (hf.ev v hv), fun v s w hv hw hs => by rw [hf.lin v s w hv hw hs, hg.lin _ _ _ (hf.ev v hv) (hf.ev w hw) hs]⟩
def swp (i k : Nat) (v : Nat → Int) : Nat → Int := fun j => if j = i then v k else if j = k then v i else v j
noncomputable def st (F : Ff) (i k : Nat) (u v : Nat → Int) : Nat → Int := fun j =>
  if j = i then F.mul (F.inv (u k)) (v k) else F.sub (swp i k v j) (F.mul (swp i k u j) (F.mul (F.inv (u k)) (v k)))
theorem Ok.st_lin (i k : Nat) (u : Nat → Int) : F.Lin (F.st i k u) := by
  refine ⟨fun v hv j => ?_, fun v s w hv hw hs => ?_⟩
  · simp only [st]
    split
    · exact h.mulE
    · exact h.subE
  · funext j
    have e1 : F.mul (F.inv (u k)) (F.sub (v k) (F.mul s (w k))) = F.sub (F.mul (F.inv (u k)) (v k)) (F.mul s (F.mul (F.inv (u k)) (w k))) := by
      rw [h.mul_sub, ← h.mulA, ← h.mulA, h.mulC (x := s)]
    simp only [st, sm]
    split
    · exact e1
    · have e2 : swp i k (F.sm v s w) j = F.sub (swp i k v j) (F.mul s (swp i k w j)) := by
        simp only [swp, sm]; split
        · rfl
        · split <;> rfl
      rw [e1, e2, h.mulC (x := swp i k u j), h.mulC (x := swp i k u j), h.mulC (x := swp i k u j)]
      exact h.lin1
theorem Ok.st_zero {K i k : Nat} {u v : Nat → Int} (hu : F.EV u) (hv : F.EV v) (hik : i ≤ k) (hk : k < K) (h0 : u k ≠ 0) :
    (∀ j, i + 1 ≤ j → j < K → F.st i k u v j = 0) ↔ ∃ s, F.E s ∧ ∀ j, i ≤ j → j < K → v j = F.mul s (u j) := by
  have hinv := h.hi _ (hu k) h0
  constructor
  · intro hz
    refine ⟨F.mul (F.inv (u k)) (v k), h.mulE, fun j h1 h2 => ?_⟩
    have hvk : v k = F.mul (F.mul (F.inv (u k)) (v k)) (u k) := by
      rw [h.mulC, ← h.mulA, hinv, h.mulC, h.mul1 (hv k)]
    by_cases e : j = k
    · subst e; exact hvk
    · -- where j stands behind the exchange
      have key : ∀ t, i + 1 ≤ t → t < K → swp i k v t = F.mul (swp i k u t) (F.mul (F.inv (u k)) (v k)) := by
        intro t h3 h4
        have := hz t h3 h4
        simp only [st] at this
        rw [if_neg (by omega)] at this
        refine (h.sub_eq0 ?_ h.mulE).1 this
        simp only [swp]
        split
        · exact hv _
        · split
          · exact hv _
          · exact hv _
      by_cases e2 : j = i
      · subst e2
        have := key k (by omega) hk
        have hkj : k ≠ j := by omega
        simp only [swp, hkj, if_true, if_false] at this
        rw [this, h.mulC]
      · have := key j (by omega) h2
        simp only [swp] at this
        rw [if_neg e2, if_neg e, if_neg e2, if_neg e] at this
        rw [this, h.mulC]
  · rintro ⟨s, hs, hall⟩ j h1 h2
    have e1 : F.mul (F.inv (u k)) (v k) = s := by
      rw [hall k hik hk, ← h.mulA, h.mulC (x := F.inv (u k)), h.mulA, h.mulC (x := F.inv (u k)), hinv, h.mul1 hs]
    simp only [st]
    rw [if_neg (by omega), e1]
    refine (h.sub_eq0 ?_ h.mulE).2 ?_
    · simp only [swp]
      split
      · exact hv _
      · split
        · exact hv _
        · exact hv _
    · simp only [swp]
      rw [if_neg (show ¬ j = i by omega), if_neg (show ¬ j = i by omega)]
      split
      · rw [hall i (by omega) (by omega), h.mulC]
      · rw [hall j (by omega) h2, h.mulC]
theorem Ok.red_zero {K k : Nat} {w v : Nat → Int} (hw : F.EV w) (hv : F.EV v) (hk : k < K) (h0 : w k ≠ 0) :
    (∀ j, j < K → F.red1 (fun j => F.mul (F.inv (w k)) (w j)) k v j = 0) ↔ ∃ s, F.E s ∧ ∀ j, j < K → v j = F.mul s (w j) := by
  have hinv := h.hi _ (hw k) h0
  constructor
  · intro hz
    refine ⟨F.mul (v k) (F.inv (w k)), h.mulE, fun j hj => ?_⟩
    have := (h.sub_eq0 (hv j) h.mulE).1 (hz j hj)
    rw [this, h.mulA]
  · rintro ⟨s, hs, hall⟩ j hj
    refine (h.sub_eq0 (hv j) h.mulE).2 ?_
    rw [hall k hk, hall j hj, h.mulA, ← h.mulA (x := w k), hinv, h.mulC (x := 1), h.mul1 (hw j)]
end
def First (P : Nat → Prop) (i K k : Nat) : Prop := i ≤ k ∧ k < K ∧ P k ∧ ∀ j, i ≤ j → j < k → ¬ P j
theorem First.uniq {P : Nat → Prop} {i K k k' : Nat} (a : First P i K k) (b : First P i K k') : k = k' := by
  rcases Nat.lt_trichotomy k k' with h | h | h
  · exact (b.2.2.2 k a.1 h a.2.2.1).elim
  · exact h
  · exact (a.2.2.2 k' b.1 h b.2.2.1).elim
theorem First.ex {P : Nat → Prop} {i K k : Nat} (h1 : i ≤ k) (h2 : k < K) (h3 : P k) : ∃ k, First P i K k := by
  obtain ⟨m, ⟨a, b, c⟩, d⟩ := least (P := fun k => i ≤ k ∧ k < K ∧ P k) k ⟨h1, h2, h3⟩
  exact ⟨m, a, b, c, fun j h4 h5 hp => d j h5 ⟨h4, by omega, hp⟩⟩
inductive GrAll (F : Ff) (K : Nat) : ((Nat → Int) → Nat → Int) → List (Nat → Int) → Prop
  | nil (r) : GrAll F K r []
  | cons (r g gs k) : First (fun k => r g k ≠ 0) 0 K k → GrAll F K (fun v => F.red1 (fun j => F.mul (F.inv (r g k)) (r g j)) k (r v)) gs → GrAll F K r (g :: gs)
inductive ElAll (F : Ff) (K : Nat) : ((Nat → Int) → Nat → Int) → Nat → List (Nat → Int) → Prop
  | nil (f i) : ElAll F K f i []
  | cons (f i g gs k) : First (fun k => f g k ≠ 0) i K k → ElAll F K (fun v => F.st i k (f g) (f v)) (i + 1) gs → ElAll F K f i (g :: gs)
theorem both {F : Ff} (h : F.Ok) {K : Nat} : ∀ (gs : List (Nat → Int)) (r f : (Nat → Int) → Nat → Int) (i : Nat), F.Lin r → F.Lin f → (∀ g, g ∈ gs → F.EV g) →
    (∀ v, F.EV v → ((∀ j, j < K → r v j = 0) ↔ ∀ j, i ≤ j → j < K → f v j = 0)) → (GrAll F K r gs ↔ ElAll F K f i gs)
  | [], r, f, i, hr, hf, hg, hI => ⟨fun _ => .nil _ _, fun _ => .nil _⟩
  | g :: gs, r, f, i, hr, hf, hg, hI => by
    have hgE := hg g (by simp)
    have step : ∀ k k', First (fun k => r g k ≠ 0) 0 K k → First (fun k => f g k ≠ 0) i K k' →
        (GrAll F K (fun v => F.red1 (fun j => F.mul (F.inv (r g k)) (r g j)) k (r v)) gs ↔ ElAll F K (fun v => F.st i k' (f g) (f v)) (i + 1) gs) := by
      intro k k' h1 h2
      refine both h gs _ _ _ (h.comp hr (h.red1_lin _ _)) (h.comp hf (h.st_lin _ _ _)) (fun g hg' => hg g (by simp [hg'])) fun v hv => ?_
      rw [h.red_zero (hr.ev g hgE) (hr.ev v hv) h1.2.1 h1.2.2.1, h.st_zero (hf.ev g hgE) (hf.ev v hv) h2.1 h2.2.1 h2.2.2.1]
      refine ⟨fun ⟨s, hs, hall⟩ => ⟨s, hs, ?_⟩, fun ⟨s, hs, hall⟩ => ⟨s, hs, ?_⟩⟩
      · have := (hI (F.sm v s g) (h.smE _ _ _)).1 (fun j hj => by rw [hr.lin v s g hv hgE hs, sm, h.sub_eq0 (hr.ev v hv j) h.mulE]; exact hall j hj)
        intro j h3 h4
        have := this j h3 h4
        rwa [hf.lin v s g hv hgE hs, sm, h.sub_eq0 (hf.ev v hv j) h.mulE] at this
      · have := (hI (F.sm v s g) (h.smE _ _ _)).2 (fun j h3 hj => by rw [hf.lin v s g hv hgE hs, sm, h.sub_eq0 (hf.ev v hv j) h.mulE]; exact hall j h3 hj)
        intro j hj
        have := this j hj
        rwa [hr.lin v s g hv hgE hs, sm, h.sub_eq0 (hr.ev v hv j) h.mulE] at this
    constructor
    · intro hG
      cases hG with
      | cons _ _ _ k h1 h2 =>
        have : ∃ k', i ≤ k' ∧ k' < K ∧ f g k' ≠ 0 := by
          refine Classical.byContradiction fun hn => ?_
          exact h1.2.2.1 ((hI g hgE).2 (fun j h3 h4 => Classical.byContradiction fun h5 => hn ⟨j, h3, h4, h5⟩) k h1.2.1)
        obtain ⟨k', h3, h4, h5⟩ := this
        obtain ⟨k', hk'⟩ := First.ex (P := fun k => f g k ≠ 0) h3 h4 h5
        exact .cons _ _ _ _ k' hk' ((step k k' h1 hk').1 h2)
    · intro hG
      cases hG with
      | cons _ _ _ _ k' h1 h2 =>
        have : ∃ k, k < K ∧ r g k ≠ 0 := by
          refine Classical.byContradiction fun hn => ?_
          exact h1.2.2.1 ((hI g hgE).1 (fun j h4 => Classical.byContradiction fun h5 => hn ⟨j, h4, h5⟩) k' h1.1 h1.2.1)
        obtain ⟨k, h4, h5⟩ := this
        obtain ⟨k, hk⟩ := First.ex (P := fun k => r g k ≠ 0) (Nat.zero_le k) h4 h5
        exact .cons _ _ _ k hk ((step k k' hk h1).2 h2)
end Ff
end Go.Proofs.YtefjnnghfloddaaGreat.Abs

/- Elimination on lists of rows, and its pivots. -/
namespace Go.Proofs.YtefjnnghfloddaaGreat.Abs
set_option linter.unusedVariables false
set_option linter.unusedSimpArgs false
set_option linter.unusedSectionVars false
namespace Ff
def rw_ (l : List (List Int)) (i : Nat) : List Int := l.getD i []
def en (l : List (List Int)) (i j : Nat) : Int := (rw_ l i).getD j 0
def swapL (l : List (List Int)) (i k : Nat) : List (List Int) := (l.set i (rw_ l k)).set k (rw_ l i)
def rowScale (F : Ff) (a : Int) (v : List Int) : List Int := v.map (F.mul a)
def rowAdd (F : Ff) (v : List Int) (a : Int) (u : List Int) : List Int := (List.range v.length).map fun j => if u.getD j 0 = 0 then v.getD j 0 else F.add (v.getD j 0) (F.mul a (u.getD j 0))
noncomputable def nrm (F : Ff) (v : List Int) (c : Nat) : List Int := if v.getD c 0 = 1 then v else F.rowScale (F.inv (v.getD c 0)) v
def clr (F : Ff) (l : List (List Int)) (i c m : Nat) : List (List Int) :=
  (List.range l.length).map fun j => if j < m ∧ j ≠ i ∧ en l j c ≠ 0 then F.rowAdd (rw_ l j) (F.neg (en l j c)) (rw_ l i) else rw_ l j
noncomputable def piv1 (F : Ff) (l : List (List Int)) (i k c : Nat) : List (List Int) := (swapL l i k).set i (F.nrm (rw_ (swapL l i k) i) c)
noncomputable def elimAt (F : Ff) (l : List (List Int)) (i k c : Nat) : List (List Int) := F.clr (F.piv1 l i k c) i c l.length
def findK (l : List (List Int)) (c i : Nat) : Option Nat := (List.range l.length).find? fun k => decide (i ≤ k) && !(en l k c == 0)
noncomputable def elimGo (F : Ff) : Nat → Nat → List (List Int) → List Int → List (List Int) × List Int
  | 0, _, l, piv => (l, piv)
  | n + 1, c, l, piv => if piv.length < l.length then
      match findK l c piv.length with
      | none => elimGo F n (c + 1) l piv
      | some k => elimGo F n (c + 1) (F.elimAt l piv.length k c) (piv ++ [(c : Int)])
    else (l, piv)
theorem findK_some {l : List (List Int)} {c i k : Nat} (h : First (fun k => en l k c ≠ 0) i l.length k) : findK l c i = some k := by
  rw [findK, List.find?_range_eq_some]
  obtain ⟨h1, h2, h3, h4⟩ := h
  refine ⟨by simp [h1, h3], by simpa using h2, fun j hj => ?_⟩
  by_cases h5 : i ≤ j
  · have := h4 j h5 hj
    simp at this
    simp [this]
  · simp; omega
theorem findK_none {l : List (List Int)} {c i : Nat} (h : ∀ k, i ≤ k → k < l.length → en l k c = 0) : findK l c i = none := by
  rw [findK, List.find?_range_eq_none]
  intro k hk
  by_cases h5 : i ≤ k
  · simp [h k h5 hk]
  · simp; omega
theorem find_cases (l : List (List Int)) (c i : Nat) : (∃ k, First (fun k => en l k c ≠ 0) i l.length k) ∨ ∀ k, i ≤ k → k < l.length → en l k c = 0 := by
  by_cases h : ∃ k, i ≤ k ∧ k < l.length ∧ en l k c ≠ 0
  · obtain ⟨k, a, b, d⟩ := h
    exact .inl (First.ex (P := fun k => en l k c ≠ 0) a b d)
  · exact .inr fun k a b => Classical.byContradiction fun d => h ⟨k, a, b, d⟩
theorem rw_set (l : List (List Int)) (i j : Nat) (v : List Int) (hi : i < l.length) : rw_ (l.set i v) j = if j = i then v else rw_ l j := by
  rw [rw_, rw_, List.getD_eq_getElem?_getD, List.getD_eq_getElem?_getD, List.getElem?_set]
  by_cases e : i = j
  · subst e; simp [hi]
  · rw [if_neg e, if_neg (by omega)]
@[simp] theorem swapL_len (l : List (List Int)) (i k : Nat) : (swapL l i k).length = l.length := by simp [swapL]
theorem rw_swap {l : List (List Int)} {i k : Nat} (hi : i < l.length) (hk : k < l.length) (j : Nat) : rw_ (swapL l i k) j = if j = i then rw_ l k else if j = k then rw_ l i else rw_ l j := by
  rw [swapL, rw_set _ _ _ _ (by simpa using hk), rw_set _ _ _ _ hi]
  by_cases e1 : j = k
  · subst e1
    by_cases e2 : j = i
    · subst e2; simp
    · simp [e2]
  · simp [e1]
@[simp] theorem piv1_len (F : Ff) (l : List (List Int)) (i k c : Nat) : (F.piv1 l i k c).length = l.length := by simp [piv1]
@[simp] theorem clr_len (F : Ff) (l : List (List Int)) (i c m : Nat) : (F.clr l i c m).length = l.length := by simp [clr]
@[simp] theorem elimAt_len (F : Ff) (l : List (List Int)) (i k c : Nat) : (F.elimAt l i k c).length = l.length := by simp [elimAt]
@[simp] theorem rowScale_len (F : Ff) (a : Int) (v : List Int) : (F.rowScale a v).length = v.length := by simp [rowScale]
@[simp] theorem rowAdd_len (F : Ff) (v : List Int) (a : Int) (u : List Int) : (F.rowAdd v a u).length = v.length := by simp [rowAdd]
@[simp] theorem nrm_len (F : Ff) (v : List Int) (c : Nat) : (F.nrm v c).length = v.length := by rw [nrm]; split <;> simp
theorem clr_rw (F : Ff) (l : List (List Int)) (i c m j : Nat) (hj : j < l.length) : rw_ (F.clr l i c m) j = if j < m ∧ j ≠ i ∧ en l j c ≠ 0 then F.rowAdd (rw_ l j) (F.neg (en l j c)) (rw_ l i) else rw_ l j := by
  rw [clr, rw_, List.getD_eq_getElem?_getD, List.getElem?_map, List.getElem?_range hj]; rfl
theorem rowAdd_get (F : Ff) {v u : List Int} {a : Int} {j : Nat} (hj : j < v.length) : (F.rowAdd v a u).getD j 0 = if u.getD j 0 = 0 then v.getD j 0 else F.add (v.getD j 0) (F.mul a (u.getD j 0)) := by
  rw [rowAdd, List.getD_eq_getElem?_getD, List.getElem?_map, List.getElem?_range hj]; rfl
theorem rowScale_get (F : Ff) {v : List Int} {a : Int} {j : Nat} (hj : j < v.length) : (F.rowScale a v).getD j 0 = F.mul a (v.getD j 0) := by
  simp [rowScale, hj]
theorem rw_out {l : List (List Int)} {i : Nat} (h : l.length ≤ i) : rw_ l i = [] := by simp [rw_, h]
structure Mat (F : Ff) (l : List (List Int)) (t : Nat) : Prop where
  len : ∀ i, i < l.length → (rw_ l i).length = t
  el : ∀ i j, F.E (en l i j)
section
variable {F : Ff} (h : F.Ok)
include h
theorem Ok.inv1 : F.inv 1 = 1 := by
  have := h.hi 1 h.oneE (by omega)
  rwa [h.mulC, h.mul1 h.invE] at this
theorem Ok.nrm_get {v : List Int} (hv : ∀ j, F.E (v.getD j 0)) (c : Nat) {j : Nat} (hj : j < v.length) : (F.nrm v c).getD j 0 = F.mul (F.inv (v.getD c 0)) (v.getD j 0) := by
  rw [nrm]
  split
  · rename_i h1; rw [h1, h.inv1, h.mulC, h.mul1 (hv j)]
  · rw [rowScale_get F hj]
theorem Ok.elimAt_col {l : List (List Int)} {t i k c : Nat} (hM : F.Mat l t) (hi : i < l.length) (hk : k < l.length) (hik : i ≤ k) (hc : c < t) (j : Nat) (hj : j < t) :
    (fun r => en (F.elimAt l i k c) r j) = F.st i k (fun r => en l r c) (fun r => en l r j) := by
  have hsw : ∀ r d, en (swapL l i k) r d = swp i k (fun r => en l r d) r := by
    intro r d
    simp only [en, rw_swap hi hk, swp]
    split
    · rfl
    · split <;> rfl
  have hswl : ∀ r, r < l.length → (rw_ (swapL l i k) r).length = t := by
    intro r hr
    rw [rw_swap hi hk]
    split
    · exact hM.len k hk
    · split
      · exact hM.len i hi
      · exact hM.len r hr
  have hri : rw_ (swapL l i k) i = rw_ l k := by rw [rw_swap hi hk, if_pos rfl]
  have hp : ∀ r, rw_ (F.piv1 l i k c) r = if r = i then F.nrm (rw_ l k) c else rw_ (swapL l i k) r := by
    intro r
    rw [piv1, rw_set _ _ _ _ (by simpa using hi), hri]
  have hpi : (rw_ (F.piv1 l i k c) i).getD j 0 = F.mul (F.inv (en l k c)) (en l k j) := by
    rw [hp, if_pos rfl, h.nrm_get (hM.el k) c (by rw [hM.len k hk]; exact hj)]; rfl
  funext r
  by_cases hr : r < l.length
  · rw [en, elimAt, clr_rw _ _ _ _ _ _ (by simpa using hr)]
    by_cases e : r = i
    · subst e
      rw [if_neg (fun hh => hh.2.1 rfl), hpi, st, if_pos rfl]
    · have e1 : rw_ (F.piv1 l i k c) r = rw_ (swapL l i k) r := by rw [hp, if_neg e]
      have e2 : en (F.piv1 l i k c) r c = swp i k (fun r => en l r c) r := by rw [en, e1]; exact hsw r c
      have e3 : (rw_ (F.piv1 l i k c) r).getD j 0 = swp i k (fun r => en l r j) r := by rw [e1]; exact hsw r j
      have hE : ∀ d, F.E (swp i k (fun r => en l r d) r) := by
        intro d; rw [← hsw]
        simp only [en, rw_swap hi hk]
        split
        · exact hM.el k d
        · split
          · exact hM.el i d
          · exact hM.el r d
      rw [st, if_neg e]
      by_cases h0 : swp i k (fun r => en l r c) r = 0
      · rw [if_neg (by rw [e2]; exact fun hh => hh.2.2 h0), e3, h0, h.mul0, h.sub0 (hE j)]
      · rw [if_pos ⟨hr, e, by rw [e2]; exact h0⟩, rowAdd_get _ (by rw [e1, hswl r hr]; exact hj), hpi, e2, e3]
        split
        · rename_i hz; rw [hz, h.mul0r, h.sub0 (hE j)]
        · rw [h.neg_mul]; rfl
  · rw [en, rw_out (by simp; omega)]
    have e0 : ∀ d, swp i k (fun r => en l r d) r = 0 := by
      intro d
      simp only [swp]
      rw [if_neg (by omega), if_neg (by omega), en, rw_out (by omega)]; rfl
    rw [st, if_neg (by omega), e0, e0, h.mul0, h.sub0 h.zeroE]; rfl
theorem Ok.elimAt_Mat {l : List (List Int)} {t i k c : Nat} (hM : F.Mat l t) (hi : i < l.length) (hk : k < l.length) (hik : i ≤ k) (hc : c < t) : F.Mat (F.elimAt l i k c) t := by
  have hlen : ∀ r, r < l.length → (rw_ (F.elimAt l i k c) r).length = t := by
    intro r hr
    have hswl : ∀ r, r < l.length → (rw_ (swapL l i k) r).length = t := by
      intro r hr
      rw [rw_swap hi hk]
      split
      · exact hM.len k hk
      · split
        · exact hM.len i hi
        · exact hM.len r hr
    have hp : (rw_ (F.piv1 l i k c) r).length = t := by
      rw [piv1, rw_set _ _ _ _ (by simpa using hi)]
      split
      · rw [nrm_len]; exact hswl i hi
      · exact hswl r hr
    rw [elimAt, clr_rw _ _ _ _ _ _ (by simpa using hr)]
    split
    · rw [rowAdd_len, hp]
    · exact hp
  refine ⟨fun r hr => hlen r (by simpa using hr), fun r j => ?_⟩
  by_cases hj : j < t
  · have := congrFun (h.elimAt_col hM hi hk hik hc j hj) r
    rw [this]
    exact (h.st_lin i k _).ev _ (fun r => hM.el r j) r
  · rw [en]
    by_cases hr : r < l.length
    · have := hlen r hr
      rw [show (rw_ (F.elimAt l i k c) r).getD j 0 = 0 by simp; rw [List.getElem?_eq_none (by omega)]; rfl]
      exact h.zeroE
    · rw [rw_out (by simp; omega)]; exact h.zeroE
theorem Ok.elimGo_le (n c : Nat) (l : List (List Int)) (piv : List Int) : (F.elimGo n c l piv).2.length ≤ piv.length + n := by
  induction n generalizing c l piv with
  | zero => exact Nat.le_refl _
  | succ n ih =>
    rw [elimGo]
    split
    · split
      · exact Nat.le_trans (ih _ _ _) (by omega)
      · exact Nat.le_trans (ih _ _ _) (by simp; omega)
    · simp
theorem Ok.elim_all {t : Nat} (G : Nat → Nat → Int) : ∀ (n c : Nat) (l : List (List Int)) (piv : List Int) (f : (Nat → Int) → Nat → Int), piv.length = c → c + n = t → F.Mat l t →
    (∀ j, j < t → (fun r => en l r j) = f (G j)) → ((F.elimGo n c l piv).2.length = t ↔ F.ElAll l.length f c ((List.range' c n).map G))
  | 0, c, l, piv, f, h1, h2, hM, hf => by
    simp only [elimGo, List.range', List.map_nil]
    exact ⟨fun _ => .nil _ _, fun _ => by omega⟩
  | n + 1, c, l, piv, f, h1, h2, hM, hf => by
    rw [elimGo, List.range', List.map_cons]
    have hfc := hf c (by omega)
    by_cases hl : piv.length < l.length
    · rw [if_pos hl]
      rcases find_cases l c piv.length with ⟨k, hk⟩ | hno
      · rw [findK_some hk]
        have ih := Ok.elim_all G n (c + 1) (F.elimAt l piv.length k c) (piv ++ [(c : Int)]) (fun v => F.st c k (f (G c)) (f v)) (by simp [h1]) (by omega) (h.elimAt_Mat hM hl hk.2.1 hk.1 (by omega)) (fun j hj => by
          rw [h.elimAt_col hM hl hk.2.1 hk.1 (by omega) j hj, hf c (by omega), hf j hj, h1])
        rw [elimAt_len] at ih
        have hk' : First (fun k => f (G c) k ≠ 0) c l.length k := by rw [← hfc]; rw [h1] at hk; exact hk
        refine ih.trans ⟨fun he => .cons _ _ _ _ k hk' he, fun he => ?_⟩
        cases he with
        | cons _ _ _ _ k2 h3 h4 =>
          rw [hk'.uniq h3]; exact h4
      · rw [findK_none hno]
        constructor
        · intro he
          have := h.elimGo_le n (c + 1) l piv
          simp only at he
          omega
        · intro he
          cases he with
          | cons _ _ _ _ k2 h3 h4 =>
            rw [← hfc] at h3
            exact (h3.2.2.1 (hno k2 (by have := h3.1; omega) h3.2.1)).elim
    · rw [if_neg hl]
      constructor
      · intro he; simp only at he; omega
      · intro he
        cases he with
        | cons _ _ _ _ k2 h3 h4 =>
          have := h3.1; have := h3.2.1; omega
theorem Ok.id_lin : F.Lin fun v => v := ⟨fun v hv => hv, fun v s w _ _ _ => rfl⟩
theorem Ok.rank_all {l : List (List Int)} {t : Nat} (hM : F.Mat l t) : (F.elimGo t 0 l []).2.length = t ↔ F.GrAll l.length (fun v => v) ((List.range t).map fun j r => en l r j) := by
  rw [both h _ _ (fun v => v) 0 h.id_lin h.id_lin (by
    intro g hg
    obtain ⟨j, _, rfl⟩ := List.mem_map.1 hg
    exact fun r => hM.el r j) (fun v hv => by simp), List.range_eq_range']
  exact h.elim_all (fun j r => en l r j) t 0 l [] _ rfl (by omega) hM (fun j hj => rfl)
end
end Ff
end Go.Proofs.YtefjnnghfloddaaGreat.Abs

/- Sums and negatives, digit by digit. -/
namespace Go.Proofs.YtefjnnghfloddaaGreat.Abs
set_option linter.unusedVariables false
set_option linter.unusedSimpArgs false
theorem dv_succ (p : Int) (n : Nat) (x : Int) (j : Nat) : dv p (n + 1) x (j + 1) = dv p n (x / p) j := by simp [dv, digs, lv]
theorem dv_0 (p : Int) (n : Nat) (x : Int) : dv p (n + 1) x 0 = x % p := by simp [dv, digs, lv]
theorem addM_succ (p : Int) (n : Nat) (x y : Int) : addM p (n + 1) x y = (x % p + y % p) % p + p * addM p n (x / p) (y / p) := by
  rw [addM, List.range_succ_eq_map, List.map_cons, List.map_map, val, addM]
  simp only [Function.comp_def, Nat.succ_eq_add_one, dv_succ, dv_0]
theorem negM_succ (p : Int) (n : Nat) (x : Int) : negM p (n + 1) x = (p - x % p) % p + p * negM p n (x / p) := by
  rw [negM, List.range_succ_eq_map, List.map_cons, List.map_map, val, negM]
  simp only [Function.comp_def, Nat.succ_eq_add_one, dv_succ, dv_0]
theorem addM_00 {p : Int} (hp : 1 ≤ p) (n : Nat) : addM p n 0 0 = 0 := addM_zero hp (zero_El hp)
theorem negM_0 {p : Int} (hp : 1 ≤ p) (n : Nat) : negM p n 0 = 0 := by
  induction n with
  | zero => rfl
  | succ n ih => rw [negM_succ]; simp [ih]
theorem El_div {p : Int} (hp : 1 ≤ p) {n : Nat} {x : Int} (h : El p (n + 1) x) : El p n (x / p) := by
  refine ⟨Int.ediv_nonneg h.1 (by omega), ?_⟩
  have h1 := h.2
  rw [Int.pow_succ] at h1
  exact Int.ediv_lt_of_lt_mul (by omega) h1
theorem El_zero {p : Int} {x : Int} (h : El p 0 x) : x = 0 := by have := h.1; have := h.2; rw [Int.pow_zero] at this; omega
theorem xor_add : ∀ (n x y : Nat), x < 2 ^ n → y < 2 ^ n → ((x ^^^ y : Nat) : Int) = addM 2 n x y
  | 0, x, y, hx, hy => by
    obtain rfl : x = 0 := by omega
    obtain rfl : y = 0 := by omega
    rfl
  | n + 1, x, y, hx, hy => by
    rw [addM_succ, show (x : Int) / 2 = ((x / 2 : Nat) : Int) by omega, show (y : Int) / 2 = ((y / 2 : Nat) : Int) by omega, ← xor_add n (x / 2) (y / 2) (by rw [Nat.pow_succ] at hx; omega) (by rw [Nat.pow_succ] at hy; omega)]
    have h1 : (x ^^^ y) / 2 = x / 2 ^^^ y / 2 := Nat.xor_div_two
    have h2 : (x ^^^ y) % 2 = (x % 2 + y % 2) % 2 := by
      have := @Nat.xor_mod_two_eq_one x y
      omega
    rw [← h1]
    have := Nat.mod_add_div (x ^^^ y) 2
    omega
end Go.Proofs.YtefjnnghfloddaaGreat.Abs
