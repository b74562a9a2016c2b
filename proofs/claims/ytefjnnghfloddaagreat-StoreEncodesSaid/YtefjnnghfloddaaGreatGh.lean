/- A part of a proof of a law of the store, without conditions: its texts are: Pk Pl Pm Pn Po Pp Pq Pr Pt Pu Pw. -/
import Derived.Test.YtefjnnghfloddaaGreatGg
/- Rows of a matrix in memory; specifications of what checks, copies and adds them. -/
namespace Go.Proofs.YtefjnnghfloddaaGreat.Abs
set_option linter.unusedVariables false
set_option linter.unusedSimpArgs false
set_option linter.unusedSectionVars false
open Ff
def rsl (l : List (List Int)) (b : Nat → Nat) (x : Nat → Bool) (i : Nat) : V := .sl (b i) 0 (rw_ l i).length (rw_ l i).length 1 (x i)
def rcells (l : List (List Int)) (b : Nat → Nat) (x : Nat → Bool) : List V := (List.range l.length).map (rsl l b x)
structure RA (m0 : Mem) (A : List Nat) (m : Mem) (B : Nat) (l : List (List Int)) (b : Nat → Nat) (x : Nat → Bool) : Prop where
  B0 : m0.length ≤ B
  BA : B ∉ A
  at_ : At m B (rcells l b x) 2
  row : ∀ i, i < l.length → m0.length ≤ b i ∧ b i ≠ B ∧ b i ∉ A ∧ At m (b i) ((rw_ l i).map I) 2
  inj : ∀ i j, i < l.length → j < l.length → i ≠ j → b i ≠ b j
@[simp] theorem rcells_len (l : List (List Int)) (b : Nat → Nat) (x : Nat → Bool) : (rcells l b x).length = l.length := by simp [rcells]
theorem rcells_get {l : List (List Int)} {b : Nat → Nat} {x : Nat → Bool} {i : Nat} (h : i < l.length) : (rcells l b x)[i]? = some (rsl l b x i) := by
  rw [rcells, List.getElem?_map, List.getElem?_range h]; rfl
theorem rcells_set {l : List (List Int)} {b : Nat → Nat} {x : Nat → Bool} {i nb : Nat} {v : List Int} {ex : Bool} (h : i < l.length) :
    (rcells l b x).set i (.sl nb 0 v.length v.length 1 ex) = rcells (l.set i v) (fun j => if j = i then nb else b j) (fun j => if j = i then ex else x j) := by
  apply List.ext_getElem?
  intro j
  rw [List.getElem?_set]
  by_cases hj : j < l.length
  · rw [rcells_get hj, rcells_get (by simpa using hj)]
    by_cases e : i = j
    · subst e
      simp [h, rsl, rw_set]
    · rw [if_neg e]
      simp only [rsl]
      rw [rw_set _ _ _ _ h, if_neg (Ne.symm e), if_neg (Ne.symm e), if_neg (Ne.symm e)]
  · rw [List.getElem?_eq_none (by simp; omega), List.getElem?_eq_none (by simp; omega)]
    split
    · rename_i e; subst e; omega
    · rfl
section
variable {m0 m : Mem} {A : List Nat} {B : Nat} {l : List (List Int)} {b : Nat → Nat} {x : Nat → Bool} (h : RA m0 A m B l b x)
include h
theorem RA.lc {i : Nat} (hi : i < l.length) : lc m B i = some (rsl l b x i) := by
  rw [lc_at h.at_ (by omega), rcells_get hi]
theorem RA.ints {i : Nat} (hi : i < l.length) : Ints m (rsl l b x i) (rw_ l i) := (h.row i hi).2.2.2.ints (by omega) _
theorem RA.rows (ex : Bool) : Rows m (.sl B 0 l.length l.length 1 ex) l := by
  refine .inr (.inr ⟨B, 0, l.length, ex, _, rfl, h.at_, by simp, Nat.le_refl _, fun i hi => ⟨rsl l b x i, ?_, ?_⟩⟩)
  · rw [Nat.zero_add]; exact rcells_get hi
  · have := h.ints hi
    rw [rw_, List.getD_eq_getElem?_getD, List.getElem?_eq_getElem hi] at this
    exact this
theorem RA.app (g : Mem) : RA m0 A (m ++ g) B l b x := ⟨h.B0, h.BA, At.app h.at_ g, fun i hi => ⟨(h.row i hi).1, (h.row i hi).2.1, (h.row i hi).2.2.1, At.app (h.row i hi).2.2.2 g⟩, h.inj⟩
theorem RA.pre {m' : Mem} (hm : Pre m m') : RA m0 A m' B l b x := by obtain ⟨g, rfl⟩ := hm; exact h.app g
theorem RA.new {y : Nat} (hy : m.length ≤ y) : y ≠ B ∧ ∀ i, i < l.length → y ≠ b i := by
  have h1 := h.at_.lt
  refine ⟨by omega, fun i hi => ?_⟩
  have := (h.row i hi).2.2.2.lt
  omega
theorem RA.off {y : Nat} (hy : y ≠ B) (hy2 : ∀ i, i < l.length → y ≠ b i) (k : Blk) : RA m0 A (m.set y k) B l b x :=
  ⟨h.B0, h.BA, At.set_ne h.at_ hy, fun i hi => ⟨(h.row i hi).1, (h.row i hi).2.1, (h.row i hi).2.2.1, At.set_ne (h.row i hi).2.2.2 (hy2 i hi)⟩, h.inj⟩
theorem RA.put {i nb : Nat} {v : List Int} {ex : Bool} (hi : i < l.length) (hn : m0.length ≤ nb) (hnB : nb ≠ B) (hnA : nb ∉ A) (hnb : ∀ j, j < l.length → nb ≠ b j) (hv : At m nb (v.map I) 2) :
    RA m0 A (m.set B ⟨(rcells l b x).set i (.sl nb 0 v.length v.length 1 ex), 2⟩) B (l.set i v) (fun j => if j = i then nb else b j) (fun j => if j = i then ex else x j) := by
  rw [rcells_set hi]
  refine ⟨h.B0, h.BA, At.set_self h.at_, fun j hj => ?_, fun j k hj hk hne => ?_⟩
  · rw [List.length_set] at hj
    rw [rw_set _ _ _ _ hi]
    by_cases e : j = i
    · simp only [e, if_true]
      exact ⟨hn, hnB, hnA, At.set_ne hv (fun h => hnB h.symm)⟩
    · simp only [e, if_false]
      have := h.row j hj
      exact ⟨this.1, this.2.1, this.2.2.1, At.set_ne this.2.2.2 (fun h => this.2.1 h.symm)⟩
  · rw [List.length_set] at hj hk
    by_cases e1 : j = i
    · by_cases e2 : k = i
      · omega
      · simp only [e1, e2, if_true, if_false]; exact hnb k hk
    · by_cases e2 : k = i
      · simp only [e1, e2, if_true, if_false]; exact fun h => hnb j hj h.symm
      · simp only [e1, e2, if_false]; exact h.inj j k hj hk hne
theorem RA.mod {i : Nat} {v : List Int} (hi : i < l.length) (hl : v.length = (rw_ l i).length) : RA m0 A (m.set (b i) ⟨v.map I, 2⟩) B (l.set i v) b x := by
  have hc : rcells (l.set i v) b x = rcells l b x := by
    apply List.ext_getElem?
    intro j
    by_cases hj : j < l.length
    · rw [rcells_get hj, rcells_get (by simpa using hj)]
      simp only [rsl]
      rw [rw_set _ _ _ _ hi]
      by_cases e : j = i
      · subst e; simp [hl]
      · rw [if_neg e]
    · rw [List.getElem?_eq_none (by simp; omega), List.getElem?_eq_none (by simp; omega)]
  refine ⟨h.B0, h.BA, by rw [hc]; exact At.set_ne h.at_ (h.row i hi).2.1, fun j hj => ?_, fun j k hj hk hne => h.inj j k (by simpa using hj) (by simpa using hk) hne⟩
  rw [List.length_set] at hj
  have := h.row j hj
  refine ⟨this.1, this.2.1, this.2.2.1, ?_⟩
  rw [rw_set _ _ _ _ hi]
  by_cases e : j = i
  · subst e; rw [if_pos rfl]; exact At.set_self this.2.2.2
  · rw [if_neg e]; exact At.set_ne this.2.2.2 (h.inj i j hi hj (Ne.symm e))
def sw {α : Type} (i k : Nat) (f : Nat → α) (j : Nat) : α := if j = i then f k else if j = k then f i else f j
theorem rsl_swap {i k : Nat} (hi : i < l.length) (hk : k < l.length) (j : Nat) : rsl (swapL l i k) (sw i k b) (sw i k x) j = if j = i then rsl l b x k else if j = k then rsl l b x i else rsl l b x j := by
  simp only [rsl, sw]
  rw [rw_swap hi hk]
  split
  · rfl
  · split <;> rfl
theorem rcells_swap {i k : Nat} (hi : i < l.length) (hk : k < l.length) : ((rcells l b x).set i (rsl l b x k)).set k (rsl l b x i) = rcells (swapL l i k) (sw i k b) (sw i k x) := by
  apply List.ext_getElem?
  intro j
  rw [List.getElem?_set]
  by_cases hj : j < l.length
  · rw [rcells_get (by simpa using hj), rsl_swap h hi hk]
    by_cases e1 : k = j
    · subst e1
      rw [if_pos rfl, if_pos (show k < ((rcells l b x).set i (rsl l b x k)).length by simpa using hk)]
      by_cases e2 : k = i
      · subst e2; simp
      · simp [e2]
    · rw [if_neg e1, List.getElem?_set]
      by_cases e2 : i = j
      · subst e2; simp [hi]
      · rw [if_neg e2, rcells_get hj, if_neg (Ne.symm e2), if_neg (Ne.symm e1)]
  · rw [List.getElem?_eq_none (l := rcells _ _ _) (by simp; omega)]
    split
    · rename_i e; subst e; omega
    · rw [List.getElem?_eq_none (by simp; omega)]
theorem RA.swap {i k : Nat} (hi : i < l.length) (hk : k < l.length) : RA m0 A (m.set B ⟨rcells (swapL l i k) (sw i k b) (sw i k x), 2⟩) B (swapL l i k) (sw i k b) (sw i k x) := by
  have hsw : ∀ j, j < l.length → ∃ j', j' < l.length ∧ sw i k b j = b j' ∧ rw_ (swapL l i k) j = rw_ l j' ∧ j' = sw i k id j := by
    intro j hj
    simp only [sw, id]
    rw [rw_swap hi hk]
    by_cases e1 : j = i
    · exact ⟨k, hk, by simp [e1], by simp [e1], by simp [e1]⟩
    · by_cases e2 : j = k
      · subst e2; exact ⟨i, hi, by simp [e1], by simp [e1], by simp [e1]⟩
      · exact ⟨j, hj, by simp [e1, e2], by simp [e1, e2], by simp [e1, e2]⟩
  refine ⟨h.B0, h.BA, At.set_self h.at_, fun j hj => ?_, fun j j2 hj hj2 hne => ?_⟩
  · rw [swapL_len] at hj
    obtain ⟨j', h1, h2, h3, _⟩ := hsw j hj
    have := h.row j' h1
    rw [h2, h3]
    exact ⟨this.1, this.2.1, this.2.2.1, At.set_ne this.2.2.2 (fun h => this.2.1 h.symm)⟩
  · rw [swapL_len] at hj hj2
    obtain ⟨j', h1, h2, h3, h4⟩ := hsw j hj
    obtain ⟨k', g1, g2, g3, g4⟩ := hsw j2 hj2
    rw [h2, g2]
    refine h.inj j' k' h1 g1 ?_
    rw [h4, g4]
    simp only [sw, id]
    repeat' split
    all_goals omega
end
theorem mk25 {l c : Int} (h0 : 0 ≤ l) (h1 : l ≤ c) (h2 : c ≤ 1000000000) (m : Mem) : opMakeSlice T 25 (I l) (I c) m = some (.sl m.length 0 l.toNat c.toNat 1 true, m ++ [⟨List.replicate c.toNat .nils, 2⟩]) := by
  have : 0 ≤ l ∧ l ≤ c ∧ c * 24 ≤ 140737488355328 ∧ c ≤ 4611686018427387904 := by omega
  simp [opMakeSlice, T25, T22, this, zeros_one]
theorem clone_wv {v : V} {l : List Int} {m : Mem} {Q : V → Mem → Prop} (hv : Ints m v l) (h0 : l ≠ []) (hl : l.length ≤ 1000000) (hQ : ∀ b ex m', Pre m m' → m.length ≤ b → At m' b (l.map I) 2 → Q (.sl b 0 l.length l.length 1 ex) m') : WV (DD 162 [v] m) Q := by
  rw [e162]
  refine WV_fin ?_
  have hvn : v ≠ .nils := by
    rintro rfl
    have := hv.vlen
    simp [V.len] at this
    exact h0 (List.length_eq_zero_iff.1 this.symm)
  obtain ⟨v', m', a1, a2, a3, a4, a5⟩ := append_lit hv (by omega)
  simp [r162_0, r162_1, r162_2, r162_3, c162, eq_nil22 hv hvn, a1]
  rcases a2 with ⟨h, _⟩ | ⟨b, ex, rfl, h2, h3⟩
  · exact (a5 h).elim
  · rw [List.length_map]
    exact hQ b ex m' a3 h2 h3
structure CpI (m : Mem) (v : V) (l : List (List Int)) (k : Nat) (e : Env) (m' : Mem) : Prop where
  d : ∃ (i : Nat) (b : Nat → Nat) (x : Nat → Bool), e 3 = .sl m.length 0 l.length l.length 1 true ∧ e 9 = v ∧ e 10 = I l.length ∧ e 11 = I i ∧ i ≤ l.length ∧ l.length - i = k ∧ Pre m m' ∧
    At m' m.length ((List.range l.length).map fun j => if j < i then rsl l b x j else .nils) 2 ∧ (∀ j, j < i → m.length < b j ∧ At m' (b j) ((rw_ l j).map I) 2) ∧ ∀ j k, j < i → k < i → j ≠ k → b j ≠ b k
theorem cloneRows_wv {v : V} {l : List (List Int)} {m : Mem} {Q : V → Mem → Prop} (hv : Rows m v l) (h0 : ∀ i, i < l.length → (rw_ l i) ≠ [] ∧ (rw_ l i).length ≤ 1000000) (hl : l.length ≤ 1000000)
    (hQ : ∀ B b x m', Pre m m' → RA m [] m' B l b x → Q (.sl B 0 l.length l.length 1 true) m') : WV (DD 146 [v] m) Q := by
  rw [e146]
  refine WV_fin ?_
  simp [r146_0, r146_1, r146_2, r146_3, r146_4, r146_5, r146_6, r146_8, c146, hv.len, mk25 (l := l.length) (c := l.length) (by omega) (by omega) (by omega)]
  refine W_loop (CpI m v l) ?_ l.length _ _ ⟨⟨0, fun _ => 0, fun _ => true, by simp, by simp, by simp, by simp, by omega, by omega, List.prefix_append _ _, ?_, fun j hj => by omega, fun j k hj => by omega⟩⟩
  · rintro c e m' ⟨⟨i, b, x, e3, e9, e10, e11, hi, hc, hpre, hB, hrow, hinj⟩⟩
    by_cases hlt : i < l.length
    · obtain ⟨b1, o1, u, a1, a2, a3⟩ := (hv.pre hpre).at (ix := i) (by omega) (by omega)
      rw [Int.toNat_natCast] at a3
      have w1 : IntKind.i64.wrap ((i : Int) + 1) = i + 1 := wrap64_in (by omega) (by omega)
      simp [l146_7, r146_0, r146_1, r146_2, r146_3, r146_4, r146_5, r146_6, r146_8, c146, e3, e9, e10, e11, hlt, a1, a2]
      refine WR_bnd (clone_wv a3 (h0 i hlt).1 (h0 i hlt).2 fun nb ex m2 hp2 hnb hat => ?_)
      have hB2 := Pre.at hp2 hB
      have hix := ia25 (b := m.length) (o := 0) (n := l.length) (c := l.length) (ex := true) (ix := (i : Int)) (by omega) (by omega)
      simp only [Int.toNat_natCast, Nat.zero_add] at hix
      have hst := sc_at hB2 (u := .sl nb 0 (rw_ l i).length (rw_ l i).length 1 ex) rfl (o := i) (by simpa using hlt)
      have hBlt := hB.lt
      rw [rw_] at hst
      simp [hix, st22, hst, w1, e3, e9, e10, e11, -List.getD_eq_getElem?_getD]
      refine ⟨l.length - (i + 1), by omega, ⟨i + 1, fun j => if j = i then nb else b j, fun j => if j = i then ex else x j, by simp [e3], by simp [e9], by simp [e10], by simp, by omega, rfl, Pre.set (hpre.trans hp2) (by omega) _, ?_, fun j hj => ?_, fun j k hj hk hne => ?_⟩⟩
      · rw [At, List.getElem?_set_self (At.lt hB2)]
        congr 2
        apply List.ext_getElem?
        intro j
        rw [List.getElem?_set]
        by_cases hj : j < l.length
        · rw [List.getElem?_map, List.getElem?_range hj, List.getElem?_map, List.getElem?_range hj]
          by_cases e : i = j
          · subst e; simp [hlt, rsl, rw_]
          · rw [if_neg e]
            simp only [Option.map_some, rsl]
            by_cases h1 : j < i
            · rw [if_pos h1, if_pos (by omega), if_neg (Ne.symm e), if_neg (Ne.symm e)]
            · rw [if_neg h1, if_neg (by omega)]
        · rw [List.getElem?_eq_none (by simp; omega), List.getElem?_eq_none (by simp; omega)]
          split
          · rename_i e; subst e; omega
          · rfl
      · by_cases e : j = i
        · subst e
          simp only [if_true]
          exact ⟨by omega, At.set_ne hat (by omega)⟩
        · simp only [e, if_false]
          have := hrow j (by omega)
          exact ⟨this.1, At.set_ne (Pre.at hp2 this.2) (by omega)⟩
      · by_cases e1 : j = i
        · by_cases e2 : k = i
          · omega
          · simp only [e1, e2, if_true, if_false]
            have := (hrow k (by omega)).2.lt
            omega
        · by_cases e2 : k = i
          · simp only [e1, e2, if_true, if_false]
            have := (hrow j (by omega)).2.lt
            omega
          · simp only [e1, e2, if_false]; exact hinj j k (by omega) (by omega) hne
    · have hil : i = l.length := by omega
      subst hil
      simp [l146_7, r146_0, r146_1, r146_2, r146_3, r146_4, r146_5, r146_6, r146_8, c146, e3, e9, e10, e11]
      refine hQ m.length b x m' hpre ⟨Nat.le_refl _, by simp, ?_, fun j hj => ?_, hinj⟩
      · rw [At, hB]
        congr 2
        apply List.map_congr_left
        intro j hj
        rw [if_pos (List.mem_range.1 hj)]
      · have := hrow j hj
        exact ⟨by omega, by omega, by simp, this.2⟩
  · rw [At]
    simp
    rw [List.map_const']; simp
theorem set_id {m : Mem} {b : Nat} {k : Blk} (h : m[b]? = some k) : m.set b k = m := by
  apply List.ext_getElem?
  intro i
  by_cases e : b = i
  · subst e
    have : b < m.length := by
      rcases Nat.lt_or_ge b m.length with h1 | h1
      · exact h1
      · rw [List.getElem?_eq_none h1] at h; cases h
    rw [List.getElem?_set_self this, h]
  · rw [List.getElem?_set_ne e]
def ra1 (F : Ff) (v : List Int) (a : Int) (u : List Int) (j : Nat) : Int := if u.getD j 0 = 0 then v.getD j 0 else F.add (v.getD j 0) (F.mul a (u.getD j 0))
theorem rowAdd_map (F : Ff) (v : List Int) (a : Int) (u : List Int) : F.rowAdd v a u = mapTo v (ra1 F v a u) v.length := by rw [mapTo_end]; rfl
structure A2I (f : Fd) (g : V) (v u : List Int) (a : Int) (m : Mem) (bv bu : Nat) (y z : Bool) (k : Nat) (e : Env) (m' : Mem) : Prop where
  d : ∃ i : Nat, e 0 = g ∧ e 1 = .sl bv 0 v.length v.length 1 y ∧ e 2 = I a ∧ e 10 = .sl bu 0 v.length v.length 1 z ∧ e 11 = I v.length ∧ e 12 = I i ∧ i ≤ v.length ∧ v.length - i = k ∧ m' = m.set bv ⟨(mapTo v (ra1 f.F v a u) i).map I, 2⟩
theorem add2_wv {f : Fd} {g : V} {v u : List Int} {a : Int} {m0 m : Mem} {bv bu : Nat} {y z : Bool} {Q : V → Mem → Prop} (hg : GFAt m0 g f) (hp : Pre m0 m) (hb : m0.length ≤ bv) (hv : At m bv (v.map I) 2) (hu : At m bu (u.map I) 2) (hne : bv ≠ bu) (hl : u.length = v.length) (hl2 : v.length ≤ 1000000)
    (ha : f.F.E a) (vE : ∀ j, f.F.E (v.getD j 0)) (uE : ∀ j, f.F.E (u.getD j 0)) (hQ : Q (.tup []) (m.set bv ⟨(f.F.rowAdd v a u).map I, 2⟩)) : WV (DD 161 [g, .sl bv 0 v.length v.length 1 y, I a, .sl bu 0 v.length v.length 1 z] m) Q := by
  rw [e161]
  refine WV_fin ?_
  simp [r161_0, r161_1, r161_2, r161_3, r161_4, r161_5, c161]
  refine W_loop (A2I f g v u a m bv bu y z) ?_ v.length _ _ ⟨⟨0, by simp, by simp, by simp, by simp, by simp, by simp, by omega, by omega, by rw [mapTo_0, set_id hv]⟩⟩
  rintro c e m' ⟨⟨i, e0, e1, e2, e10, e11, e12, hi, hc, rfl⟩⟩
  have hv' : At (m.set bv ⟨(mapTo v (ra1 f.F v a u) i).map I, 2⟩) bv ((mapTo v (ra1 f.F v a u) i).map I) 2 := At.set_self hv
  have hu' : At (m.set bv ⟨(mapTo v (ra1 f.F v a u) i).map I, 2⟩) bu (u.map I) 2 := At.set_ne hu hne
  have hpre : Pre m0 (m.set bv ⟨(mapTo v (ra1 f.F v a u) i).map I, 2⟩) := hp.set hb _
  by_cases hlt : i < v.length
  · have w1 : IntKind.i64.wrap ((i : Int) + 1) = i + 1 := wrap64_in (by omega) (by omega)
    have i1 := ia22 (b := bu) (o := 0) (n := v.length) (c := v.length) (ex := z) (ix := (i : Int)) (by omega) (by omega)
    have i2 := ia22 (b := bv) (o := 0) (n := v.length) (c := v.length) (ex := y) (ix := (i : Int)) (by omega) (by omega)
    simp only [Int.toNat_natCast, Nat.zero_add] at i1 i2
    have l1 := lc_ints hu' (by omega) (o := i) (by omega)
    have l2 := lc_ints hv' (by omega) (o := i) (by simpa using hlt)
    rw [List.getD_eq_getElem?_getD (l := mapTo _ _ _), mapTo_get _ _ _ _ hlt, if_neg (by omega), Option.getD_some] at l2
    have hset := mapTo_set v (ra1 f.F v a u) i hlt
    by_cases h0 : u.getD i 0 = 0
    · simp [l161_6, r161_0, r161_1, r161_2, r161_3, r161_4, r161_5, c161, e0, e1, e2, e10, e11, e12, hlt, i1, l1, h0, w1, -List.getD_eq_getElem?_getD]
      refine ⟨v.length - (i + 1), by omega, ⟨i + 1, by simp [e0], by simp [e1], by simp [e2], by simp [e10], by simp [e11], by simp, by omega, rfl, ?_⟩⟩
      congr 3
      rw [← hset]
      apply List.ext_getElem?
      intro j
      rw [List.getElem?_set]
      by_cases e : i = j
      · subst e
        rw [if_pos rfl, if_pos (by simpa using hlt), mapTo_get _ _ _ _ hlt, if_neg (by omega), ra1, if_pos h0]
      · rw [if_neg e]
    · simp [l161_6, r161_0, r161_1, r161_2, r161_3, r161_4, r161_5, c161, e0, e1, e2, e10, e11, e12, hlt, i1, i2, l1, l2, h0, w1, -List.getD_eq_getElem?_getD]
      refine WR_bnd (mul_wv (hg.pre hpre) ha (uE i) ?_)
      simp [-List.getD_eq_getElem?_getD]
      refine WR_bnd (add_wv (hg.pre hpre) (vE i) (by have := hg.ok.F; exact this.mulE) ?_)
      have hst := sc_ints hv' (o := i) (x := ra1 f.F v a u i) (by simpa using hlt)
      rw [hset, List.set_set, ra1, if_neg h0] at hst
      simp [i2, hst, e0, e1, e2, e10, e11, e12, w1, -List.getD_eq_getElem?_getD]
      exact ⟨v.length - (i + 1), by omega, ⟨i + 1, by simp [e0], by simp [e1], by simp [e2], by simp [e10], by simp [e11], by simp, by omega, rfl, rfl⟩⟩
  · have hil : i = v.length := by omega
    subst hil
    simp [l161_6, r161_0, r161_1, r161_2, r161_3, r161_4, r161_5, c161, e0, e1, e2, e10, e11, e12]
    rw [rowAdd_map] at hQ
    simpa [packV] using hQ
end Go.Proofs.YtefjnnghfloddaaGreat.Abs

/- Specifications: the program's elimination. -/
namespace Go.Proofs.YtefjnnghfloddaaGreat.Abs
set_option linter.unusedVariables false
set_option linter.unusedSimpArgs false
set_option linter.unusedSectionVars false
open Ff
theorem Mat_set {F : Ff} {l : List (List Int)} {t i : Nat} {v : List Int} (h : F.Mat l t) (hi : i < l.length) (hl : v.length = t) (hE : ∀ j, F.E (v.getD j 0)) : F.Mat (l.set i v) t := by
  refine ⟨fun j hj => ?_, fun j k => ?_⟩
  · rw [List.length_set] at hj
    rw [rw_set _ _ _ _ hi]
    split
    · exact hl
    · exact h.len j hj
  · rw [en, rw_set _ _ _ _ hi]
    split
    · exact hE k
    · exact h.el j k
theorem Mat_swap {F : Ff} {l : List (List Int)} {t i k : Nat} (h : F.Mat l t) (hi : i < l.length) (hk : k < l.length) : F.Mat (swapL l i k) t := by
  refine ⟨fun j hj => ?_, fun j c => ?_⟩
  · rw [swapL_len] at hj
    rw [rw_swap hi hk]
    split
    · exact h.len k hk
    · split
      · exact h.len i hi
      · exact h.len j hj
  · rw [en, rw_swap hi hk]
    split
    · exact h.el k c
    · split
      · exact h.el i c
      · exact h.el j c
theorem set_rw (l : List (List Int)) (i : Nat) (hi : i < l.length) : l.set i (rw_ l i) = l := by
  apply List.ext_getElem?
  intro j
  rw [List.getElem?_set]
  by_cases e : i = j
  · subst e; simp [hi, rw_]
  · rw [if_neg e]
theorem swapL_self (l : List (List Int)) (i : Nat) (hi : i < l.length) : swapL l i i = l := by
  rw [swapL, List.set_set, set_rw l i hi]
theorem clr_0 (F : Ff) (l : List (List Int)) (i c : Nat) : F.clr l i c 0 = l := by
  apply List.ext_getElem?
  intro j
  by_cases hj : j < l.length
  · rw [clr, List.getElem?_map, List.getElem?_range hj]
    simp [hj, rw_]
  · rw [List.getElem?_eq_none (by simp; omega), List.getElem?_eq_none (by omega)]
theorem clr_step (F : Ff) (l : List (List Int)) (i c m : Nat) (hm : m < l.length) :
    F.clr l i c (m + 1) = if m ≠ i ∧ en l m c ≠ 0 then (F.clr l i c m).set m (F.rowAdd (rw_ l m) (F.neg (en l m c)) (rw_ l i)) else F.clr l i c m := by
  apply List.ext_getElem?
  intro j
  have hg : ∀ m', (F.clr l i c m')[j]? = if j < l.length then some (if j < m' ∧ j ≠ i ∧ en l j c ≠ 0 then F.rowAdd (rw_ l j) (F.neg (en l j c)) (rw_ l i) else rw_ l j) else none := by
    intro m'
    by_cases hj : j < l.length
    · rw [if_pos hj, clr, List.getElem?_map, List.getElem?_range hj]; rfl
    · rw [if_neg hj, List.getElem?_eq_none (by simp; omega)]
  rw [hg]
  by_cases e : m = j
  · subst e
    rw [if_pos hm]
    by_cases h : m ≠ i ∧ en l m c ≠ 0
    · rw [if_pos h, if_pos ⟨by omega, h⟩, List.getElem?_set_self (by simpa using hm)]
    · rw [if_neg h, if_neg (fun hh => h hh.2), hg, if_pos hm, if_neg (fun hh => h hh.2)]
  · have : (if m ≠ i ∧ en l m c ≠ 0 then (F.clr l i c m).set m (F.rowAdd (rw_ l m) (F.neg (en l m c)) (rw_ l i)) else F.clr l i c m)[j]? = (F.clr l i c m)[j]? := by
      split
      · exact List.getElem?_set_ne e
      · rfl
    rw [this, hg]
    split
    · by_cases h : j < m
      · simp only [h, show j < m + 1 by omega]
      · simp only [h, show ¬ j < m + 1 by omega]
    · rfl
theorem clr_row (F : Ff) (l : List (List Int)) (i c m j : Nat) (hj : j < l.length) (h : m ≤ j ∨ j = i) : rw_ (F.clr l i c m) j = rw_ l j := by
  rw [clr_rw _ _ _ _ _ _ hj, if_neg (fun hh => by omega)]
theorem rowAdd_E {F : Ff} (h : F.Ok) {v u : List Int} {a : Int} (hv : ∀ j, F.E (v.getD j 0)) (j : Nat) : F.E ((F.rowAdd v a u).getD j 0) := by
  by_cases hj : j < v.length
  · rw [rowAdd_get _ hj]
    split
    · exact hv j
    · exact h.addE
  · rw [List.getD_eq_getElem?_getD, List.getElem?_eq_none (by simp; omega)]; exact h.zeroE
theorem nrm_E {F : Ff} (h : F.Ok) {v : List Int} (hv : ∀ j, F.E (v.getD j 0)) (c j : Nat) : F.E ((F.nrm v c).getD j 0) := by
  by_cases hj : j < v.length
  · rw [h.nrm_get hv c hj]; exact h.mulE
  · rw [List.getD_eq_getElem?_getD, List.getElem?_eq_none (by simp; omega)]; exact h.zeroE
@[simp] theorem al3 (m : Mem) : opAlloc T 3 m = some (.ptr m.length 0, m ++ [⟨[I 0], 2⟩]) := by simp [opAlloc, T3]
theorem lc_cell {m : Mem} {y : Nat} {v : V} {st : Nat} (h : At m y [v] st) (hs : st ≠ 0) : lc m y 0 = some v := by rw [lc_at h hs]; rfl
theorem each_wv {fid : Nat} {caps : List V} {rv : V} {rb ab : Nat} {m : Mem} {Q : V → Mem → Prop} (hR : At m rb [rv] 2) (h : WV (DD fid (rv :: caps) m) fun _ m1 => At m1 ab [.nils] 2 ∧ Q (.tup []) m1) :
    WV (DD 163 [.fn fid [] caps, .ptr rb 0, .ptr ab 0] m) Q := by
  rw [e163]
  refine WV_fin ?_
  simp [r163_0, r163_1, r163_2, c163, lc_cell hR]
  refine WR_bnd (h.mono fun v m1 h1 => ?_)
  simp [lc_cell h1.1, packV]
  exact h1.2
theorem elim_swap_wv {m0 m : Mem} {A : List Nat} {B i k ca ck : Nat} {l : List (List Int)} {b : Nat → Nat} {x : Nat → Bool} {ex : Bool} {Q : V → Mem → Prop} (h : RA m0 A m B l b x) (hi : i < l.length) (hk : k < l.length) (ha : At m ca [I i] 2) (hc : At m ck [I k] 2) (h1 : ca ≠ B) (h2 : ck ≠ B) (hl : l.length ≤ 1000000)
    (hQ : Q (.tup []) (m.set B ⟨rcells (swapL l i k) (sw i k b) (sw i k x), 2⟩)) : WV (DD 164 [.sl B 0 l.length l.length 1 ex, .ptr ck 0, .ptr ca 0] m) Q := by
  rw [e164]
  refine WV_fin ?_
  have i1 := ia25 (b := B) (o := 0) (n := l.length) (c := l.length) (ex := ex) (ix := (i : Int)) (by omega) (by omega)
  have i2 := ia25 (b := B) (o := 0) (n := l.length) (c := l.length) (ex := ex) (ix := (k : Int)) (by omega) (by omega)
  simp only [Int.toNat_natCast, Nat.zero_add] at i1 i2
  have s1 := sc_at h.at_ (u := rsl l b x k) rfl (o := i) (by simpa using hi)
  have hB1 : At (m.set B ⟨(rcells l b x).set i (rsl l b x k), 2⟩) B ((rcells l b x).set i (rsl l b x k)) 2 := At.set_self h.at_
  have s2 := sc_at hB1 (u := rsl l b x i) rfl (o := k) (by simpa using hk)
  rw [List.set_set, rcells_swap h hi hk] at s2
  have hc1 : At (m.set B ⟨(rcells l b x).set i (rsl l b x k), 2⟩) ck [I k] 2 := At.set_ne hc (Ne.symm h2)
  have hc2 : At (m.set B ⟨rcells (swapL l i k) (sw i k b) (sw i k x), 2⟩) ck [I k] 2 := At.set_ne hc (Ne.symm h2)
  have r1 : (rsl l b x i).isCell = true := rfl
  have r2 : (rsl l b x k).isCell = true := rfl
  simp [r164_0, c164, lc_cell ha, lc_cell hc, i1, i2, h.lc hi, h.lc hk, st22 _ _ _ _ r1, st22 _ _ _ _ r2, s1, s2, lc_cell hc1, lc_cell hc2, chkl_of, packV]
  exact hQ
theorem elim_scale_wv {f : Fd} {g : V} {m0 m : Mem} {A : List Nat} {B i ca ci gb t : Nat} {l : List (List Int)} {b : Nat → Nat} {x : Nat → Bool} {ex : Bool} {a : Int} {Q : V → Mem → Prop} (hg : GFAt m0 g f) (hp : Pre m0 m) (h : RA m0 A m B l b x) (hM : f.F.Mat l t) (hi : i < l.length) (hG : At m gb [g] 2) (ha : At m ca [I i] 2) (hc : At m ci [I a] 2) (haE : f.F.E a) (hl : l.length ≤ 1000000) (ht : t ≤ 1000000)
    (hQ : Q (.tup []) (List.set (m ++ [⟨(f.F.rowScale a (rw_ l i)).map I, 2⟩] : Mem) B ⟨(rcells l b x).set i (.sl m.length 0 (f.F.rowScale a (rw_ l i)).length (f.F.rowScale a (rw_ l i)).length 1 true), 2⟩)) : WV (DD 168 [.sl B 0 l.length l.length 1 ex, .ptr gb 0, .ptr ci 0, .ptr ca 0] m) Q := by
  rw [e168]
  refine WV_fin ?_
  have i1 := ia25 (b := B) (o := 0) (n := l.length) (c := l.length) (ex := ex) (ix := (i : Int)) (by omega) (by omega)
  simp only [Int.toNat_natCast, Nat.zero_add] at i1
  simp [r168_0, c168, lc_cell ha, lc_cell hc, lc_cell hG, i1, h.lc hi]
  refine WR_bnd (scale_wv (hg.pre hp) haE (h.ints hi) (hM.el i) (by rw [hM.len i hi]; exact ht) ?_)
  have hB1 : At (m ++ [⟨(f.F.rowScale a (rw_ l i)).map I, 2⟩]) B (rcells l b x) 2 := At.app h.at_ _
  have s1 := sc_at hB1 (u := .sl m.length 0 (rw_ l i).length (rw_ l i).length 1 true) rfl (o := i) (by simpa using hi)
  rw [rowScale_len] at hQ
  simp [i1, st22, s1, packV]
  exact hQ
theorem elim_add_wv {f : Fd} {g : V} {m0 m : Mem} {A : List Nat} {B i k ca cI cx gb t : Nat} {l : List (List Int)} {b : Nat → Nat} {x : Nat → Bool} {ex : Bool} {a : Int} {Q : V → Mem → Prop} (hg : GFAt m0 g f) (hp : Pre m0 m) (h : RA m0 A m B l b x) (hM : f.F.Mat l t) (hi : i < l.length) (hk : k < l.length) (hne : k ≠ i) (hG : At m gb [g] 2) (ha : At m ca [I i] 2) (hcI : At m cI [I k] 2) (hc : At m cx [I a] 2) (haE : f.F.E a) (hl : l.length ≤ 1000000) (ht : t ≤ 1000000)
    (hQ : Q (.tup []) (m.set (b k) ⟨(f.F.rowAdd (rw_ l k) (f.F.neg a) (rw_ l i)).map I, 2⟩)) : WV (DD 170 [.sl B 0 l.length l.length 1 ex, .ptr gb 0, .ptr cI 0, .ptr cx 0, .ptr ca 0] m) Q := by
  rw [e170]
  refine WV_fin ?_
  have i1 := ia25 (b := B) (o := 0) (n := l.length) (c := l.length) (ex := ex) (ix := (i : Int)) (by omega) (by omega)
  have i2 := ia25 (b := B) (o := 0) (n := l.length) (c := l.length) (ex := ex) (ix := (k : Int)) (by omega) (by omega)
  simp only [Int.toNat_natCast, Nat.zero_add] at i1 i2
  simp [r170_0, c170, lc_cell ha, lc_cell hc, lc_cell hG, lc_cell hcI, i2, h.lc hk]
  refine WR_bnd (neg_wv (hg.pre hp) haE ?_)
  simp [lc_cell ha, i1, h.lc hi]
  have e1 : rsl l b x k = .sl (b k) 0 (rw_ l k).length (rw_ l k).length 1 (x k) := rfl
  have e2 : rsl l b x i = .sl (b i) 0 (rw_ l k).length (rw_ l k).length 1 (x i) := by rw [rsl, hM.len i hi, hM.len k hk]
  rw [e1, e2]
  refine WR_bnd (add2_wv hg hp (h.row k hk).1 (h.row k hk).2.2.2 (h.row i hi).2.2.2 (h.inj k i hk hi hne) (by rw [hM.len i hi, hM.len k hk]) (by rw [hM.len k hk]; exact ht) hg.ok.F.negE (hM.el k) (hM.el i) ?_)
  simp [packV]
  exact hQ
structure EM (f : Fd) (g : V) (m0 : Mem) (gb rb ab B n t : Nat) (l : List (List Int)) (piv : List Int) (b : Nat → Nat) (x : Nat → Bool) (vp : V) (m' : Mem) : Prop where
  pre : Pre m0 m'
  G : At m' gb [g] 2
  R : At m' rb [.sl B 0 n n 1 true] 2
  A : At m' ab [.nils] 2
  ra : RA m0 [gb, rb, ab] m' B l b x
  mat : f.F.Mat l t
  len : l.length = n
  vpF : FreshA m0 m' vp piv
  off : Off vp gb ∧ Off vp rb ∧ Off vp ab ∧ Off vp B ∧ ∀ i, i < n → Off vp (b i)
structure Away (m0 : Mem) (gb rb ab B n : Nat) (b : Nat → Nat) (vp : V) (y : Nat) : Prop where
  m : m0.length ≤ y
  g : y ≠ gb
  r : y ≠ rb
  a : y ≠ ab
  B : y ≠ B
  b : ∀ i, i < n → y ≠ b i
  v : Off vp y
theorem FreshV.off {m0 m : Mem} {v : V} {cs : List V} (h : FreshV m0 m v cs) {y : Nat} (hy : m.length ≤ y) : Off v y := by
  rcases h with ⟨rfl, _⟩ | ⟨b, ex, rfl, _, h3⟩
  · exact Off.nils y
  · have := h3.lt
    exact Off.sl (by omega)
theorem FreshV.set_off {m0 m : Mem} {v : V} {cs : List V} (h : FreshV m0 m v cs) {y : Nat} (hy : Off v y) (k : Blk) : FreshV m0 (m.set y k) v cs := by
  rcases h with h | ⟨b, ex, rfl, h2, h3⟩
  · exact .inl h
  · refine .inr ⟨b, ex, rfl, h2, At.set_ne h3 ?_⟩
    rintro rfl
    exact hy _ _ _ _ _ rfl
section
variable {f : Fd} {g : V} {m0 : Mem} {gb rb ab B n t : Nat} {l : List (List Int)} {piv : List Int} {b : Nat → Nat} {x : Nat → Bool} {vp : V} {m' : Mem} (h : EM f g m0 gb rb ab B n t l piv b x vp m')
include h
theorem EM.app (gg : Mem) : EM f g m0 gb rb ab B n t l piv b x vp (m' ++ gg) := ⟨h.pre.app gg, At.app h.G _, At.app h.R _, At.app h.A _, h.ra.app gg, h.mat, h.len, h.vpF.app gg, h.off⟩
theorem EM.new {y : Nat} (hy : m'.length ≤ y) : Away m0 gb rb ab B n b vp y := by
  have h1 := h.G.lt; have h2 := h.R.lt; have h3 := h.A.lt; have h4 := h.pre.len
  have h5 := h.ra.new hy
  rw [h.len] at h5
  exact ⟨by omega, by omega, by omega, by omega, h5.1, h5.2, h.vpF.off hy⟩
theorem EM.set {y : Nat} (hy : Away m0 gb rb ab B n b vp y) (k : Blk) : EM f g m0 gb rb ab B n t l piv b x vp (m'.set y k) :=
  ⟨h.pre.set hy.m k, At.set_ne h.G hy.g, At.set_ne h.R hy.r, At.set_ne h.A hy.a, h.ra.off hy.B (by rw [h.len]; exact hy.b) k, h.mat, h.len, h.vpF.set_off hy.v k, h.off⟩
theorem EM.BA : B ≠ gb ∧ B ≠ rb ∧ B ≠ ab := by
  have := h.ra.BA
  simp at this
  exact this
theorem EM.bA {i : Nat} (hi : i < n) : b i ≠ gb ∧ b i ≠ rb ∧ b i ≠ ab := by
  have := (h.ra.row i (by rw [h.len]; exact hi)).2.2.1
  simp at this
  exact this
theorem EM.swap {i k : Nat} (hi : i < n) (hk : k < n) : EM f g m0 gb rb ab B n t (swapL l i k) piv (sw i k b) (sw i k x) vp (m'.set B ⟨rcells (swapL l i k) (sw i k b) (sw i k x), 2⟩) := by
  obtain ⟨b1, b2, b3⟩ := h.BA
  have hi' : i < l.length := by rw [h.len]; exact hi
  have hk' : k < l.length := by rw [h.len]; exact hk
  refine ⟨h.pre.set h.ra.B0 _, At.set_ne h.G b1, At.set_ne h.R b2, At.set_ne h.A b3, h.ra.swap hi' hk', Mat_swap h.mat hi' hk', by rw [swapL_len, h.len], h.vpF.set_off h.off.2.2.2.1 _, h.off.1, h.off.2.1, h.off.2.2.1, h.off.2.2.2.1, fun j hj => ?_⟩
  simp only [sw]
  split
  · exact h.off.2.2.2.2 k hk
  · split
    · exact h.off.2.2.2.2 i hi
    · exact h.off.2.2.2.2 j hj
theorem EM.put {i : Nat} {v : List Int} {ex : Bool} (hi : i < n) (hl : v.length = t) (hE : ∀ j, f.F.E (v.getD j 0)) :
    EM f g m0 gb rb ab B n t (l.set i v) piv (fun j => if j = i then m'.length else b j) (fun j => if j = i then ex else x j) vp (List.set (m' ++ [⟨v.map I, 2⟩] : Mem) B ⟨(rcells l b x).set i (.sl m'.length 0 v.length v.length 1 ex), 2⟩) := by
  obtain ⟨b1, b2, b3⟩ := h.BA
  have hi' : i < l.length := by rw [h.len]; exact hi
  have h2 := h.app [⟨v.map I, 2⟩]
  have hn := h.new (Nat.le_refl m'.length)
  refine ⟨h2.pre.set h.ra.B0 _, At.set_ne h2.G b1, At.set_ne h2.R b2, At.set_ne h2.A b3, h2.ra.put hi' hn.m hn.B (by have := hn.g; have := hn.r; have := hn.a; simp; omega) (by rw [h.len]; exact hn.b) (At.new1 _ _ _), Mat_set h.mat hi' hl hE, by rw [List.length_set, h.len], h2.vpF.set_off h.off.2.2.2.1 _, h.off.1, h.off.2.1, h.off.2.2.1, h.off.2.2.2.1, fun j hj => ?_⟩
  by_cases e : j = i
  · simp only [e, if_true]; exact hn.v
  · simp only [e, if_false]; exact h.off.2.2.2.2 j hj
theorem EM.mod {i : Nat} {v : List Int} (hi : i < n) (hl : v.length = t) (hE : ∀ j, f.F.E (v.getD j 0)) : EM f g m0 gb rb ab B n t (l.set i v) piv b x vp (m'.set (b i) ⟨v.map I, 2⟩) := by
  obtain ⟨b1, b2, b3⟩ := h.bA hi
  have hi' : i < l.length := by rw [h.len]; exact hi
  exact ⟨h.pre.set (h.ra.row i hi').1 _, At.set_ne h.G b1, At.set_ne h.R b2, At.set_ne h.A b3, h.ra.mod hi' (by rw [hl, h.mat.len i hi']), Mat_set h.mat hi' hl hE, by rw [List.length_set, h.len], h.vpF.set_off (h.off.2.2.2.2 i hi) _, h.off⟩
end
end Go.Proofs.YtefjnnghfloddaaGreat.Abs

/- Specifications: the program's elimination, as a whole. -/
namespace Go.Proofs.YtefjnnghfloddaaGreat.Abs
set_option linter.unusedVariables false
set_option linter.unusedSimpArgs false
set_option linter.unusedSectionVars false
open Ff
theorem box_cell {v : V} (h : v.isCell = true) (m : Mem) : opBox v m = some (.ptr m.length 0, m ++ [⟨[v], 2⟩]) := by
  have : v.cells = [v] := by cases v <;> simp [V.cells, V.isCell] at h ⊢
  simp [opBox, this, h]
theorem RA.avoid {m0 m : Mem} {A A' : List Nat} {B : Nat} {l : List (List Int)} {b : Nat → Nat} {x : Nat → Bool} (h : RA m0 A m B l b x) (hA : ∀ y, y ∈ A' → y ≠ B ∧ ∀ i, i < l.length → y ≠ b i) : RA m0 A' m B l b x :=
  ⟨h.B0, fun hm => (hA B hm).1 rfl, h.at_, fun i hi => ⟨(h.row i hi).1, (h.row i hi).2.1, fun hm => (hA _ hm).2 i hi rfl, (h.row i hi).2.2.2⟩, h.inj⟩
structure ES (t gb rb ab : Nat) (vp : V) (c : Nat) (e : Env) : Prop where
  e2 : e 2 = I t
  e4 : e 4 = .ptr gb 0
  e5 : e 5 = .ptr rb 0
  e11 : e 11 = .fn 163 [] [.ptr rb 0, .ptr ab 0]
  e12 : e 12 = vp
  e13 : e 13 = I c
structure FpI (t gb rb ab : Nat) (vp : V) (c : Nat) (det : Int) (l : List (List Int)) (at_ : Nat) (M1 : Mem) (k : Nat) (e : Env) (m' : Mem) : Prop where
  d : ∃ j : Nat, ES t gb rb ab vp c e ∧ e 10 = I det ∧ e 14 = .ptr M1.length 0 ∧ e 15 = .ptr (M1.length + 1) 0 ∧ at_ ≤ j ∧ j ≤ l.length ∧ l.length - j = k ∧ (∀ i, at_ ≤ i → i < j → en l i c = 0) ∧ m' = M1 ++ [⟨[I at_], 2⟩, ⟨[I j], 2⟩]
theorem findPivot_W {f : Fd} {g : V} {m0 M1 : Mem} {gb rb ab B n t c at_ : Nat} {det : Int} {l : List (List Int)} {piv : List Int} {b : Nat → Nat} {x : Nat → Bool} {vp : V} {e : Env} {Q : Ex → Env → Mem → Prop}
    (h : EM f g m0 gb rb ab B n t l piv b x vp M1) (hn : n ≤ 256) (hc : c < t) (hat : at_ ≤ n) (hS : ES t gb rb ab vp c e) (e10 : e 10 = I det) (e14 : e 14 = .ptr M1.length 0) (e15 : e 15 = .ptr (M1.length + 1) 0)
    (hQ : ∀ (e' : Env) (j : Nat), ES t gb rb ab vp c e' → e' 10 = I det → e' 14 = .ptr M1.length 0 → e' 15 = .ptr (M1.length + 1) 0 → ((j = n ∧ ∀ i, at_ ≤ i → i < n → en l i c = 0) ∨ First (fun k => en l k c ≠ 0) at_ n j) → Q (.exit 2) e' (M1 ++ [⟨[I at_], 2⟩, ⟨[I j], 2⟩])) :
    W (loopD (l147_10 DD) e (M1 ++ [⟨[I at_], 2⟩, ⟨[I at_], 2⟩])) Q := by
  have hlen := h.len
  refine W_loop (FpI t gb rb ab vp c det l at_ M1) ?_ (l.length - at_) _ _ ⟨⟨at_, hS, e10, e14, e15, Nat.le_refl _, by omega, rfl, fun i h1 h2 => by omega, rfl⟩⟩
  rintro k e m' ⟨⟨j, hS, e10, e14, e15, hj0, hj, hk, hall, rfl⟩⟩
  have h2 := h.app [⟨[I at_], 2⟩, ⟨[I j], 2⟩]
  have lR := lc_cell h2.R (by omega)
  have lk : lc (M1 ++ [⟨[I at_], 2⟩, ⟨[I j], 2⟩]) (M1.length + 1) 0 = some (I j) := by simp
  by_cases hlt : j < n
  · have hjl : j < l.length := by omega
    have i1 := ia25 (b := B) (o := 0) (n := n) (c := n) (ex := true) (ix := (j : Int)) (by omega) (by omega)
    simp only [Int.toNat_natCast, Nat.zero_add] at i1
    have i2 := ia22 (b := b j) (o := 0) (n := (rw_ l j).length) (c := (rw_ l j).length) (ex := x j) (ix := (c : Int)) (by omega) (by rw [h.mat.len j hjl]; omega)
    simp only [Int.toNat_natCast, Nat.zero_add] at i2
    have l2 : lc (M1 ++ [⟨[I at_], 2⟩, ⟨[I j], 2⟩]) (b j) c = some (I (en l j c)) := lc_ints (h2.ra.row j hjl).2.2.2 (by omega) (by rw [h.mat.len j hjl]; omega)
    have l1 := h2.ra.lc hjl
    rw [rsl] at l1
    have w1 : IntKind.i64.wrap ((j : Int) + 1) = (j + 1 : Nat) := by rw [wrap64_in (by omega) (by omega)]; omega
    by_cases h0 : en l j c = 0
    · simp [l147_10, r147_0, r147_1, r147_2, r147_3, r147_4, r147_5, r147_6, r147_7, r147_8, r147_9, r147_11, r147_12, r147_13, r147_14, r147_15, r147_16, r147_17, r147_18, r147_19, r147_20, r147_21, r147_22, r147_23, r147_24, r147_25, r147_27, r147_28, r147_30, c147, hS.e5, hS.e13, e14, e15, lR, lk, hlt, i1, i2, l1, l2, h0, w1, -Int.natCast_add, -List.map_set, -lc_app, -la_app]
      refine ⟨l.length - (j + 1), by omega, ⟨j + 1, ⟨by simp [hS.e2], by simp [hS.e4], by simp [hS.e5], by simp [hS.e11], by simp [hS.e12], by simp [hS.e13]⟩, by simp [e10], by simp [e14], by simp [e15], by omega, by omega, rfl, fun i h3 h4 => ?_, by simp⟩⟩
      by_cases e : i = j
      · subst e; exact h0
      · exact hall i h3 (by omega)
    · simp [l147_10, r147_0, r147_1, r147_2, r147_3, r147_4, r147_5, r147_6, r147_7, r147_8, r147_9, r147_11, r147_12, r147_13, r147_14, r147_15, r147_16, r147_17, r147_18, r147_19, r147_20, r147_21, r147_22, r147_23, r147_24, r147_25, r147_27, r147_28, r147_30, c147, hS.e5, hS.e13, e14, e15, lR, lk, hlt, i1, i2, l1, l2, h0, w1, -Int.natCast_add, -List.map_set, -lc_app, -la_app]
      exact hQ _ j ⟨by simp [hS.e2], by simp [hS.e4], by simp [hS.e5], by simp [hS.e11], by simp [hS.e12], by simp [hS.e13]⟩ (by simp [e10]) (by simp [e14]) (by simp [e15]) (.inr ⟨hj0, hlt, h0, fun i h3 h4 => by simpa using hall i h3 h4⟩)
  · have hjn : j = n := by omega
    subst hjn
    simp [l147_10, r147_0, r147_1, r147_2, r147_3, r147_4, r147_5, r147_6, r147_7, r147_8, r147_9, r147_11, r147_12, r147_13, r147_14, r147_15, r147_16, r147_17, r147_18, r147_19, r147_20, r147_21, r147_22, r147_23, r147_24, r147_25, r147_27, r147_28, r147_30, c147, hS.e5, hS.e13, e14, e15, lR, lk, -lc_app, -la_app]
    exact hQ _ j ⟨by simp [hS.e2], by simp [hS.e4], by simp [hS.e5], by simp [hS.e11], by simp [hS.e12], by simp [hS.e13]⟩ (by simp [e10]) (by simp [e14]) (by simp [e15]) (.inl ⟨rfl, hall⟩)
structure ClI (f : Fd) (g : V) (m0 : Mem) (gb rb ab B n t : Nat) (vp : V) (c : Nat) (det : Int) (piv : List Int) (l : List (List Int)) (at_ ca : Nat) (k : Nat) (e : Env) (m' : Mem) : Prop where
  d : ∃ (i : Nat) (b : Nat → Nat) (x : Nat → Bool), ES t gb rb ab vp c e ∧ e 10 = I det ∧ e 14 = .ptr ca 0 ∧ e 97 = I n ∧ e 98 = I i ∧ i ≤ n ∧ n - i = k ∧ EM f g m0 gb rb ab B n t (f.F.clr l at_ c i) piv b x vp m' ∧ At m' ca [I at_] 2 ∧ Away m0 gb rb ab B n b vp ca
theorem clear_W {f : Fd} {g : V} {m0 M1 : Mem} {gb rb ab B n t c at_ ca : Nat} {det : Int} {l : List (List Int)} {piv : List Int} {b : Nat → Nat} {x : Nat → Bool} {vp : V} {e : Env} {Q : Ex → Env → Mem → Prop}
    (hg : GFAt m0 g f) (h : EM f g m0 gb rb ab B n t l piv b x vp M1) (hn : n ≤ 256) (htb : t ≤ 256) (hc : c < t) (hat : at_ < n) (hS : ES t gb rb ab vp c e) (e10 : e 10 = I det) (e14 : e 14 = .ptr ca 0) (e97 : e 97 = I n) (e98 : e 98 = I 0) (ha : At M1 ca [I at_] 2) (haw : Away m0 gb rb ab B n b vp ca)
    (hQ : ∀ (e' : Env) (m' : Mem) (b : Nat → Nat) (x : Nat → Bool), ES t gb rb ab vp c e' → e' 10 = I det → EM f g m0 gb rb ab B n t (f.F.clr l at_ c n) piv b x vp m' → Q (.exit 4) e' m') :
    W (loopD (l147_26 DD) e M1) Q := by
  have hlen := h.len
  refine W_loop (ClI f g m0 gb rb ab B n t vp c det piv l at_ ca) ?_ n _ _ ⟨⟨0, b, x, hS, e10, e14, e97, by simpa using e98, by omega, by omega, by rw [clr_0]; exact h, ha, haw⟩⟩
  have hM0 := h.mat
  clear h ha haw e98 hS e10 e14 e97
  rintro k e m' ⟨⟨i, b, x, hS, e10, e14, e97, e98, hi, hk, h, ha, haw⟩⟩
  by_cases hlt : i < n
  · have hil : i < l.length := by omega
    have hil' : i < (f.F.clr l at_ c i).length := by rw [clr_len]; exact hil
    have hal' : at_ < (f.F.clr l at_ c i).length := by rw [clr_len]; omega
    have ri : rw_ (f.F.clr l at_ c i) i = rw_ l i := clr_row _ _ _ _ _ _ hil (.inl (Nat.le_refl _))
    have ra : rw_ (f.F.clr l at_ c i) at_ = rw_ l at_ := clr_row _ _ _ _ _ _ (by omega) (.inr rfl)
    have w1 : IntKind.i64.wrap ((i : Int) + 1) = (i + 1 : Nat) := by rw [wrap64_in (by omega) (by omega)]; omega
    have h2 := h.app [⟨[I i], 2⟩]
    have h3 := h2.app [⟨[I (en l i c)], 2⟩]
    have lR := lc_cell h2.R (by omega)
    have i1 := ia25 (b := B) (o := 0) (n := n) (c := n) (ex := true) (ix := (i : Int)) (by omega) (by omega)
    simp only [Int.toNat_natCast, Nat.zero_add] at i1
    have l1 := h2.ra.lc hil'
    rw [rsl, ri, hM0.len i hil] at l1
    have i2 := ia22 (b := b i) (o := 0) (n := t) (c := t) (ex := x i) (ix := (c : Int)) (by omega) (by omega)
    simp only [Int.toNat_natCast, Nat.zero_add] at i2
    have l2 : lc (m' ++ [⟨[I i], 2⟩]) (b i) c = some (I (en l i c)) := by
      have := lc_ints (o := c) (h2.ra.row i hil').2.2.2 (by omega) (by rw [ri, hM0.len i hil]; omega)
      rw [ri] at this; exact this
    have hmm : (m' ++ [⟨[I (i : Nat)], 2⟩] : Mem) ++ ([⟨[I (en l i c)], 2⟩] : Mem) = m' ++ [⟨[I (i : Nat)], 2⟩, ⟨[I (en l i c)], 2⟩] := by simp
    rw [hmm] at h3
    have la := lc_cell (At.app ha [⟨[I (i : Nat)], 2⟩, ⟨[I (en l i c)], 2⟩]) (by omega)
    have hnext : ∀ e' : Env, ES t gb rb ab vp c e' → e' 10 = I det → e' 14 = .ptr ca 0 → e' 97 = I n → e' 98 = I (i + 1 : Nat) → ∀ m2 b x, EM f g m0 gb rb ab B n t (f.F.clr l at_ c (i + 1)) piv b x vp m2 → At m2 ca [I at_] 2 → Away m0 gb rb ab B n b vp ca → ∃ k', k' < k ∧ ClI f g m0 gb rb ab B n t vp c det piv l at_ ca k' e' m2 := by
      intro e' g1 g2 g3 g4 g5 m2 b x g6 g7 g8
      exact ⟨n - (i + 1), by omega, ⟨i + 1, b, x, g1, g2, g3, g4, g5, by omega, rfl, g6, g7, g8⟩⟩
    by_cases hcond : i ≠ at_ ∧ en l i c ≠ 0
    · have hcs := clr_step f.F l at_ c i hil
      rw [if_pos hcond] at hcs
      have hne : ¬ ((i : Int) = at_) := by omega
      simp [l147_26, r147_0, r147_1, r147_2, r147_3, r147_4, r147_5, r147_6, r147_7, r147_8, r147_9, r147_11, r147_12, r147_13, r147_14, r147_15, r147_16, r147_17, r147_18, r147_19, r147_20, r147_21, r147_22, r147_23, r147_24, r147_25, r147_27, r147_28, r147_30, c147, hS.e4, hS.e5, hS.e11, hS.e13, e14, e97, e98, hlt, lR, i1, l1, i2, l2, la, hne, hcond.2, hcond.1, w1, -Int.natCast_add]
      refine WR_bnd (each_wv (rb := rb) (ab := ab) h3.R ?_)
      have hmod := h3.mod (v := f.F.rowAdd (rw_ l i) (f.F.neg (en l i c)) (rw_ l at_)) hlt (by rw [rowAdd_len, hM0.len i hil]) (rowAdd_E hg.ok.F (hM0.el i))
      rw [← hcs] at hmod
      have key := @elim_add_wv f g m0 (m' ++ [⟨[I (i : Nat)], 2⟩, ⟨[I (en l i c)], 2⟩]) [gb, rb, ab] B at_ i ca m'.length (m'.length + 1) gb t (f.F.clr l at_ c i) b x true (en l i c)
      rw [clr_len, hlen] at key
      refine key hg h3.pre h3.ra h3.mat (by omega) (by omega) hcond.1 h3.G (At.app ha _) (by simp [At]) (by simp [At]) (hM0.el i c) (by omega) (by omega) ?_
      rw [ri, ra]
      refine ⟨hmod.A, ?_⟩
      simp [e98, w1, -Int.natCast_add]
      refine hnext _ ?_ ?_ ?_ ?_ ?_ _ b x (hmod) (At.set_ne (At.app ha _) (haw.b i hlt).symm) haw
      · exact ⟨by simp [hS.e2], by simp [hS.e4], by simp [hS.e5], by simp [hS.e11], by simp [hS.e12], by simp [hS.e13]⟩
      · simp [e10]
      · simp [e14]
      · simp [e97]
      · simp [-Int.natCast_add]
    · have hcs := clr_step f.F l at_ c i hil
      rw [if_neg hcond] at hcs
      rw [← hcs] at h3
      by_cases hia : i = at_
      · subst hia
        simp [l147_26, r147_0, r147_1, r147_2, r147_3, r147_4, r147_5, r147_6, r147_7, r147_8, r147_9, r147_11, r147_12, r147_13, r147_14, r147_15, r147_16, r147_17, r147_18, r147_19, r147_20, r147_21, r147_22, r147_23, r147_24, r147_25, r147_27, r147_28, r147_30, c147, hS.e4, hS.e5, hS.e11, hS.e13, e14, e97, e98, hlt, lR, i1, l1, i2, l2, la, w1, -Int.natCast_add]
        refine hnext _ ?_ ?_ ?_ ?_ ?_ _ b x (h3) (At.app ha _) haw
        · exact ⟨by simp [hS.e2], by simp [hS.e4], by simp [hS.e5], by simp [hS.e11], by simp [hS.e12], by simp [hS.e13]⟩
        · simp [e10]
        · simp [e14]
        · simp [e97]
        · simp [-Int.natCast_add]
      · have h0 : en l i c = 0 := Classical.byContradiction fun hh => hcond ⟨hia, hh⟩
        have hne : ¬ ((i : Int) = at_) := by omega
        rw [h0] at h3 la l2
        simp [l147_26, r147_0, r147_1, r147_2, r147_3, r147_4, r147_5, r147_6, r147_7, r147_8, r147_9, r147_11, r147_12, r147_13, r147_14, r147_15, r147_16, r147_17, r147_18, r147_19, r147_20, r147_21, r147_22, r147_23, r147_24, r147_25, r147_27, r147_28, r147_30, c147, hS.e4, hS.e5, hS.e11, hS.e13, e14, e97, e98, hlt, lR, i1, l1, i2, l2, la, hne, hia, w1, -Int.natCast_add]
        refine hnext _ ?_ ?_ ?_ ?_ ?_ _ b x (h3) (At.app ha _) haw
        · exact ⟨by simp [hS.e2], by simp [hS.e4], by simp [hS.e5], by simp [hS.e11], by simp [hS.e12], by simp [hS.e13]⟩
        · simp [e10]
        · simp [e14]
        · simp [e97]
        · simp [-Int.natCast_add]
  · have hin : i = n := by omega
    subst hin
    simp [l147_26, r147_0, r147_1, r147_2, r147_3, r147_4, r147_5, r147_6, r147_7, r147_8, r147_9, r147_11, r147_12, r147_13, r147_14, r147_15, r147_16, r147_17, r147_18, r147_19, r147_20, r147_21, r147_22, r147_23, r147_24, r147_25, r147_27, r147_28, r147_30, c147, e97, e98]
    exact hQ _ m' b x ⟨by simp [hS.e2], by simp [hS.e4], by simp [hS.e5], by simp [hS.e11], by simp [hS.e12], by simp [hS.e13]⟩ (by simp [e10]) h
end Go.Proofs.YtefjnnghfloddaaGreat.Abs

/- Specifications: the program's elimination and its canonical rows. -/
namespace Go.Proofs.YtefjnnghfloddaaGreat.Abs
set_option linter.unusedVariables false
set_option linter.unusedSimpArgs false
set_option linter.unusedSectionVars false
open Ff
theorem EM.append {f : Fd} {g : V} {m0 : Mem} {gb rb ab B n t : Nat} {l : List (List Int)} {piv : List Int} {b : Nat → Nat} {x : Nat → Bool} {vp : V} {m' : Mem} (h : EM f g m0 gb rb ab B n t l piv b x vp m') (c : Int) (hl : piv.length < 1000000000) :
    ∃ v' m'', opAppend T 22 22 vp (.sl m'.length 0 1 1 1 true) (m' ++ [⟨[I c], 2⟩]) = some (v', m'') ∧ EM f g m0 gb rb ab B n t l (piv ++ [c]) b x v' m'' := by
  obtain ⟨v', m'', a1, a2, a3, a4, a5, a6⟩ := append22 (x := c) h.vpF h.pre hl
  obtain ⟨o1, o2, o3, o4, o5⟩ := h.off
  have hBl := h.ra.at_.lt
  refine ⟨v', m'', a1, a3, a5 _ _ o1 h.G, a5 _ _ o2 h.R, a5 _ _ o3 h.A, ⟨h.ra.B0, h.ra.BA, a5 _ _ o4 h.ra.at_, fun i hi => ?_, h.ra.inj⟩, h.mat, h.len, a2, a6 _ h.G.lt o1, a6 _ h.R.lt o2, a6 _ h.A.lt o3, a6 _ hBl o4, fun i hi => ?_⟩
  · have := h.ra.row i hi
    exact ⟨this.1, this.2.1, this.2.2.1, a5 _ _ (o5 i (by rw [← h.len]; exact hi)) this.2.2.2⟩
  · exact a6 _ (h.ra.row i (by rw [h.len]; exact hi)).2.2.2.lt (o5 i hi)
noncomputable def clearR : Run := (sq (sq (rg (r147_19 DD)) (blk 4 (loopD (l147_26 DD)))) (rg (r147_27 DD)))
noncomputable def restR : Run := (sq (rg (r147_15 DD)) (sq (sq (rg (r147_16 DD)) (sq (rg (r147_17 DD)) (cnd (fun e => some (e 92)) (rg (r147_18 DD)) sk))) clearR))
theorem l29_eq : l147_29 DD = (sq (sq (rg (r147_5 DD)) (cnd (fun e => some (e 30)) sk (exi 0))) (sq (blk 1 (sq (rg (r147_6 DD)) (sq (rg (r147_7 DD)) (sq (blk 2 (loopD (l147_10 DD))) (sq (sq (rg (r147_11 DD)) (cnd (fun e => some (e 55)) (exi 1) sk)) (sq (sq (rg (r147_12 DD)) (cnd (fun e => some (e 58)) (sq (rg (r147_13 DD)) (rg (r147_14 DD))) sk)) restR)))))) (rg (r147_28 DD)))) := rfl
theorem rest_W {f : Fd} {g : V} {m0 m1 : Mem} {gb rb ab B n t c at_ ca : Nat} {det : Int} {l : List (List Int)} {piv : List Int} {b : Nat → Nat} {x : Nat → Bool} {vp : V} {e : Env} {Q : Ex → Env → Mem → Prop}
    (hg : GFAt m0 g f) (h : EM f g m0 gb rb ab B n t l piv b x vp m1) (hn : n ≤ 256) (htb : t ≤ 256) (hc : c < t) (hat : at_ < n) (hpv : piv.length ≤ 1000) (hne : en l at_ c ≠ 0) (hS : ES t gb rb ab vp c e) (e10 : e 10 = I det) (hdet : f.F.E det) (e14 : e 14 = .ptr ca 0) (ha : At m1 ca [I at_] 2) (haw : Away m0 gb rb ab B n b vp ca)
    (hQ : ∀ (e' : Env) (m' : Mem) (b : Nat → Nat) (x : Nat → Bool) (vp' : V) (det' : Int), ES t gb rb ab vp' c e' → e' 10 = I det' → f.F.E det' → EM f g m0 gb rb ab B n t (f.F.clr (l.set at_ (f.F.nrm (rw_ l at_) c)) at_ c n) (piv ++ [(c : Int)]) b x vp' m' → Q .normal e' m') :
    W (restR e m1) Q := by
  have hF := hg.ok.F
  have hlen := h.len
  have hal : at_ < l.length := by omega
  have lG := lc_cell h.G (by omega)
  have lR := lc_cell h.R (by omega)
  have la := lc_cell ha (by omega)
  have i1 := ia25 (b := B) (o := 0) (n := n) (c := n) (ex := true) (ix := (at_ : Int)) (by omega) (by omega)
  simp only [Int.toNat_natCast, Nat.zero_add] at i1
  have l1 := h.ra.lc hal
  rw [rsl, h.mat.len at_ hal] at l1
  have i2 := ia22 (b := b at_) (o := 0) (n := t) (c := t) (ex := x at_) (ix := (c : Int)) (by omega) (by omega)
  simp only [Int.toNat_natCast, Nat.zero_add] at i2
  have l2 : lc m1 (b at_) c = some (I (en l at_ c)) := lc_ints (o := c) (h.ra.row at_ hal).2.2.2 (by omega) (by rw [h.mat.len at_ hal]; omega)
  have hxE := h.mat.el at_ c
  simp [restR, r147_0, r147_1, r147_2, r147_3, r147_4, r147_5, r147_6, r147_7, r147_8, r147_9, r147_11, r147_12, r147_13, r147_14, r147_15, r147_16, r147_17, r147_18, r147_19, r147_20, r147_21, r147_22, r147_23, r147_24, r147_25, r147_27, r147_28, r147_30, c147, hS.e4, hS.e5, hS.e13, e10, e14, lG, lR, la, i1, l1, i2, l2]
  refine WR_bnd (mul_wv (hg.pre h.pre) hdet hxE ?_)
  simp [hS.e4, hS.e5, hS.e13, e10, e14, lG, lR, la, i1, l1, i2, l2]
  refine WR_bnd (inv_wv (hg.pre h.pre) hxE (fun h0 => (hne h0).elim) fun _ => ?_)
  have h2 := h.app [⟨[I (f.F.inv (en l at_ c))], 2⟩]
  have ha2 := At.app ha [⟨[I (f.F.inv (en l at_ c))], 2⟩]
  -- what the clearing needs
  have fin : ∀ (e' : Env) (m2 : Mem) (b : Nat → Nat) (x : Nat → Bool), ES t gb rb ab vp c e' → e' 10 = I (f.F.mul det (en l at_ c)) → e' 14 = .ptr ca 0 → EM f g m0 gb rb ab B n t (l.set at_ (f.F.nrm (rw_ l at_) c)) piv b x vp m2 → At m2 ca [I at_] 2 → Away m0 gb rb ab B n b vp ca →
      W (clearR e' m2) Q := by
    intro e' m2 b x hS e10 e14 h ha haw
    have lR := lc_cell h.R (by omega)
    simp [clearR, r147_0, r147_1, r147_2, r147_3, r147_4, r147_5, r147_6, r147_7, r147_8, r147_9, r147_11, r147_12, r147_13, r147_14, r147_15, r147_16, r147_17, r147_18, r147_19, r147_20, r147_21, r147_22, r147_23, r147_24, r147_25, r147_27, r147_28, r147_30, c147, hS.e5, lR]
    refine clear_W (det := f.F.mul det (en l at_ c)) hg h hn htb hc hat ?_ ?_ ?_ ?_ ?_ ha haw ?_
    · exact ⟨by simp [hS.e2], by simp [hS.e4], by simp [hS.e5], by simp [hS.e11], by simp [hS.e12], by simp [hS.e13]⟩
    · simp [e10]
    · simp [e14]
    · simp
    · simp
    intro e3 m3 b3 x3 hS3 e10 h3
    obtain ⟨v', m4, a1, h4⟩ := h3.append (c : Int) (by omega)
    simp [r147_0, r147_1, r147_2, r147_3, r147_4, r147_5, r147_6, r147_7, r147_8, r147_9, r147_11, r147_12, r147_13, r147_14, r147_15, r147_16, r147_17, r147_18, r147_19, r147_20, r147_21, r147_22, r147_23, r147_24, r147_25, r147_27, r147_28, r147_30, c147, hS3.e12, hS3.e13, lit22, a1]
    refine hQ _ m4 b3 x3 v' (f.F.mul det (en l at_ c)) ?_ ?_ hF.mulE h4
    · exact ⟨by simp [hS3.e2], by simp [hS3.e4], by simp [hS3.e5], by simp [hS3.e11], by simp, by simp [hS3.e13]⟩
    · simp [e10]
  by_cases h1 : f.F.inv (en l at_ c) = 1
  · have hx1 : en l at_ c = 1 := by
      have := hF.hi _ hxE hne
      rw [h1, hF.mul1 hxE] at this
      exact this
    have hnrm : l.set at_ (f.F.nrm (rw_ l at_) c) = l := by
      rw [nrm, if_pos (show (rw_ l at_).getD c 0 = 1 from hx1), set_rw l at_ hal]
    rw [hnrm] at fin
    rw [h1] at h2 ha2
    simp [h1]
    refine fin _ _ b x ?_ ?_ ?_ h2 ha2 haw
    · exact ⟨by simp [hS.e2], by simp [hS.e4], by simp [hS.e5], by simp [hS.e11], by simp [hS.e12], by simp [hS.e13]⟩
    · simp
    · simp [e14]
  · have hx1 : en l at_ c ≠ 1 := by
      intro he
      rw [he, hF.inv1] at h1
      exact h1 rfl
    have hnrm : f.F.nrm (rw_ l at_) c = f.F.rowScale (f.F.inv (en l at_ c)) (rw_ l at_) := by
      rw [nrm, if_neg (show ¬ (rw_ l at_).getD c 0 = 1 from hx1)]; rfl
    have hput := h2.put (i := at_) (v := f.F.rowScale (f.F.inv (en l at_ c)) (rw_ l at_)) (ex := true) hat (by rw [rowScale_len, h.mat.len at_ hal]) (by rw [← hnrm]; exact nrm_E hF (h.mat.el at_) c)
    rw [← hnrm] at hput
    have hkey := @elim_scale_wv f g m0 (m1 ++ [⟨[I (f.F.inv (en l at_ c))], 2⟩]) [gb, rb, ab] B at_ ca m1.length gb t l b x true (f.F.inv (en l at_ c))
    rw [hlen, ← hnrm] at hkey
    simp [h1, hS.e4, hS.e11, e14]
    refine WR_bnd (each_wv (rb := rb) (ab := ab) h2.R ?_)
    refine hkey hg h2.pre h2.ra h2.mat hat h2.G ha2 (At.new1 _ _ _) hF.invE (by omega) (by omega) ⟨hput.A, ?_⟩
    have hmm : (m1 ++ [⟨[I (f.F.inv (en l at_ c))], 2⟩] : Mem) ++ ([⟨(f.F.nrm (rw_ l at_) c).map I, 2⟩] : Mem) = m1 ++ [⟨[I (f.F.inv (en l at_ c))], 2⟩, ⟨(f.F.nrm (rw_ l at_) c).map I, 2⟩] := by simp
    have hml : (m1 ++ [⟨[I (f.F.inv (en l at_ c))], 2⟩] : Mem).length = m1.length + 1 := by simp
    have ha3 := At.app ha2 [⟨(f.F.nrm (rw_ l at_) c).map I, 2⟩]
    rw [hmm, hml, nrm_len] at hput
    rw [hmm] at ha3
    simp
    refine fin _ _ _ _ ?_ ?_ ?_ hput ?_ ?_
    · exact ⟨by simp [hS.e2], by simp [hS.e4], by simp [hS.e5], by simp [hS.e11], by simp [hS.e12], by simp [hS.e13]⟩
    · simp
    · simp [e14]
    · exact At.set_ne ha3 haw.B.symm
    · refine ⟨haw.m, haw.g, haw.r, haw.a, haw.B, fun i hi => ?_, haw.v⟩
      have hlt := ha2.lt
      by_cases e : i = at_
      · simp only [e, if_true]; omega
      · simp only [e, if_false]; exact haw.b i hi
structure ElI (f : Fd) (g : V) (m0 : Mem) (gb rb ab B n t : Nat) (R : List (List Int) × List Int) (k : Nat) (e : Env) (m' : Mem) : Prop where
  d : ∃ (c : Nat) (l : List (List Int)) (piv : List Int) (b : Nat → Nat) (x : Nat → Bool) (vp : V) (det : Int), ES t gb rb ab vp c e ∧ e 10 = I det ∧ f.F.E det ∧ c ≤ t ∧ t - c = k ∧ EM f g m0 gb rb ab B n t l piv b x vp m' ∧ f.F.elimGo (t - c) c l piv = R ∧ piv.length ≤ c
theorem eliminate_wv {f : Fd} {g : V} {m0 m : Mem} {B n t : Nat} {l : List (List Int)} {b : Nat → Nat} {x : Nat → Bool} {Q : V → Mem → Prop} (hg : GFAt m0 g f) (hp : Pre m0 m) (h : RA m0 [] m B l b x) (hM : f.F.Mat l t) (hln : l.length = n) (hn : n ≤ 256) (ht : t ≤ 256)
    (hQ : ∀ m' vp det b' x', Pre m0 m' → RA m0 [] m' B (f.F.elimGo t 0 l []).1 b' x' → f.F.Mat (f.F.elimGo t 0 l []).1 t → (f.F.elimGo t 0 l []).1.length = n → FreshA m0 m' vp (f.F.elimGo t 0 l []).2 → Q (.tup [vp, I det]) m') :
    WV (DD 147 [g, .sl B 0 n n 1 true, I t, .nils] m) Q := by
  have hF := hg.ok.F
  obtain ⟨gB, hgB⟩ : ∃ gB, g = .ptr gB 0 := by obtain ⟨_, b, _, _, _, _, _, h, _⟩ := hg; exact ⟨b, h⟩
  have hgc : g.isCell = true := by rw [hgB]; rfl
  rw [e147]
  refine WV_fin ?_
  have hboxes : (m ++ [⟨[g], 2⟩] : Mem) ++ ([⟨[.sl B 0 n n 1 true], 2⟩] : Mem) ++ ([⟨[.nils], 2⟩] : Mem) = m ++ [⟨[g], 2⟩, ⟨[.sl B 0 n n 1 true], 2⟩, ⟨[.nils], 2⟩] := by simp
  simp [r147_0, r147_1, r147_2, r147_3, r147_4, r147_5, r147_6, r147_7, r147_8, r147_9, r147_11, r147_12, r147_13, r147_14, r147_15, r147_16, r147_17, r147_18, r147_19, r147_20, r147_21, r147_22, r147_23, r147_24, r147_25, r147_27, r147_28, r147_30, c147, box_cell hgc, box_cell (v := .sl B 0 n n 1 true) rfl, box_cell (v := .nils) rfl]
  have hra : RA m0 [m.length, m.length + 1, m.length + 2] (m ++ [⟨[g], 2⟩, ⟨[.sl B 0 n n 1 true], 2⟩, ⟨[.nils], 2⟩]) B l b x := by
    refine (h.app _).avoid fun y hy => ?_
    refine h.new ?_
    simp at hy; omega
  have hEM : EM f g m0 m.length (m.length + 1) (m.length + 2) B n t l [] b x .nils (m ++ [⟨[g], 2⟩, ⟨[.sl B 0 n n 1 true], 2⟩, ⟨[.nils], 2⟩]) :=
    ⟨hp.app _, by simp [At], by simp [At], by simp [At], hra, hM, hln, .inl ⟨rfl, rfl⟩, Off.nils _, Off.nils _, Off.nils _, Off.nils _, fun i hi => Off.nils _⟩
  refine W_loop (ElI f g m0 m.length (m.length + 1) (m.length + 2) B n t (f.F.elimGo t 0 l [])) ?_ t _ _ ⟨⟨0, l, [], b, x, .nils, 1, ⟨by simp, by simp, by simp, by simp, by simp, by simp⟩, by simp, hF.oneE, by omega, by omega, hEM, rfl, by simp⟩⟩
  clear hEM hra
  generalize hR : f.F.elimGo t 0 l [] = R at *
  generalize m.length = gb at *
  clear h hM hln
  rintro k e m' ⟨⟨c, l, piv, b, x, vp, det, hS, e10, hdet, hc, hk, h, hR2, hpl⟩⟩
  have lR := lc_cell h.R (by omega)
  have hpvl := h.vpF.ints.len
  have fin : f.F.elimGo (t - c) c l piv = (l, piv) → Q (.tup [vp, I det]) m' := by
    intro he
    rw [he] at hR2
    subst hR2
    exact hQ m' vp det b x h.pre (h.ra.avoid (by simp)) h.mat h.len h.vpF
  by_cases hct : c < t
  · by_cases hpn : piv.length < n
    · have hlen := h.len
      have h1 := h.app [⟨[I piv.length], 2⟩, ⟨[I piv.length], 2⟩]
      have hgo : f.F.elimGo (t - c) c l piv = match findK l c piv.length with
          | none => f.F.elimGo (t - (c + 1)) (c + 1) l piv
          | some k => f.F.elimGo (t - (c + 1)) (c + 1) (f.F.elimAt l piv.length k c) (piv ++ [(c : Int)]) := by
        obtain ⟨d, hd⟩ : ∃ d, t - c = d + 1 := ⟨t - c - 1, by omega⟩
        rw [hd, elimGo, if_pos (by omega), show t - (c + 1) = d by omega]
        cases findK l c piv.length <;> rfl
      have wc : IntKind.i64.wrap ((c : Int) + 1) = (c + 1 : Nat) := by rw [wrap64_in (by omega) (by omega)]; omega
      simp [l29_eq, r147_0, r147_1, r147_2, r147_3, r147_4, r147_5, r147_6, r147_7, r147_8, r147_9, r147_11, r147_12, r147_13, r147_14, r147_15, r147_16, r147_17, r147_18, r147_19, r147_20, r147_21, r147_22, r147_23, r147_24, r147_25, r147_27, r147_28, r147_30, c147, hS.e2, hS.e5, hS.e12, hS.e13, lR, hpvl, hct, hpn]
      refine findPivot_W (det := det) h hn hct (by omega) ?_ ?_ ?_ ?_ ?_
      · exact ⟨by simp [hS.e2], by simp [hS.e4], by simp [hS.e5], by simp [hS.e11], by simp [hS.e12], by simp [hS.e13]⟩
      · simp [e10]
      · simp
      · simp
      intro e' j hS' e10' e14' e15' hj
      have h3 := h.app [⟨[I piv.length], 2⟩, ⟨[I j], 2⟩]
      have lR3 := lc_cell h3.R (by omega)
      rcases hj with ⟨rfl, hno⟩ | hfirst
      · have hnone : findK l c piv.length = none := findK_none (fun k h1 h2 => hno k h1 (by omega))
        rw [hnone] at hgo
        have l0 := h.len
        simp [hS'.e5, hS'.e13, e14', e15', lR3, wc, r147_0, r147_1, r147_2, r147_3, r147_4, r147_5, r147_6, r147_7, r147_8, r147_9, r147_11, r147_12, r147_13, r147_14, r147_15, r147_16, r147_17, r147_18, r147_19, r147_20, r147_21, r147_22, r147_23, r147_24, r147_25, r147_27, r147_28, r147_30, c147, -Int.natCast_add]
        refine ⟨t - (c + 1), by omega, ⟨c + 1, l, piv, b, x, vp, det, ?_, ?_, hdet, by omega, rfl, h3, ?_, by omega⟩⟩
        · exact ⟨by simp [hS'.e2], by simp [hS'.e4], by simp [hS'.e5], by simp [hS'.e11], by simp [hS'.e12], by simp [-Int.natCast_add]⟩
        · simp [e10']
        · rw [hgo] at hR2; exact hR2
      · have hk : findK l c piv.length = some j := findK_some (by rw [hlen]; exact hfirst)
        rw [hk] at hgo
        obtain ⟨f1, f2, f3, f4⟩ := hfirst
        have hjn : ¬ (j : Int) = n := by omega
        have hsw0 : en (swapL l piv.length j) piv.length c ≠ 0 := by
          rw [en, rw_swap (by omega) (by omega), if_pos rfl]; exact f3
        have haw := h.new (Nat.le_refl m'.length)
        have haw2 := h.new (show m'.length ≤ m'.length + 1 by omega)
        have hat3 : At (m' ++ [⟨[I piv.length], 2⟩, ⟨[I j], 2⟩]) m'.length [I piv.length] 2 := by simp [At]
        have hat4 : At (m' ++ [⟨[I piv.length], 2⟩, ⟨[I j], 2⟩]) (m'.length + 1) [I j] 2 := by simp [At]
        -- behind the exchange
        have fin2 : ∀ (e' : Env) (m2 : Mem) (b : Nat → Nat) (x : Nat → Bool) (det : Int), ES t gb (gb + 1) (gb + 2) vp c e' → e' 10 = I det → f.F.E det → e' 14 = .ptr m'.length 0 → EM f g m0 gb (gb + 1) (gb + 2) B n t (swapL l piv.length j) piv b x vp m2 → At m2 m'.length [I piv.length] 2 → Away m0 gb (gb + 1) (gb + 2) B n b vp m'.length →
            W (restR e' m2) (inB 1 (nx (rg (r147_28 DD)) fun x e' m' => match x with | .normal => ∃ k', k' < k ∧ ElI f g m0 gb (gb + 1) (gb + 2) B n t R k' e' m' | x => (inB 0 (nx (sq (rg (r147_30 DD)) rt) fun x e m' => (match x with | Ex.exit id => False | x => True) ∧ Q (packV [e 8, e 9]) m')) x e' m')) := by
          intro e3 m2 b x det hS3 e10 hd e14 h4 ha4 haw4
          refine rest_W hg h4 hn ht hct hpn (by omega) hsw0 hS3 e10 hd e14 ha4 haw4 ?_
          intro e5 m5 b5 x5 vp5 det5 hS5 e10 hd5 h5
          simp [r147_0, r147_1, r147_2, r147_3, r147_4, r147_5, r147_6, r147_7, r147_8, r147_9, r147_11, r147_12, r147_13, r147_14, r147_15, r147_16, r147_17, r147_18, r147_19, r147_20, r147_21, r147_22, r147_23, r147_24, r147_25, r147_27, r147_28, r147_30, c147, hS5.e13, wc, -Int.natCast_add]
          refine ⟨t - (c + 1), by omega, ⟨c + 1, _, _, b5, x5, vp5, det5, ?_, ?_, hd5, by omega, rfl, h5, ?_, by simp; omega⟩⟩
          · exact ⟨by simp [hS5.e2], by simp [hS5.e4], by simp [hS5.e5], by simp [hS5.e11], by simp [hS5.e12], by simp [-Int.natCast_add]⟩
          · simp [e10]
          · have e0 : f.F.elimAt l piv.length j c = f.F.clr ((swapL l piv.length j).set piv.length (f.F.nrm (rw_ (swapL l piv.length j) piv.length) c)) piv.length c n := by
              rw [← hlen]; rfl
            rw [← e0, ← hR2, hgo]
        by_cases hja : j = piv.length
        · have hb : ((j : Int) != (piv.length : Int)) = false := by simp [hja]
          have hsl : swapL l piv.length j = l := by rw [hja]; exact swapL_self l _ (by omega)
          rw [hsl] at fin2
          simp [hS'.e5, hS'.e13, e14', e15', lR3, wc, hjn, hb, r147_0, r147_1, r147_2, r147_3, r147_4, r147_5, r147_6, r147_7, r147_8, r147_9, r147_11, r147_12, r147_13, r147_14, r147_15, r147_16, r147_17, r147_18, r147_19, r147_20, r147_21, r147_22, r147_23, r147_24, r147_25, r147_27, r147_28, r147_30, c147, -Int.natCast_add]
          refine fin2 _ _ b x det ?_ ?_ hdet ?_ h3 hat3 haw
          · exact ⟨by simp [hS'.e2], by simp [hS'.e4], by simp [hS'.e5], by simp [hS'.e11], by simp [hS'.e12], by simp [hS'.e13]⟩
          · simp [e10']
          · simp [e14']
        · have hb : ((j : Int) != (piv.length : Int)) = true := by simp; omega
          simp [hS'.e5, hS'.e11, hS'.e13, e14', e15', lR3, wc, hjn, hb, r147_0, r147_1, r147_2, r147_3, r147_4, r147_5, r147_6, r147_7, r147_8, r147_9, r147_11, r147_12, r147_13, r147_14, r147_15, r147_16, r147_17, r147_18, r147_19, r147_20, r147_21, r147_22, r147_23, r147_24, r147_25, r147_27, r147_28, r147_30, c147, -Int.natCast_add]
          refine WR_bnd (each_wv h3.R ?_)
          have hkey := @elim_swap_wv m0 (m' ++ [⟨[I piv.length], 2⟩, ⟨[I j], 2⟩]) [gb, gb + 1, gb + 2] B piv.length j m'.length (m'.length + 1) l b x true
          rw [hlen] at hkey
          have hsw := h3.swap (i := piv.length) (k := j) hpn (by omega)
          refine hkey h3.ra hpn (by omega) hat3 hat4 haw.B haw2.B (by omega) ⟨hsw.A, ?_⟩
          have lG := lc_cell hsw.G (by omega)
          simp [hS'.e4, e10', lG]
          refine WR_bnd (neg_wv (hg.pre hsw.pre) hdet ?_)
          simp
          have haw' : Away m0 gb (gb + 1) (gb + 2) B n (sw piv.length j b) vp m'.length := by
            refine ⟨haw.m, haw.g, haw.r, haw.a, haw.B, fun i hi => ?_, haw.v⟩
            simp only [sw]
            split
            · exact haw.b j (by omega)
            · split
              · exact haw.b _ hpn
              · exact haw.b i hi
          refine fin2 _ _ _ _ (f.F.neg det) ?_ ?_ hF.negE ?_ hsw (At.set_ne hat3 haw.B.symm) haw'
          · exact ⟨by simp [hS'.e2], by simp [hS'.e4], by simp [hS'.e5], by simp [hS'.e11], by simp [hS'.e12], by simp [hS'.e13]⟩
          · simp
          · simp [e14']
    · have he : f.F.elimGo (t - c) c l piv = (l, piv) := by
        obtain ⟨d, hd⟩ : ∃ d, t - c = d + 1 := ⟨t - c - 1, by omega⟩
        rw [hd, elimGo, if_neg (by rw [h.len]; omega)]
      simp [l29_eq, r147_0, r147_1, r147_2, r147_3, r147_4, r147_5, r147_6, r147_7, r147_8, r147_9, r147_11, r147_12, r147_13, r147_14, r147_15, r147_16, r147_17, r147_18, r147_19, r147_20, r147_21, r147_22, r147_23, r147_24, r147_25, r147_27, r147_28, r147_30, c147, hS.e2, hS.e5, hS.e12, hS.e13, e10, lR, hpvl, hct, hpn, packV]
      exact fin he
  · have he : f.F.elimGo (t - c) c l piv = (l, piv) := by rw [show t - c = 0 by omega]; rfl
    simp [l29_eq, r147_0, r147_1, r147_2, r147_3, r147_4, r147_5, r147_6, r147_7, r147_8, r147_9, r147_11, r147_12, r147_13, r147_14, r147_15, r147_16, r147_17, r147_18, r147_19, r147_20, r147_21, r147_22, r147_23, r147_24, r147_25, r147_27, r147_28, r147_30, c147, hS.e2, hS.e5, hS.e12, hS.e13, e10, lR, hct, packV]
    exact fin he
end Go.Proofs.YtefjnnghfloddaaGreat.Abs

/- Specifications: the program's matrices are checked and made canonical. -/
namespace Go.Proofs.YtefjnnghfloddaaGreat.Abs
set_option linter.unusedVariables false
set_option linter.unusedSimpArgs false
set_option linter.unusedSectionVars false
open Ff
def AllE (F : Ff) (v : List Int) : Prop := ∀ j, j < v.length → F.E (v.getD j 0)
structure EnI (f : Fd) (g vl : V) (l : List Int) (m : Mem) (k : Nat) (e : Env) (m' : Mem) : Prop where
  d : ∃ i : Nat, e 0 = g ∧ e 7 = vl ∧ e 8 = I l.length ∧ e 9 = I i ∧ i ≤ l.length ∧ l.length - i = k ∧ ∀ j, j < i → f.F.E (l.getD j 0)
  m : m' = m
theorem entries_wv {f : Fd} {g vl : V} {l : List Int} {m : Mem} {Q : V → Mem → Prop} (hg : GFAt m g f) (hv : Ints m vl l) (hl : l.length ≤ 1000000) (h1 : AllE f.F l → Q (I 0) m) (h2 : ¬ AllE f.F l → Q (I 2) m) : WV (DD 142 [g, vl] m) Q := by
  rw [e142]
  refine WV_fin ?_
  simp [r142_0, r142_1, r142_2, r142_3, r142_4, r142_5, r142_6, r142_8, c142, hv.len]
  refine W_loop (EnI f g vl l m) ?_ l.length _ _ ⟨⟨0, by simp, by simp, by simp, by simp, by omega, by omega, fun j hj => by omega⟩, rfl⟩
  rintro k e m' ⟨⟨i, e0, e7, e8, e9, hi, hk, hall⟩, rfl⟩
  have w1 : IntKind.i64.wrap ((i : Int) + 1) = i + 1 := wrap64_in (by omega) (by omega)
  by_cases hlt : i < l.length
  · obtain ⟨b, o, a1, a2⟩ := hv.at (ix := i) (by omega) (by omega)
    rw [Int.toNat_natCast] at a2
    simp [l142_7, r142_0, r142_1, r142_2, r142_3, r142_4, r142_5, r142_6, r142_8, c142, e0, e7, e8, e9, hlt, a1, a2, -List.getD_eq_getElem?_getD]
    refine WR_bnd (is_wv hg fun b hb => ?_)
    cases b with
    | true =>
      simp [e9, w1]
      refine ⟨l.length - (i + 1), by omega, ⟨i + 1, by simp [e0], by simp [e7], by simp [e8], by simp, by omega, rfl, fun j hj => ?_⟩, rfl⟩
      by_cases e : j = i
      · subst e; exact hb.1 rfl
      · exact hall j (by omega)
    | false =>
      simp
      refine h2 fun h => ?_
      have := hb.2 (h i hlt)
      cases this
  · have hil : i = l.length := by omega
    subst hil
    simp [l142_7, r142_0, r142_1, r142_2, r142_3, r142_4, r142_5, r142_6, r142_8, c142, e8, e9]
    exact h1 hall
open Classical in
noncomputable def matE (F : Ff) (cols : Int) (l : List (List Int)) : Int :=
  if cols < 0 ∨ 256 < cols ∨ 256 < l.length ∨ ∃ i, i < l.length ∧ ((rw_ l i).length : Int) ≠ cols then 3
  else if ∃ i, i < l.length ∧ ¬ AllE F (rw_ l i) then 2 else 0
theorem matE_3 {F : Ff} {cols : Int} {l : List (List Int)} (h : cols < 0 ∨ 256 < cols ∨ 256 < l.length ∨ ∃ i, i < l.length ∧ ((rw_ l i).length : Int) ≠ cols) : matE F cols l = 3 := by rw [matE, if_pos h]
theorem matE_2 {F : Ff} {cols : Int} {l : List (List Int)} (h : ¬ (cols < 0 ∨ 256 < cols ∨ 256 < l.length ∨ ∃ i, i < l.length ∧ ((rw_ l i).length : Int) ≠ cols)) (h2 : ∃ i, i < l.length ∧ ¬ AllE F (rw_ l i)) : matE F cols l = 2 := by rw [matE, if_neg h, if_pos h2]
theorem matE_0 {F : Ff} {cols : Int} {l : List (List Int)} (h : ¬ (cols < 0 ∨ 256 < cols ∨ 256 < l.length ∨ ∃ i, i < l.length ∧ ((rw_ l i).length : Int) ≠ cols)) (h2 : ¬ ∃ i, i < l.length ∧ ¬ AllE F (rw_ l i)) : matE F cols l = 0 := by rw [matE, if_neg h, if_neg h2]
theorem matE_Mat {F : Ff} (hF : F.Ok) {cols : Int} {l : List (List Int)} (h : matE F cols l = 0) : 0 ≤ cols ∧ cols ≤ 256 ∧ l.length ≤ 256 ∧ F.Mat l cols.toNat := by
  unfold matE at h
  split at h
  · omega
  · rename_i h1
    split at h
    · omega
    · rename_i h2
      have h3 : ∀ i, i < l.length → (rw_ l i).length = cols.toNat := by
        intro i hi
        have : ((rw_ l i).length : Int) = cols := Classical.byContradiction fun hn => h1 (.inr (.inr (.inr ⟨i, hi, hn⟩)))
        omega
      refine ⟨by omega, by omega, by omega, h3, fun i j => ?_⟩
      by_cases hi : i < l.length
      · have h4 : AllE F (rw_ l i) := Classical.byContradiction fun hn => h2 ⟨i, hi, hn⟩
        by_cases hj : j < (rw_ l i).length
        · exact h4 j hj
        · rw [en, List.getD_eq_getElem?_getD, List.getElem?_eq_none (by omega)]; exact hF.zeroE
      · rw [en, rw_out (by omega)]; exact hF.zeroE
theorem box_la2 {m' : Mem} {b : Nat} {a c : V} (h : At m' b [a, c] 2) : la 2 m' b 0 = some (.agg [a, c]) ∧ lc m' b 0 = some a ∧ lc m' b 1 = some c := by
  refine ⟨by rw [la, h]; simp, ?_, ?_⟩ <;> rw [lc_at h (by omega)] <;> rfl
structure CkI (cols : Int) (rv : V) (l : List (List Int)) (m : Mem) (k : Nat) (e : Env) (m' : Mem) (g : V) : Prop where
  d : ∃ i : Nat, e 0 = g ∧ e 3 = .ptr m.length 0 ∧ e 25 = rv ∧ e 26 = I l.length ∧ e 27 = I i ∧ i ≤ l.length ∧ l.length - i = k ∧ ∀ j, j < i → ((rw_ l j).length : Int) = cols
  m : m' = m ++ [⟨[I cols, rv], 2⟩]
structure CkJ (f : Fd) (cols : Int) (rv : V) (l : List (List Int)) (m : Mem) (k : Nat) (e : Env) (m' : Mem) (g : V) : Prop where
  d : ∃ i : Nat, e 0 = g ∧ e 38 = rv ∧ e 39 = I l.length ∧ e 40 = I i ∧ i ≤ l.length ∧ l.length - i = k ∧ ∀ j, j < i → AllE f.F (rw_ l j)
  m : m' = m ++ [⟨[I cols, rv], 2⟩]
theorem mcheck_wv {f : Fd} {g rv : V} {cols : Int} {l : List (List Int)} {m : Mem} {Q : V → Mem → Prop} (hg : GFAt m g f) (hv : Rows m rv l) (hQ : Q (I (matE f.F cols l)) (m ++ [⟨[I cols, rv], 2⟩])) : WV (DD 160 [g, .agg [I cols, rv]] m) Q := by
  rw [e160]
  refine WV_fin ?_
  have hrc := hv.cell
  have hv' := hv.pre (List.prefix_append m [⟨[I cols, rv], 2⟩])
  have hlen := hv'.len
  by_cases h1 : cols < 0
  · rw [matE_3 (.inl h1)] at hQ
    simp [r160_0, r160_1, r160_2, r160_3, r160_4, r160_5, r160_6, r160_7, r160_8, r160_10, r160_11, r160_12, r160_13, r160_14, r160_15, r160_16, r160_18, c160, hrc, h1]; exact hQ
  by_cases h2 : 256 < cols
  · rw [matE_3 (.inr (.inl h2))] at hQ
    simp [r160_0, r160_1, r160_2, r160_3, r160_4, r160_5, r160_6, r160_7, r160_8, r160_10, r160_11, r160_12, r160_13, r160_14, r160_15, r160_16, r160_18, c160, hrc, h1, h2]; exact hQ
  by_cases h3 : (256 : Int) < l.length
  · rw [matE_3 (.inr (.inr (.inl (by omega))))] at hQ
    simp [r160_0, r160_1, r160_2, r160_3, r160_4, r160_5, r160_6, r160_7, r160_8, r160_10, r160_11, r160_12, r160_13, r160_14, r160_15, r160_16, r160_18, c160, hrc, h1, h2, hlen, h3]; exact hQ
  simp [r160_0, r160_1, r160_2, r160_3, r160_4, r160_5, r160_6, r160_7, r160_8, r160_10, r160_11, r160_12, r160_13, r160_14, r160_15, r160_16, r160_18, c160, hrc, h1, h2, hlen, h3]
  refine W_loop (fun k e m' => CkI cols rv l m k e m' g) ?_ l.length _ _ ⟨⟨0, by simp, by simp, by simp, by simp, by simp, by omega, by omega, fun j hj => by omega⟩, rfl⟩
  rintro k e m' ⟨⟨i, e0, e3, e25, e26, e27, hi, hk, hall⟩, rfl⟩
  have w1 : IntKind.i64.wrap ((i : Int) + 1) = i + 1 := wrap64_in (by omega) (by omega)
  by_cases hlt : i < l.length
  · obtain ⟨b, o, u, a1, a2, a3⟩ := hv'.at (ix := i) (by omega) (by omega)
    rw [Int.toNat_natCast] at a3
    have a4 := a3.len
    by_cases hc : ((rw_ l i).length : Int) = cols
    · have hc' : ((l.getD i []).length : Int) = cols := hc
      simp [l160_9, r160_0, r160_1, r160_2, r160_3, r160_4, r160_5, r160_6, r160_7, r160_8, r160_10, r160_11, r160_12, r160_13, r160_14, r160_15, r160_16, r160_18, c160, e0, e3, e25, e26, e27, hlt, a1, a2, a4, hc', w1, -List.getD_eq_getElem?_getD]
      refine ⟨l.length - (i + 1), by omega, ⟨i + 1, by simp [e0], by simp [e3], by simp [e25], by simp [e26], by simp, by omega, rfl, fun j hj => ?_⟩, rfl⟩
      by_cases e : j = i
      · subst e; exact hc
      · exact hall j (by omega)
    · have hc' : ¬ ((l.getD i []).length : Int) = cols := hc
      rw [matE_3 (.inr (.inr (.inr ⟨i, hlt, hc⟩)))] at hQ
      simp [l160_9, r160_0, r160_1, r160_2, r160_3, r160_4, r160_5, r160_6, r160_7, r160_8, r160_10, r160_11, r160_12, r160_13, r160_14, r160_15, r160_16, r160_18, c160, e0, e3, e25, e26, e27, hlt, a1, a2, a4, hc', -List.getD_eq_getElem?_getD]
      exact hQ
  · have hil : i = l.length := by omega
    subst hil
    have hno : ¬ (cols < 0 ∨ 256 < cols ∨ 256 < l.length ∨ ∃ i, i < l.length ∧ ((rw_ l i).length : Int) ≠ cols) := by
      rintro (h | h | h | ⟨i, h, h'⟩)
      · exact h1 h
      · exact h2 h
      · omega
      · exact h' (hall i h)
    simp [l160_9, r160_0, r160_1, r160_2, r160_3, r160_4, r160_5, r160_6, r160_7, r160_8, r160_10, r160_11, r160_12, r160_13, r160_14, r160_15, r160_16, r160_18, c160, e3, e26, e27, hlen]
    refine W_loop (fun k e m' => CkJ f cols rv l m k e m' g) ?_ l.length _ _ ⟨⟨0, by simp [e0], by simp, by simp, by simp, by omega, by omega, fun j hj => by omega⟩, rfl⟩
    rintro k e m' ⟨⟨i, e0, e38, e39, e40, hi, hk, hall2⟩, rfl⟩
    have w1 : IntKind.i64.wrap ((i : Int) + 1) = i + 1 := wrap64_in (by omega) (by omega)
    by_cases hlt : i < l.length
    · obtain ⟨b, o, u, a1, a2, a3⟩ := hv'.at (ix := i) (by omega) (by omega)
      rw [Int.toNat_natCast] at a3
      simp [l160_17, r160_0, r160_1, r160_2, r160_3, r160_4, r160_5, r160_6, r160_7, r160_8, r160_10, r160_11, r160_12, r160_13, r160_14, r160_15, r160_16, r160_18, c160, e0, e38, e39, e40, hlt, a1, a2, -List.getD_eq_getElem?_getD]
      have hcl := hall i hlt
      refine WR_bnd (entries_wv (hg.pre (List.prefix_append _ _)) a3 (by rw [show l.getD i [] = rw_ l i from rfl]; omega) (fun h => ?_) fun h => ?_)
      · simp [e0, e38, e39, e40, w1]
        refine ⟨l.length - (i + 1), by omega, ⟨i + 1, by simp [e0], by simp [e38], by simp [e39], by simp, by omega, rfl, fun j hj => ?_⟩, rfl⟩
        by_cases e : j = i
        · subst e; exact h
        · exact hall2 j (by omega)
      · rw [matE_2 hno ⟨i, hlt, h⟩] at hQ
        simp
        exact hQ
    · have hil : i = l.length := by omega
      subst hil
      rw [matE_0 hno (by rintro ⟨i, h, h'⟩; exact h' (hall2 i h))] at hQ
      simp [l160_17, r160_0, r160_1, r160_2, r160_3, r160_4, r160_5, r160_6, r160_7, r160_8, r160_10, r160_11, r160_12, r160_13, r160_14, r160_15, r160_16, r160_18, c160, e39, e40]
      exact hQ
theorem bs181 {a b : V} (ha : a.isCell = true) (hb : b.isCell = true) (m : Mem) : opBuildSlice T 181 1 [(0, .agg [a, b])] m = some (.sl m.length 0 1 1 2 true, m ++ [⟨[a, b], 2⟩]) := by
  simp [opBuildSlice, T181, T88, fillA, zeros, V.cells, ha, hb, put]
theorem al88 (m : Mem) : opAlloc T 88 m = some (.ptr m.length 0, m ++ [⟨[I 0, .nils], 2⟩]) := by simp [opAlloc, T88]
theorem st88n {a b x y : V} (ha : a.isCell = true) (hb : b.isCell = true) (m : Mem) : opStore T 88 (.ptr m.length 0) (.agg [a, b]) (m ++ [⟨[x, y], 2⟩]) = some (m ++ [⟨[a, b], 2⟩]) := by
  simp [opStore, T88, V.cells, ha, hb, put]
theorem st88a {a b x y : V} (ha : a.isCell = true) (hb : b.isCell = true) {m : Mem} {k : Nat} (h : At m k [x, y] 2) : opStore T 88 (.ptr k 0) (.agg [a, b]) m = some (m.set k ⟨[a, b], 2⟩) := by
  simp only [At] at h
  simp [opStore, T88, V.cells, ha, hb, put, h]
theorem build88 {a b : V} (ha : a.isCell = true) (hb : b.isCell = true) : opBuild T 88 [(0, a), (1, b)] = some (.agg [a, b]) := by
  have h : ∀ v : V, v.isCell = true → v.cells = [v] := fun v hv => by cases v <;> simp [V.cells, V.isCell] at hv ⊢
  simp [opBuild, T88, T3, T25, placeOf, fillA, h _ ha, h _ hb, ha, hb]
theorem build88_0 : opBuild T 88 [] = some (.agg [I 0, .nils]) := by simp [opBuild, T88, T3, T25, fillA]
theorem GFAt.cellp {m : Mem} {v : V} {f : Fd} (h : GFAt m v f) : v.isCell = true := by obtain ⟨_, b, _, _, _, _, _, rfl, _⟩ := h; rfl
theorem mopen_wv {p n : Int} {mod : List Int} {vm rv : V} {b181 : Nat} {cols : Int} {l : List (List Int)} {m : Mem} {Q : V → Mem → Prop} (hv : Ints m vm mod) (hr : Rows m rv l) (hb : At m b181 [I cols, rv] 2)
    (h1 : ¬ IsF p n mod → ∀ m', Pre m m' → Q (.tup [.nilp, I 1]) m')
    (h2 : ∀ (f : Fd) (m' : Mem), f.Ok → p = f.p → n = f.n → mod = f.mod → matE f.F cols l ≠ 0 → Pre m m' → Q (.tup [.nilp, I (matE f.F cols l)]) m')
    (h3 : ∀ (f : Fd) (g : V) (m' : Mem), f.Ok → p = f.p → n = f.n → mod = f.mod → matE f.F cols l = 0 → Pre m m' → GFAt m' g f → Q (.tup [g, I 0]) m') : WV (DD 141 [.agg [I p, I n, vm], .sl b181 0 1 1 2 true] m) Q := by
  rw [e141]
  refine WV_fin ?_
  simp [r141_0, r141_1, r141_2, r141_3, r141_4, r141_5, r141_6, r141_7, r141_8, r141_9, r141_10, r141_12, c141, hv.cell]
  refine WR_bnd (fieldNew_wv (hv.pre (List.prefix_append _ _)) (fun f g m1 hf e1 e2 e3 hp hg => ?_) fun hno m1 hp => ?_)
  · subst e1 e2 e3
    have hp1 : Pre m m1 := (List.prefix_append _ _).trans hp
    have hb1 := Pre.at hp1 hb
    have hlen : opLen T 181 (.sl b181 0 1 1 2 true) = some (I 1) := by simp [opLen, T181]
    simp [hlen]
    refine W_loop (fun k e m' => (k = 1 ∧ e 6 = g ∧ e 18 = .sl b181 0 1 1 2 true ∧ e 19 = I 1 ∧ e 20 = I 0 ∧ m' = m1) ∨ (k = 0 ∧ e 6 = g ∧ e 19 = I 1 ∧ e 20 = I 1 ∧ matE f.F cols l = 0 ∧ Pre m1 m')) ?_ 1 _ _ (.inl ⟨rfl, by simp, by simp, by simp, by simp, rfl⟩)
    rintro k e m' (⟨rfl, e6, e18, e19, e20, rfl⟩ | ⟨rfl, e6, e19, e20, h0, hpre⟩)
    · have hix : opIndexAddr T 181 (.sl b181 0 1 1 2 true) (I 0) = some (.ptr b181 0) := by simp [opIndexAddr, T181, T88]
      have hrc := hr.cell
      have hpre1 := List.prefix_append m' ([⟨[I cols, rv], 2⟩] : Mem)
      have w : IntKind.i64.wrap 1 = 1 := wrap64_in (by omega) (by omega)
      simp [l141_11, r141_0, r141_1, r141_2, r141_3, r141_4, r141_5, r141_6, r141_7, r141_8, r141_9, r141_10, r141_12, c141, e6, e18, e19, e20, hix, (box_la2 hb1).1, al88, st88n (a := I cols) (b := rv) rfl hrc]
      refine WR_bnd (mcheck_wv (hg.pre hpre1) ((hr.pre hp1).pre hpre1) ?_)
      by_cases h0 : matE f.F cols l = 0
      · simp [h0, e6, e19, e20, w]
      · simp [h0]
        have hne := h2 f (m' ++ [⟨[I cols, rv], 2⟩] ++ [⟨[I cols, rv], 2⟩]) hf rfl rfl rfl h0 (hp1.trans (hpre1.trans (List.prefix_append _ _)))
        simp [packV] at hne ⊢
        exact hne
    · simp [l141_11, r141_0, r141_1, r141_2, r141_3, r141_4, r141_5, r141_6, r141_7, r141_8, r141_9, r141_10, r141_12, c141, e6, e19, e20, packV]
      exact h3 f g m' hf rfl rfl rfl h0 (hp1.trans hpre) (hg.pre hpre)
  · simp [packV]
    exact h1 hno m1 ((List.prefix_append _ _).trans hp)
end Go.Proofs.YtefjnnghfloddaaGreat.Abs

/- Specifications: canonical matrices, spaces, codes are checked by the program. -/
namespace Go.Proofs.YtefjnnghfloddaaGreat.Abs
set_option linter.unusedVariables false
set_option linter.unusedSimpArgs false
set_option linter.unusedSectionVars false
open Ff
theorem elimGo_len (F : Ff) (n c : Nat) (l : List (List Int)) (piv : List Int) : (F.elimGo n c l piv).1.length = l.length ∧ (piv.length ≤ l.length → (F.elimGo n c l piv).2.length ≤ l.length) := by
  induction n generalizing c l piv with
  | zero => exact ⟨rfl, fun h => h⟩
  | succ n ih =>
    rw [elimGo]
    split
    · rename_i hlt
      split
      · exact ih _ _ _
      · rename_i k hk
        have := ih (c + 1) (F.elimAt l piv.length k c) (piv ++ [(c : Int)])
        rw [elimAt_len] at this
        exact ⟨this.1, fun _ => this.2 (by simp; omega)⟩
    · exact ⟨rfl, fun h => h⟩
noncomputable def canonF (F : Ff) (t : Nat) (l : List (List Int)) : List (List Int) := (F.elimGo t 0 l []).1.take (F.elimGo t 0 l []).2.length
theorem RA.take {m0 m : Mem} {A : List Nat} {B : Nat} {l : List (List Int)} {b : Nat → Nat} {x : Nat → Bool} (h : RA m0 A m B l b x) {k c : Nat} (hk : k ≤ l.length) (hc : k ≤ c) (ex : Bool) : Rows m (.sl B 0 k c 1 ex) (l.take k) := by
  have hl : (l.take k).length = k := by simp; omega
  refine .inr (.inr ⟨B, 0, c, ex, _, by rw [hl], h.at_, by simp, by omega, fun i hi => ⟨rsl l b x i, ?_, ?_⟩⟩)
  · rw [Nat.zero_add]; exact rcells_get (by omega)
  · have := h.ints (i := i) (by omega)
    rw [rw_, List.getD_eq_getElem?_getD, List.getElem?_eq_getElem (by omega)] at this
    simpa using this
theorem slice25_3 {b o n c : Nat} {a : Int} (h0 : 0 ≤ a) (h1 : a ≤ c) : opSlice T 25 (.sl b o n c 1 true) none (some (I a)) (some (I a)) = some (.sl b o a.toNat a.toNat 1 true) := by
  simp [opSlice, T25, T22, optInt, h0, h1]
theorem canon_wv {f : Fd} {g rv : V} {t : Nat} {l : List (List Int)} {m : Mem} {Q : V → Mem → Prop} (hg : GFAt m g f) (hv : Rows m rv l) (hM : f.F.Mat l t) (h0 : 1 ≤ t) (ht : t ≤ 256) (hn : l.length ≤ 256)
    (hQ : ∀ m' v pv, Pre m m' → Rows m' v (canonF f.F t l) → Ints m' pv (f.F.elimGo t 0 l []).2 → (∀ y k, y < m.length → Rows (m'.set y k) v (canonF f.F t l) ∧ Ints (m'.set y k) pv (f.F.elimGo t 0 l []).2) → Q (.tup [v, pv]) m') : WV (DD 149 [g, rv, I t] m) Q := by
  rw [e149]
  refine WV_fin ?_
  simp [r149_0, r149_1, r149_2, r149_3, c149]
  refine WR_bnd (cloneRows_wv hv (fun i hi => ⟨fun h => by have := hM.len i hi; rw [h] at this; simp at this; omega, by rw [hM.len i hi]; omega⟩) (by omega) fun B b x m1 hp hra => ?_)
  simp
  refine WR_bnd (eliminate_wv hg hp hra hM rfl hn ht fun m2 vp det b' x' hp2 hra2 hM2 hl2 hvp => ?_)
  have hlen := elimGo_len f.F t 0 l []
  have hk := hlen.2 (by simp)
  have hpl := hvp.ints.len
  simp [hpl, slice25_3 (b := B) (o := 0) (n := l.length) (c := l.length) (a := ((f.F.elimGo t 0 l []).2.length : Int)) (by omega) (by omega), packV]
  refine hQ m2 _ _ hp2 (hra2.take (by omega) (Nat.le_refl _) true) hvp.ints fun y k hy => ⟨?_, ?_⟩
  · have := hra2.off (y := y) (by have := hra2.B0; omega) (fun i hi => by have := (hra2.row i hi).1; omega) k
    exact this.take (by omega) (Nat.le_refl _) true
  · refine FreshA.ints (m0 := m) (hvp.set_off ?_ k)
    rcases hvp with ⟨rfl, _⟩ | ⟨b, ex, rfl, h2, h3⟩
    · exact Off.nils y
    · exact Off.sl (by omega)
theorem rs125 : Tryz.f125.results.toList = [.cell 4 88, .tmp 5, .tmp 6] := by kernel_rfl
theorem canonical_wv {p n : Int} {mod : List Int} {vm rv : V} {cols : Int} {l : List (List Int)} {m : Mem} {Q : V → Mem → Prop} (hv : Ints m vm mod) (hr : Rows m rv l) (hc : 1 ≤ cols)
    (h1 : ¬ IsF p n mod → ∀ m', Pre m m' → Q (.tup [.agg [I 0, .nils], .nils, I 1]) m')
    (h2 : ∀ (f : Fd) (m' : Mem), f.Ok → p = f.p → n = f.n → mod = f.mod → matE f.F cols l ≠ 0 → Pre m m' → Q (.tup [.agg [I 0, .nils], .nils, I (matE f.F cols l)]) m')
    (h3 : ∀ (f : Fd) (v pv : V) (m' : Mem), f.Ok → p = f.p → n = f.n → mod = f.mod → matE f.F cols l = 0 → Pre m m' → Rows m' v (canonF f.F cols.toNat l) → Ints m' pv (f.F.elimGo cols.toNat 0 l []).2 → Q (.tup [.agg [I cols, v], pv, I 0]) m') :
    WV (DD 125 [.agg [I p, I n, vm], .agg [I cols, rv]] m) Q := by
  rw [e125]
  refine WV_fin ?_
  have hrc := hr.cell
  have hvc := hv.cell
  simp [r125_0, r125_1, r125_2, r125_3, r125_4, r125_5, c125, hvc, hrc, al88, rs125, bs181 (a := I cols) (b := rv) rfl hrc]
  have hm1 : m ++ [⟨[I p, I n, vm], 2⟩, ⟨[I cols, rv], 2⟩, ⟨[I 0, .nils], 2⟩, ⟨[I cols, rv], 2⟩] = m ++ [⟨[I p, I n, vm], 2⟩, ⟨[I cols, rv], 2⟩, ⟨[I 0, .nils], 2⟩, ⟨[I cols, rv], 2⟩] := rfl
  generalize hM1 : m ++ [⟨[I p, I n, vm], 2⟩, ⟨[I cols, rv], 2⟩, ⟨[I 0, .nils], 2⟩, ⟨[I cols, rv], 2⟩] = m1 at *
  have hp1 : Pre m m1 := hM1 ▸ List.prefix_append _ _
  have hA : At m1 (m.length + 1) [I cols, rv] 2 := by rw [← hM1]; simp [At]
  have hB : At m1 (m.length + 2) [I 0, .nils] 2 := by rw [← hM1]; simp [At]
  have hC : At m1 (m.length + 3) [I cols, rv] 2 := by rw [← hM1]; simp [At]
  refine WR_bnd (mopen_wv (hv.pre hp1) (hr.pre hp1) hC (fun hno m2 hp2 => ?_) (fun f m2 hf e1 e2 e3 he hp2 => ?_) fun f g m2 hf e1 e2 e3 he hp2 hg => ?_)
  · have hB2 := Pre.at hp2 hB
    have hB3 : At (m2.set (m.length + 2) ⟨[I 0, .nils], 2⟩) (m.length + 2) [I 0, .nils] 2 := At.set_self hB2
    simp [build88_0, st88a (a := I 0) (b := .nils) rfl rfl hB2, resVs, resV, (box_la2 hB3).1, packV]
    exact h1 hno _ (Pre.set (hp1.trans hp2) (by omega) _)
  · have hB2 := Pre.at hp2 hB
    have hB3 : At (m2.set (m.length + 2) ⟨[I 0, .nils], 2⟩) (m.length + 2) [I 0, .nils] 2 := At.set_self hB2
    simp [he, build88_0, st88a (a := I 0) (b := .nils) rfl rfl hB2, resVs, resV, (box_la2 hB3).1, packV]
    exact h2 f _ hf e1 e2 e3 he (Pre.set (hp1.trans hp2) (by omega) _)
  · have hA2 := Pre.at hp2 hA
    have hB2 := Pre.at hp2 hB
    obtain ⟨c0, c1, c2⟩ := box_la2 hA2
    obtain ⟨b0, b1, b2, b3⟩ := matE_Mat hf.F he
    obtain ⟨t, rfl⟩ : ∃ t : Nat, cols = t := ⟨cols.toNat, by omega⟩
    simp only [Int.toNat_natCast] at b3 h3
    simp [c1, c2]
    refine WR_bnd (canon_wv hg ((hr.pre hp1).pre hp2) b3 (by omega) (by omega) b2 fun m3 v pv hp3 hv3 hpv hset => ?_)
    obtain ⟨d0, d1, d2⟩ := box_la2 (Pre.at hp3 hA2)
    have hB3 := Pre.at hp3 hB2
    have hB4 : At (m3.set (m.length + 2) ⟨[I t, v], 2⟩) (m.length + 2) [I t, v] 2 := At.set_self hB3
    simp [d1, build88 (a := I t) (b := v) rfl hv3.cell, st88a (a := I t) (b := v) rfl hv3.cell hB3, resVs, resV, (box_la2 hB4).1, packV]
    have hk : Pre m (m3.set (m.length + 2) ⟨[I t, v], 2⟩) := Pre.set (hp1.trans (hp2.trans hp3)) (by omega) _
    have hlt := At.lt hB2
    obtain ⟨g1, g2⟩ := hset (m.length + 2) ⟨[I t, v], 2⟩ hlt
    exact h3 f v pv _ hf e1 e2 e3 he hk g1 g2
end Go.Proofs.YtefjnnghfloddaaGreat.Abs

/- Specifications: codes are checked by the program. -/
namespace Go.Proofs.YtefjnnghfloddaaGreat.Abs
set_option linter.unusedVariables false
set_option linter.unusedSimpArgs false
set_option linter.unusedSectionVars false
open Ff
structure EqI (va vb : V) (a b : List Int) (m : Mem) (k : Nat) (e : Env) (m' : Mem) : Prop where
  d : ∃ i : Nat, e 0 = va ∧ e 1 = vb ∧ e 12 = I a.length ∧ e 13 = I i ∧ i ≤ a.length ∧ a.length - i = k ∧ ∀ j, j < i → a.getD j 0 = b.getD j 0
  m : m' = m
theorem list_ext_D {a b : List Int} (hl : a.length = b.length) (h : ∀ j, j < a.length → a.getD j 0 = b.getD j 0) : a = b := by
  apply List.ext_getElem hl
  intro i h1 h2
  rw [getElem_D h1, getElem_D h2, h i h1]
theorem equal_wv {va vb : V} {a b : List Int} {m : Mem} {Q : V → Mem → Prop} (ha : Ints m va a) (hb : Ints m vb b) (hl : a.length ≤ 1000000) (hl2 : b.length ≤ 1000000000) (hQ : ∀ t : Bool, (t = true ↔ a = b) → Q (.bool t) m) : WV (DD 127 [va, vb] m) Q := by
  rw [e127]
  refine WV_fin ?_
  have la := ha.len
  have lb := hb.len
  by_cases hll : a.length = b.length
  · have hll' : (a.length : Int) = b.length := by omega
    simp [r127_0, r127_1, r127_2, r127_3, r127_4, r127_5, r127_6, r127_7, r127_8, r127_10, c127, la, lb, hll']
    refine W_loop (EqI va vb a b m) ?_ a.length _ _ ⟨⟨0, by simp, by simp, by simp [hll'], by simp, by omega, by omega, fun j hj => by omega⟩, rfl⟩
    rintro k e m' ⟨⟨i, e0, e1, e12, e13, hi, hk, hall⟩, rfl⟩
    have w1 : IntKind.i64.wrap ((i : Int) + 1) = i + 1 := wrap64_in (by omega) (by omega)
    by_cases hlt : i < a.length
    · obtain ⟨b1, o1, a1, a2⟩ := ha.at (ix := i) (by omega) (by omega)
      obtain ⟨b2, o2, a3, a4⟩ := hb.at (ix := i) (by omega) (by omega)
      rw [Int.toNat_natCast] at a2 a4
      by_cases he : a.getD i 0 = b.getD i 0
      · simp [l127_9, r127_0, r127_1, r127_2, r127_3, r127_4, r127_5, r127_6, r127_7, r127_8, r127_10, c127, e0, e1, e12, e13, hlt, a1, a2, a3, a4, he, w1, -List.getD_eq_getElem?_getD]
        refine ⟨a.length - (i + 1), by omega, ⟨i + 1, by simp [e0], by simp [e1], by simp [e12], by simp, by omega, rfl, fun j hj => ?_⟩, rfl⟩
        by_cases e : j = i
        · subst e; exact he
        · exact hall j (by omega)
      · simp [l127_9, r127_0, r127_1, r127_2, r127_3, r127_4, r127_5, r127_6, r127_7, r127_8, r127_10, c127, e0, e1, e12, e13, hlt, a1, a2, a3, a4, he, -List.getD_eq_getElem?_getD]
        exact hQ false (by simp; rintro rfl; exact he rfl)
    · have hil : i = a.length := by omega
      subst hil
      simp [l127_9, r127_0, r127_1, r127_2, r127_3, r127_4, r127_5, r127_6, r127_7, r127_8, r127_10, c127, e12, e13]
      exact hQ true (by simp; exact list_ext_D hll hall)
  · have hll' : ¬ (a.length : Int) = b.length := by omega
    simp [r127_0, r127_1, r127_2, r127_3, r127_4, r127_5, r127_6, r127_7, r127_8, r127_10, c127, la, lb, hll']
    exact hQ false (by simp; rintro rfl; exact hll rfl)
structure EfI (va vb : V) (a b : List (List Int)) (m : Mem) (k : Nat) (e : Env) (m' : Mem) : Prop where
  d : ∃ i : Nat, e 1 = vb ∧ e 2 = .fn 127 [] [] ∧ e 15 = va ∧ e 16 = I a.length ∧ e 17 = I i ∧ i ≤ a.length ∧ a.length - i = k ∧ ∀ j, j < i → rw_ a j = rw_ b j
  m : m' = m
theorem rows_ext {a b : List (List Int)} (hl : a.length = b.length) (h : ∀ j, j < a.length → rw_ a j = rw_ b j) : a = b := by
  apply List.ext_getElem hl
  intro i h1 h2
  have := h i h1
  simpa [rw_, h1, h2] using this
theorem equalRows_wv {va vb : V} {a b : List (List Int)} {m : Mem} {Q : V → Mem → Prop} (ha : Rows m va a) (hb : Rows m vb b) (hl : a.length ≤ 1000000) (hr : ∀ i, i < a.length → (rw_ a i).length ≤ 1000000) (hrb : ∀ i, i < b.length → (rw_ b i).length ≤ 1000000) (hQ : ∀ t : Bool, (t = true ↔ a = b) → Q (.bool t) m) : WV (DD 126 [va, vb, .fn 127 [] []] m) Q := by
  rw [e126]
  refine WV_fin ?_
  have la := ha.len
  have lb := hb.len
  by_cases hll : a.length = b.length
  · have hll' : (a.length : Int) = b.length := by omega
    simp [r126_0, r126_1, r126_2, r126_3, r126_4, r126_5, r126_6, r126_7, r126_8, r126_9, r126_11, c126, la, lb, hll']
    refine W_loop (EfI va vb a b m) ?_ a.length _ _ ⟨⟨0, by simp, by simp, by simp, by simp [hll'], by simp, by omega, by omega, fun j hj => by omega⟩, rfl⟩
    rintro k e m' ⟨⟨i, e1, e2, e15, e16, e17, hi, hk, hall⟩, rfl⟩
    have w1 : IntKind.i64.wrap ((i : Int) + 1) = i + 1 := wrap64_in (by omega) (by omega)
    by_cases hlt : i < a.length
    · obtain ⟨b1, o1, u1, a1, a2, a5⟩ := ha.at (ix := i) (by omega) (by omega)
      obtain ⟨b2, o2, u2, a3, a4, a6⟩ := hb.at (ix := i) (by omega) (by omega)
      rw [Int.toNat_natCast] at a5 a6
      simp [l126_10, r126_0, r126_1, r126_2, r126_3, r126_4, r126_5, r126_6, r126_7, r126_8, r126_9, r126_11, c126, e1, e2, e15, e16, e17, hlt, a1, a2, a3, a4, -List.getD_eq_getElem?_getD]
      refine WR_bnd (equal_wv a5 a6 (hr i hlt) (Nat.le_trans (hrb i (by omega)) (by omega)) fun t ht => ?_)
      cases t with
      | true =>
        simp [e1, e2, e15, e16, e17, w1]
        refine ⟨a.length - (i + 1), by omega, ⟨i + 1, by simp [e1], by simp [e2], by simp [e15], by simp [e16], by simp, by omega, rfl, fun j hj => ?_⟩, rfl⟩
        by_cases e : j = i
        · subst e; exact ht.1 rfl
        · exact hall j (by omega)
      | false =>
        simp
        refine hQ false ?_
        simp
        rintro rfl
        have := ht.2 rfl
        cases this
    · have hil : i = a.length := by omega
      subst hil
      simp [l126_10, r126_0, r126_1, r126_2, r126_3, r126_4, r126_5, r126_6, r126_7, r126_8, r126_9, r126_11, c126, e16, e17]
      exact hQ true (by simp; exact rows_ext hll hall)
  · have hll' : ¬ (a.length : Int) = b.length := by omega
    simp [r126_0, r126_1, r126_2, r126_3, r126_4, r126_5, r126_6, r126_7, r126_8, r126_9, r126_11, c126, la, lb, hll']
    exact hQ false (by simp; rintro rfl; exact hll rfl)
theorem elimGo_Mat {F : Ff} (hF : F.Ok) {t : Nat} : ∀ (n c : Nat) (l : List (List Int)) (piv : List Int), c + n = t → F.Mat l t → F.Mat (F.elimGo n c l piv).1 t
  | 0, c, l, piv, h, hM => hM
  | n + 1, c, l, piv, h, hM => by
    rw [elimGo]
    split
    · rename_i hlt
      rcases find_cases l c piv.length with ⟨k, hk⟩ | hno
      · rw [findK_some hk]
        exact elimGo_Mat hF n (c + 1) _ _ (by omega) (hF.elimAt_Mat hM hlt hk.2.1 hk.1 (by omega))
      · rw [findK_none hno]
        exact elimGo_Mat hF n (c + 1) _ _ (by omega) hM
    · exact hM
theorem Mat_take {F : Ff} (hF : F.Ok) {l : List (List Int)} {t : Nat} (h : F.Mat l t) (k : Nat) : F.Mat (l.take k) t := by
  have hr : ∀ i, i < (l.take k).length → rw_ (l.take k) i = rw_ l i := by
    intro i hi
    simp at hi
    simp [rw_, List.getElem?_take, show i < k by omega]
  refine ⟨fun i hi => by rw [hr i hi]; exact h.len i (by simp at hi; omega), fun i j => ?_⟩
  by_cases hi : i < (l.take k).length
  · rw [en, hr i hi]; exact h.el i j
  · rw [en, rw_out (by omega)]; exact hF.zeroE
theorem canon_Mat {F : Ff} (hF : F.Ok) {t : Nat} {l : List (List Int)} (h : F.Mat l t) : F.Mat (canonF F t l) t := Mat_take hF (elimGo_Mat hF t 0 l [] (by omega) h) _
open Classical in
noncomputable def spaceE (F : Ff) (cols : Int) (l : List (List Int)) : Int := if matE F cols l ≠ 0 then matE F cols l else if canonF F cols.toNat l = l then 0 else 5
open Classical in
noncomputable def codeE (p n : Int) (mod : List Int) (N : Int) (gen : List (List Int)) : Int :=
  if ¬ IsF p n mod then 1 else if N < 1 ∨ 64 < N then 4 else spaceE ⟨p, n.toNat, mod⟩ N gen
theorem F_eq {p n : Int} {mod : List Int} {f : Fd} (e1 : p = f.p) (e2 : n = f.n) (e3 : mod = f.mod) : (⟨p, n.toNat, mod⟩ : Ff) = f.F := by subst e1 e2 e3; rfl
theorem al118 (m : Mem) : opAlloc T 118 m = some (.ptr m.length 0, m ++ [⟨[.nilp, I 0, .nils, .nils], 2⟩]) := by simp [opAlloc, T118]
theorem st118a {a b c d : V} (ha : a.isCell = true) (hb : b.isCell = true) (hc : c.isCell = true) (hd : d.isCell = true) {x y z w : V} {m : Mem} {k : Nat} (h : At m k [x, y, z, w] 2) : opStore T 118 (.ptr k 0) (.agg [a, b, c, d]) m = some (m.set k ⟨[a, b, c, d], 2⟩) := by
  simp only [At] at h
  simp [opStore, T118, V.cells, ha, hb, hc, hd, put, h]
theorem build118_0 : opBuild T 118 [] = some (.agg [.nilp, I 0, .nils, .nils]) := by simp [opBuild, T118, T76, T88, T22, fillA]
theorem build118 {a b c d : V} (ha : a.isCell = true) (hb : b.isCell = true) (hc : c.isCell = true) (hd : d.isCell = true) : opBuild T 118 [(0, a), (1, .agg [b, c]), (2, d)] = some (.agg [a, b, c, d]) := by
  have h : ∀ v : V, v.isCell = true → v.cells = [v] := fun v hv => by cases v <;> simp [V.cells, V.isCell] at hv ⊢
  have h0 : (V.agg [b, c]).cells = [b, c] := rfl
  simp [opBuild, T118, T76, T88, T22, placeOf, fillA, put, h0, h _ ha, h _ hd, ha, hb, hc, hd]
theorem rs90 : Tryz.f90.results.toList = [.cell 4 118, .tmp 5] := by kernel_rfl
theorem box_la4 {m' : Mem} {k : Nat} {a b c d : V} (h : At m' k [a, b, c, d] 2) : la 4 m' k 0 = some (.agg [a, b, c, d]) := by rw [la, h]; simp
theorem canon_len (F : Ff) (t : Nat) (l : List (List Int)) : (canonF F t l).length ≤ l.length := by
  have := (elimGo_len F t 0 l []).1
  rw [canonF, List.length_take]; omega
theorem sopen_wv {f : Fd} {vm rv : V} {cols : Int} {l : List (List Int)} {m : Mem} {Q : V → Mem → Prop} (hf : f.Ok) (hv : Ints m vm f.mod) (hr : Rows m rv l) (hc : 1 ≤ cols)
    (hQ : ∀ a b c d m', a.isCell = true → b.isCell = true → c.isCell = true → d.isCell = true → Pre m m' → Q (.tup [.agg [a, b, c, d], I (spaceE f.F cols l)]) m') : WV (DD 90 [.agg [I f.p, I f.n, vm], .agg [I cols, rv]] m) Q := by
  have hIs : IsF f.p f.n f.mod := ⟨f, hf, rfl, rfl, rfl⟩
  rw [e90]
  refine WV_fin ?_
  have hrc := hr.cell
  have hvc := hv.cell
  simp [r90_0, r90_1, r90_2, r90_3, r90_4, r90_5, r90_6, r90_7, c90, hvc, hrc, al118, rs90]
  generalize hM1 : m ++ [⟨[I f.p, I f.n, vm], 2⟩, ⟨[I cols, rv], 2⟩, ⟨[.nilp, I 0, .nils, .nils], 2⟩] = m1 at *
  have hp1 : Pre m m1 := hM1 ▸ List.prefix_append _ _
  have hF0 : At m1 m.length [I f.p, I f.n, vm] 2 := by rw [← hM1]; simp [At]
  have hA : At m1 (m.length + 1) [I cols, rv] 2 := by rw [← hM1]; simp [At]
  have hB : At m1 (m.length + 2) [.nilp, I 0, .nils, .nils] 2 := by rw [← hM1]; simp [At]
  refine WR_bnd (canonical_wv (hv.pre hp1) (hr.pre hp1) hc (fun hno => (hno hIs).elim) (fun f' m2 hf' e1 e2 e3 he hp2 => ?_) fun f' v pv m2 hf' e1 e2 e3 he hp2 hv2 hpv => ?_)
  · have hFF : f'.F = f.F := by rw [← F_eq e1 e2 e3]; exact F_eq rfl rfl rfl
    rw [hFF] at he ⊢
    have hE : spaceE f.F cols l = matE f.F cols l := by rw [spaceE, if_pos he]
    have hB2 := Pre.at (hp2.trans (List.prefix_append m2 ([⟨[I 0, .nils], 2⟩] : Mem))) hB
    have hB3 : At ((m2 ++ [⟨[I 0, .nils], 2⟩] : Mem).set (m.length + 2) ⟨[.nilp, I 0, .nils, .nils], 2⟩) (m.length + 2) [.nilp, I 0, .nils, .nils] 2 := At.set_self hB2
    simp [he, al88, st88n (a := I 0) (b := .nils) rfl rfl, build118_0, st118a (a := .nilp) (b := I 0) (c := .nils) (d := .nils) rfl rfl rfl rfl hB2, resVs, resV, box_la4 hB3, packV]
    have := hQ .nilp (I 0) .nils .nils _ rfl rfl rfl rfl (Pre.set (hp1.trans (hp2.trans (List.prefix_append m2 ([⟨[I 0, .nils], 2⟩] : Mem)))) (show m.length ≤ m.length + 2 by omega) ⟨[.nilp, I 0, .nils, .nils], 2⟩)
    rw [hE] at this
    exact this
  · have hFF : f'.F = f.F := by rw [← F_eq e1 e2 e3]; exact F_eq rfl rfl rfl
    rw [hFF] at he hv2 hpv
    obtain ⟨b0, b1, b2, b3⟩ := matE_Mat hf.F he
    have hp2' := hp2.trans (List.prefix_append m2 ([⟨[I cols, v], 2⟩] : Mem))
    have hA2 := Pre.at hp2' hA
    have hB2 := Pre.at hp2' hB
    have hF2 := Pre.at hp2' hF0
    have hvc2 := hv2.cell
    simp [al88, st88n (a := I cols) (b := v) rfl hvc2, (box_la2 hA2).2.2]
    refine WR_bnd (equalRows_wv (hv2.pre (List.prefix_append _ _)) ((hr.pre hp1).pre hp2') (by have := canon_len f.F cols.toNat l; omega) ?_ (fun i hi => by rw [b3.len i hi]; omega) fun t ht => ?_)
    · intro i hi
      have hl := elimGo_len f.F cols.toNat 0 l []
      have := (canon_Mat hf.F b3).len i hi
      omega
    · cases t with
      | false =>
        have hE : spaceE f.F cols l = 5 := by rw [spaceE, if_neg (by omega), if_neg (fun h => by have := ht.2 h; cases this)]
        have hB3 : At ((m2 ++ [⟨[I cols, v], 2⟩] : Mem).set (m.length + 2) ⟨[.nilp, I 0, .nils, .nils], 2⟩) (m.length + 2) [.nilp, I 0, .nils, .nils] 2 := At.set_self hB2
        simp [build118_0, st118a (a := .nilp) (b := I 0) (c := .nils) (d := .nils) rfl rfl rfl rfl hB2, resVs, resV, box_la4 hB3, packV]
        have := hQ .nilp (I 0) .nils .nils _ rfl rfl rfl rfl (Pre.set (hp1.trans hp2') (show m.length ≤ m.length + 2 by omega) ⟨[.nilp, I 0, .nils, .nils], 2⟩)
        rw [hE] at this
        exact this
      | true =>
        have hE : spaceE f.F cols l = 0 := by rw [spaceE, if_neg (by omega), if_pos (ht.1 rfl)]
        simp [(box_la hF2 (m := m)).1]
        refine WR_bnd (fieldNew_wv ((hv.pre hp1).pre hp2') (fun f2 g m3 hf2 _ _ _ hp3 hg => ?_) fun hno => (hno hIs).elim)
        have hA3 := Pre.at hp3 hA2
        have hB3 := Pre.at hp3 hB2
        have hgc := hg.cellp
        have hpc := hpv.cell
        have hB4 : At (m3.set (m.length + 2) ⟨[g, I cols, rv, pv], 2⟩) (m.length + 2) [g, I cols, rv, pv] 2 := At.set_self hB3
        simp [(box_la2 hA3).1, build118 (a := g) (b := I cols) (c := rv) (d := pv) hgc rfl hrc hpc, st118a (a := g) (b := I cols) (c := rv) (d := pv) hgc rfl hrc hpc hB3, resVs, resV, box_la4 hB4, packV]
        have := hQ g (I cols) rv pv _ hgc rfl hrc hpc (Pre.set (hp1.trans (hp2'.trans hp3)) (show m.length ≤ m.length + 2 by omega) ⟨[g, I cols, rv, pv], 2⟩)
        rw [hE] at this
        exact this
theorem spaceCheck_wv {f : Fd} {vm rv : V} {cols : Int} {l : List (List Int)} {m : Mem} {Q : V → Mem → Prop} (hf : f.Ok) (hv : Ints m vm f.mod) (hr : Rows m rv l) (hc : 1 ≤ cols)
    (hQ : ∀ m', Pre m m' → Q (I (spaceE f.F cols l)) m') : WV (DD 57 [.agg [I f.p, I f.n, vm], .agg [I cols, rv]] m) Q := by
  rw [e57]
  refine WV_fin ?_
  have hrc := hr.cell
  have hvc := hv.cell
  simp [r57_0, r57_1, r57_2, c57, hvc, hrc]
  refine WR_bnd (sopen_wv hf (hv.pre (List.prefix_append _ _)) (hr.pre (List.prefix_append _ _)) hc fun a b c d m2 ha hb hc hd hp => ?_)
  have hst := st118a ha hb hc hd (At.new1 m2 [.nilp, I 0, .nils, .nils] 2)
  simp [al118, hst]
  exact hQ _ ((List.prefix_append _ _).trans (hp.app _))
theorem length_wv {N : Int} {m : Mem} {Q : V → Mem → Prop} (hQ : Q (I (if N < 1 ∨ 64 < N then 4 else 0)) m) : WV (DD 56 [I N] m) Q := by
  rw [e56]
  refine WV_fin ?_
  by_cases h1 : N < 1
  · rw [if_pos (.inl h1)] at hQ
    simp [r56_0, r56_1, r56_2, r56_3, c56, h1]; exact hQ
  · by_cases h2 : 64 < N
    · rw [if_pos (.inr h2)] at hQ
      simp [r56_0, r56_1, r56_2, r56_3, c56, h1, h2]; exact hQ
    · rw [if_neg (by omega)] at hQ
      simp [r56_0, r56_1, r56_2, r56_3, c56, h1, h2]; exact hQ
theorem rs58 : Tryz.f58.results.toList = [.cell 2 88] := by kernel_rfl
theorem gen_wv {a b c d e : V} {m : Mem} {Q : V → Mem → Prop} (h : ([a, b, c, d, e].all V.isCell) = true) (hQ : ∀ m', Pre m m' → Q (.agg [d, e]) m') : WV (DD 58 [.agg [a, b, c, d, e]] m) Q := by
  have hd : d.isCell = true := by simp at h; exact h.2.2.2.1
  have he : e.isCell = true := by simp at h; exact h.2.2.2.2
  rw [e58]
  refine WV_fin ?_
  have hst := st88n (a := d) (b := e) (x := I 0) (y := .nils) hd he (m ++ [⟨[a, b, c, d, e], 2⟩])
  simp only [List.length_append, List.length_cons, List.length_nil, Nat.zero_add, List.append_assoc, List.cons_append, List.nil_append] at hst
  simp at h
  simp [r58_0, r58_1, c58, h, al88, build88 hd he, hst, rs58, resVs, resV, packV]
  exact hQ _ (List.prefix_append _ _)
theorem box_la5 {m' : Mem} {k : Nat} {a b c d e : V} (h : At m' k [a, b, c, d, e] 2) : la 3 m' k 0 = some (.agg [a, b, c]) ∧ la 5 m' k 0 = some (.agg [a, b, c, d, e]) ∧ lc m' k 3 = some d ∧ lc m' k 4 = some e := by
  refine ⟨by rw [la, h]; simp, by rw [la, h]; simp, ?_, ?_⟩ <;> rw [lc_at h (by omega)] <;> rfl
theorem codeCheck_wv {p n N : Int} {mod : List Int} {vm rv : V} {gen : List (List Int)} {m : Mem} {Q : V → Mem → Prop} (hv : Ints m vm mod) (hr : Rows m rv gen) (hQ : ∀ m', Pre m m' → Q (I (codeE p n mod N gen)) m') : WV (DD 26 [.agg [I p, I n, vm, I N, rv]] m) Q := by
  have hrc := hr.cell
  have hvc := hv.cell
  rw [e26]
  refine WV_fin ?_
  have hA := At.new1 m [I p, I n, vm, I N, rv] 2
  have hp0 := List.prefix_append m ([⟨[I p, I n, vm, I N, rv], 2⟩] : Mem)
  obtain ⟨c0, c1, c2, c3⟩ := box_la5 hA
  simp [r26_0, r26_1, r26_2, r26_3, r26_4, r26_5, r26_6, c26, hvc, hrc]
  refine WR_bnd (fieldCheck_wv (hv.pre hp0) (fun hIs m1 hp => ?_) fun hno m1 hp => ?_)
  · have hp1 := hp0.trans hp
    have hA1 := Pre.at hp hA
    obtain ⟨c0, c1, c2, c3⟩ := box_la5 hA1
    simp [c2]
    refine WR_bnd (length_wv ?_)
    by_cases hN : N < 1 ∨ 64 < N
    · have := hQ m1 hp1
      rw [codeE, if_neg (fun h => h hIs), if_pos hN] at this
      simp [hN]
      exact this
    · simp [hN, c0, c1]
      refine WR_bnd (gen_wv (by simp [hvc, hrc]) fun m2 hp2 => ?_)
      obtain ⟨f, hf, rfl, rfl, rfl⟩ := hIs
      simp [chkd_of hp2]
      refine WR_bnd (spaceCheck_wv hf (hv.pre (hp1.trans hp2)) (hr.pre (hp1.trans hp2)) (by omega) fun m3 hp3 => ?_)
      have := hQ m3 (hp1.trans (hp2.trans hp3))
      rw [codeE, if_neg (fun h => h ⟨f, hf, rfl, rfl, rfl⟩), if_neg hN, F_eq rfl rfl rfl] at this
      simp
      exact this
  · have := hQ m1 (hp0.trans hp)
    rw [codeE, if_pos hno] at this
    simp
    exact this
end Go.Proofs.YtefjnnghfloddaaGreat.Abs

/- Specifications: the reference's rows. -/
namespace Go.Proofs.YtefjnnghfloddaaGreat.Abs
set_option linter.unusedVariables false
set_option linter.unusedSimpArgs false
set_option linter.unusedSectionVars false
open Ff
structure RsI (f : Fd) (vm vl : V) (a : Int) (l : List Int) (m : Mem) (k : Nat) (e : Env) (m' : Mem) : Prop where
  d : ∃ i : Nat, e 1 = I a ∧ e 2 = vl ∧ e 3 = .ptr m.length 0 ∧ e 7 = .sl (m.length + 1) 0 l.length l.length 1 true ∧ e 8 = I i ∧ i ≤ l.length ∧ l.length - i = k ∧ Pre m m' ∧ At m' m.length [I f.p, I f.n, vm] 2 ∧ At m' (m.length + 1) ((mapTo (List.replicate l.length 0) (fun j => f.F.mul a (l.getD j 0)) i).map I) 2
theorem rscale_wv {v vl : V} {f : Fd} {a : Int} {l : List Int} {m : Mem} {Q : V → Mem → Prop} (hg : RF m v f) (ha : f.F.E a) (hl : Ints m vl l) (hE : ∀ i, f.F.E (l.getD i 0)) (hlen : l.length ≤ 1000000)
    (hQ : ∀ b m', Pre m m' → m.length ≤ b → At m' b ((f.F.rowScale a l).map I) 2 → Q (.sl b 0 l.length l.length 1 true) m') : WV (DD 153 [v, I a, vl] m) Q := by
  have hg' := hg
  obtain ⟨hf, vm, rfl, hv⟩ := hg
  rw [e153]
  refine WV_fin ?_
  simp [r153_0, r153_1, r153_2, r153_3, r153_4, r153_5, r153_7, c153, hv.cell, hl.len, mk22 (l := l.length) (c := l.length) (by omega) (by omega) (by omega)]
  refine W_loop (RsI f vm vl a l m) ?_ l.length _ _ ⟨⟨0, by simp, by simp, by simp, by simp, by simp, by omega, by omega, List.prefix_append _ _, by simp [At], by simp [At, mapTo_0]⟩⟩
  rintro k e m' ⟨⟨i, e1, e2, e3, e7, e8, hi, hk, hpre, hA, hB⟩⟩
  obtain ⟨c0, c1, c2, c3⟩ := box_la hA (m := m)
  have hlen2 := (hl.pre hpre).len
  by_cases hlt : i < l.length
  · obtain ⟨b, o, a1, a2⟩ := (hl.pre hpre).at (ix := i) (by omega) (by omega)
    rw [Int.toNat_natCast] at a2
    have w1 : IntKind.i64.wrap ((i : Int) + 1) = i + 1 := wrap64_in (by omega) (by omega)
    have hix := ia22 (b := m.length + 1) (o := 0) (n := l.length) (c := l.length) (ex := true) (ix := (i : Int)) (by omega) (by omega)
    simp only [Int.toNat_natCast, Nat.zero_add] at hix
    simp [l153_6, r153_0, r153_1, r153_2, r153_3, r153_4, r153_5, r153_7, c153, e1, e2, e3, e7, e8, hlen2, hlt, a1, a2, c0, -List.getD_eq_getElem?_getD]
    refine WR_bnd (rmul_wv (hg'.pre hpre) ha (hE i) fun m2 hp2 => ?_)
    have hA2 := Pre.at hp2 hA
    have hB2 := Pre.at hp2 hB
    have hst := sc_ints hB2 (o := i) (x := f.F.mul a (l.getD i 0)) (by simpa using hlt)
    rw [mapTo_set (List.replicate l.length 0) (fun j => f.F.mul a (l.getD j 0)) i (by simpa using hlt)] at hst
    simp [hix, hst, e1, e2, e3, e7, e8, w1, -List.getD_eq_getElem?_getD]
    exact ⟨l.length - (i + 1), by omega, ⟨i + 1, by simp [e1], by simp [e2], by simp [e3], by simp [e7], by simp, by omega, rfl, Pre.set (hpre.trans hp2) (by omega) _, At.set_ne hA2 (by omega), At.set_self hB2⟩⟩
  · have hil : i = l.length := by omega
    subst hil
    simp [l153_6, r153_0, r153_1, r153_2, r153_3, r153_4, r153_5, r153_7, c153, e2, e7, e8, hlen2]
    refine hQ _ m' hpre (by omega) ?_
    have := mapTo_end (List.replicate l.length 0) (fun j => f.F.mul a (l.getD j 0))
    rw [List.length_replicate] at this
    rw [this] at hB
    have e : f.F.rowScale a l = (List.range l.length).map fun j => f.F.mul a (l.getD j 0) := by
      apply List.ext_getElem
      · simp
      intro j h1 h2
      simp at h1
      simp [rowScale, h1]
    rw [e]; exact hB
structure RtI (f : Fd) (vm v1 v2 : V) (a : Int) (v u : List Int) (m : Mem) (k : Nat) (e : Env) (m' : Mem) : Prop where
  d : ∃ i : Nat, e 1 = v1 ∧ e 2 = I a ∧ e 3 = v2 ∧ e 4 = .ptr m.length 0 ∧ e 9 = .sl (m.length + 1) 0 v.length v.length 1 true ∧ e 10 = I i ∧ i ≤ v.length ∧ v.length - i = k ∧ Pre m m' ∧ At m' m.length [I f.p, I f.n, vm] 2 ∧ At m' (m.length + 1) ((mapTo (List.replicate v.length 0) (ra1 f.F v a u) i).map I) 2
theorem raddTo_wv {fv v1 v2 : V} {f : Fd} {a : Int} {v u : List Int} {m : Mem} {Q : V → Mem → Prop} (hg : RF m fv f) (ha : f.F.E a) (h1 : Ints m v1 v) (h2 : Ints m v2 u) (hvE : ∀ i, f.F.E (v.getD i 0)) (huE : ∀ i, f.F.E (u.getD i 0)) (hl : u.length = v.length) (hlen : v.length ≤ 1000000)
    (hQ : ∀ b m', Pre m m' → m.length ≤ b → At m' b ((f.F.rowAdd v a u).map I) 2 → Q (.sl b 0 v.length v.length 1 true) m') : WV (DD 75 [fv, v1, I a, v2] m) Q := by
  have hg' := hg
  obtain ⟨hf, vm, rfl, hv⟩ := hg
  rw [e75]
  refine WV_fin ?_
  simp [r75_0, r75_1, r75_2, r75_3, r75_4, r75_5, r75_6, r75_7, r75_9, c75, hv.cell, h1.len, mk22 (l := v.length) (c := v.length) (by omega) (by omega) (by omega)]
  refine W_loop (RtI f vm v1 v2 a v u m) ?_ v.length _ _ ⟨⟨0, by simp, by simp, by simp, by simp, by simp, by simp, by omega, by omega, List.prefix_append _ _, by simp [At], by simp [At, mapTo_0]⟩⟩
  rintro k e m' ⟨⟨i, e1, e2, e3, e4, e9, e10, hi, hk, hpre, hA, hB⟩⟩
  obtain ⟨c0, c1, c2, c3⟩ := box_la hA (m := m)
  have hlen1 := (h1.pre hpre).len
  by_cases hlt : i < v.length
  · obtain ⟨b1, o1, a1, a2⟩ := (h1.pre hpre).at (ix := i) (by omega) (by omega)
    rw [Int.toNat_natCast] at a2
    have w1 : IntKind.i64.wrap ((i : Int) + 1) = i + 1 := wrap64_in (by omega) (by omega)
    have hix := ia22 (b := m.length + 1) (o := 0) (n := v.length) (c := v.length) (ex := true) (ix := (i : Int)) (by omega) (by omega)
    simp only [Int.toNat_natCast, Nat.zero_add] at hix
    have hst := sc_ints hB (o := i) (x := v.getD i 0) (by simpa using hlt)
    generalize hC : (mapTo (List.replicate v.length 0) (ra1 f.F v a u) i).set i (v.getD i 0) = C at *
    have hpre2 : Pre m (m'.set (m.length + 1) ⟨C.map I, 2⟩) := hpre.set (by omega) _
    have hA2 : At (m'.set (m.length + 1) ⟨C.map I, 2⟩) m.length [I f.p, I f.n, vm] 2 := At.set_ne hA (by omega)
    have hB2 : At (m'.set (m.length + 1) ⟨C.map I, 2⟩) (m.length + 1) (C.map I) 2 := At.set_self hB
    obtain ⟨b2, o2, a3, a4⟩ := (h2.pre hpre2).at (ix := i) (by omega) (by omega)
    obtain ⟨b3, o3, a5, a6⟩ := (h1.pre hpre2).at (ix := i) (by omega) (by omega)
    rw [Int.toNat_natCast] at a4 a6
    have e13 : V.ptr b3 o3 = V.ptr b1 o1 := Option.some.inj (a5.symm.trans a1)
    injection e13 with e13 e13'
    subst e13 e13'
    have hmt := mapTo_set (List.replicate v.length 0) (ra1 f.F v a u) i (by simpa using hlt)
    by_cases h0 : u.getD i 0 = 0
    · simp [l75_8, r75_0, r75_1, r75_2, r75_3, r75_4, r75_5, r75_6, r75_7, r75_9, c75, e1, e2, e3, e4, e9, e10, hlen1, hlt, a1, a2, hix, hst, a3, a4, h0, w1, -List.getD_eq_getElem?_getD]
      refine ⟨v.length - (i + 1), by omega, ⟨i + 1, by simp [e1], by simp [e2], by simp [e3], by simp [e4], by simp [e9], by simp, by omega, rfl, hpre2, hA2, ?_⟩⟩
      rw [← hmt, ra1, if_pos h0, hC]; exact hB2
    · simp [l75_8, r75_0, r75_1, r75_2, r75_3, r75_4, r75_5, r75_6, r75_7, r75_9, c75, e1, e2, e3, e4, e9, e10, hlen1, hlt, a1, a2, hix, hst, a3, a4, h0, (box_la hA2 (m := m)).1, a6, -List.getD_eq_getElem?_getD]
      refine WR_bnd (rmul_wv (hg'.pre hpre2) ha (huE i) fun m2 hp2 => ?_)
      simp [chkd_of hp2, -List.getD_eq_getElem?_getD]
      refine WR_bnd (radd_wv ((hg'.pre hpre2).pre hp2) (hvE i) (by have := hf.F; exact this.mulE) fun m3 hp3 => ?_)
      have hp23 := hp2.trans hp3
      have hA3 := Pre.at hp23 hA2
      have hB3 := Pre.at hp23 hB2
      have hCl : C.length = v.length := by rw [← hC]; simp
      have hst3 := sc_ints hB3 (o := i) (x := ra1 f.F v a u i) (by omega)
      rw [← hC, List.set_set, hmt, ra1, if_neg h0] at hst3
      simp [hix, hst3, e1, e2, e3, e4, e9, e10, w1, -List.getD_eq_getElem?_getD]
      exact ⟨v.length - (i + 1), by omega, ⟨i + 1, by simp [e1], by simp [e2], by simp [e3], by simp [e4], by simp [e9], by simp, by omega, rfl, Pre.set (hpre2.trans hp23) (by omega) _, At.set_ne hA3 (by omega), At.set_self hB3⟩⟩
  · have hil : i = v.length := by omega
    subst hil
    simp [l75_8, r75_0, r75_1, r75_2, r75_3, r75_4, r75_5, r75_6, r75_7, r75_9, c75, e1, e9, e10, hlen1]
    refine hQ _ m' hpre (by omega) ?_
    have := mapTo_end (List.replicate v.length 0) (ra1 f.F v a u)
    rw [List.length_replicate] at this
    rw [this] at hB
    exact hB
end Go.Proofs.YtefjnnghfloddaaGreat.Abs

/- Specifications: the reference's elimination. -/
namespace Go.Proofs.YtefjnnghfloddaaGreat.Abs
set_option linter.unusedVariables false
set_option linter.unusedSimpArgs false
set_option linter.unusedSectionVars false
open Ff
theorem lit25 (u : V) (hu : u.isCell = true) (m : Mem) : opBuildSlice T 25 1 [(0, u)] m = some (.sl m.length 0 1 1 1 true, m ++ [⟨[u], 2⟩]) := by
  have h : u.cells = [u] := by cases u <;> simp [V.cells, V.isCell] at hu ⊢
  simp [opBuildSlice, T25, T22, fillA, zeros, h, hu]
theorem append25 {m0 m : Mem} {s u : V} {cs : List V} (hs : FreshV m0 m s cs) (h0 : Pre m0 m) (hl : cs.length < 1000000) :
    ∃ v' m', opAppend T 25 25 s (.sl m.length 0 1 1 1 true) (m ++ [⟨[u], 2⟩]) = some (v', m') ∧ FreshV m0 m' v' (cs ++ [u]) ∧ Pre m0 m' ∧ m.length ≤ m'.length ∧ (∀ b k, Off s b → m[b]? = some k → m'[b]? = some k) ∧ (∀ b, b < m.length → Off s b → Off v' b) := by
  obtain ⟨v', m', h1, h2, h3, h4, h5, h6⟩ := append_fresh (t := 25) (t2 := 25) (news := [u]) T25 rfl T25 rfl T22 rfl (by decide) (hs.app [⟨[u], 2⟩]) (h0.app _) (x := .sl m.length 0 1 1 1 true) rfl (by
    have := cells_of (o := 0) (n := 1) (c := 1) (k := 1) (ex := true) (At.new1 m [u] 2) (by omega) (by omega) (by simp)
    simpa using this) (by simp; omega)
  simp only [List.length_append, List.length_cons, List.length_nil] at h4 h6
  exact ⟨v', m', h1, h2, h3, by omega, fun b k ho h => h5 b k ho (At.app (l := k.cells) (st := k.st) h _), fun b hb ho => h6 b (by omega) ho⟩
theorem append_lit2 {m : Mem} {x : V} {k : List Int} (hx : Ints m x k) (hl : k.length ≤ 1000000000) :
    ∃ b ex m', opAppend T 22 22 (.sl m.length 0 0 0 1 true) x (m ++ [⟨[], 2⟩]) = some (.sl b 0 k.length k.length 1 ex, m') ∧ m.length ≤ b ∧ At m' b (k.map I) 2 ∧ Pre m m' := by
  obtain ⟨v', m', a1, a2, a3, a4, a5⟩ := append_lit hx hl
  rcases a2 with ⟨h, _⟩ | ⟨b, ex, rfl, h2, h3⟩
  · exact (a5 h).elim
  · rw [List.length_map] at a1
    exact ⟨b, ex, m', a1, h2, h3, a3⟩
structure RcpI (m : Mem) (v : V) (l : List (List Int)) (k : Nat) (e : Env) (m' : Mem) : Prop where
  d : ∃ (i : Nat) (b : Nat → Nat) (x : Nat → Bool) (out : V), e 0 = v ∧ e 3 = out ∧ e 4 = I i ∧ i ≤ l.length ∧ l.length - i = k ∧ Pre m m' ∧ FreshV m m' out ((List.range i).map (rsl l b x)) ∧ (∀ j, j < i → m.length ≤ b j ∧ Off out (b j) ∧ At m' (b j) ((rw_ l j).map I) 2) ∧ ∀ j k, j < i → k < i → j ≠ k → b j ≠ b k
theorem rcopy_wv {v : V} {l : List (List Int)} {m : Mem} {Q : V → Mem → Prop} (hv : Rows m v l) (h0 : ∀ i, i < l.length → (rw_ l i).length ≤ 1000000) (hl : l.length ≤ 1000)
    (h1 : l = [] → Q .nils m) (h2 : ∀ B b x ex m', l ≠ [] → Pre m m' → RA m [] m' B l b x → Q (.sl B 0 l.length l.length 1 ex) m') : WV (DD 152 [v] m) Q := by
  rw [e152]
  refine WV_fin ?_
  simp [r152_0, r152_1, r152_2, r152_3, r152_4, r152_5, r152_7, c152]
  by_cases hle : l = []
  · subst hle
    have hlen := hv.len
    simp at hlen
    refine W_loop (fun _ e m' => e 0 = v ∧ e 3 = .nils ∧ e 4 = I 0 ∧ m' = m) ?_ 0 _ _ ⟨by simp, by simp, by simp, rfl⟩
    rintro k e m' ⟨e0, e3, e4, rfl⟩
    simp [l152_6, r152_0, r152_1, r152_2, r152_3, r152_4, r152_5, r152_7, c152, e0, e3, e4, hlen]
    exact h1 rfl
  refine W_loop (RcpI m v l) ?_ l.length _ _ ⟨⟨0, fun _ => 0, fun _ => true, .nils, by simp, by simp, by simp, by omega, by omega, List.prefix_refl _, .inl ⟨rfl, rfl⟩, fun j hj => by omega, fun j k hj => by omega⟩⟩
  rintro k e m' ⟨⟨i, b, x, out, e0, e3, e4, hi, hk, hpre, hF, hrow, hinj⟩⟩
  have hlen := (hv.pre hpre).len
  by_cases hlt : i < l.length
  · obtain ⟨b1, o1, u, a1, a2, a3⟩ := (hv.pre hpre).at (ix := i) (by omega) (by omega)
    rw [Int.toNat_natCast] at a3
    have a2' : lc (m' ++ [⟨[], 2⟩]) b1 o1 = some u := by
      simp only [lc] at a2 ⊢
      have hb1 : b1 < m'.length := by
        rcases Nat.lt_or_ge b1 m'.length with h | h
        · exact h
        · rw [List.getElem?_eq_none h] at a2; simp [lcb] at a2
      rw [List.getElem?_append_left hb1]; exact a2
    obtain ⟨nb, ex, m2, c1, c2, c3, c4⟩ := append_lit2 a3 (by have := h0 i hlt; rw [rw_] at this; omega)
    obtain ⟨v', m3, d1, d2, d3, d4, d5, d6⟩ := append25 (u := .sl nb 0 (rw_ l i).length (rw_ l i).length 1 ex) (hF.pre c4) (hpre.trans c4) (by simp; omega)
    have w1 : IntKind.i64.wrap ((i : Int) + 1) = (i + 1 : Nat) := by rw [wrap64_in (by omega) (by omega)]; omega
    have c1' : opAppend T 22 22 (.sl m'.length 0 0 0 1 true) u (m' ++ [⟨[], 2⟩]) = some (.sl nb 0 (rw_ l i).length (rw_ l i).length 1 ex, m2) := c1
    simp [l152_6, r152_0, r152_1, r152_2, r152_3, r152_4, r152_5, r152_7, c152, e0, e3, e4, hlen, hlt, a1, a2', c1', lit25, d1, w1, -Int.natCast_add]
    have hnblt := At.lt c3
    have hoff : Off out nb := by
      rcases hF with ⟨rfl, _⟩ | ⟨bo, exo, rfl, _, h3⟩
      · exact Off.nils nb
      · have := At.lt h3
        exact Off.sl (by omega)
    refine ⟨l.length - (i + 1), by omega, ⟨i + 1, fun j => if j = i then nb else b j, fun j => if j = i then ex else x j, v', by simp [e0], by simp, by simp [-Int.natCast_add], by omega, rfl, d3, ?_, fun j hj => ?_, fun j k hj hk hne => ?_⟩⟩
    · have : (List.range (i + 1)).map (rsl l (fun j => if j = i then nb else b j) (fun j => if j = i then ex else x j)) = (List.range i).map (rsl l b x) ++ [.sl nb 0 (rw_ l i).length (rw_ l i).length 1 ex] := by
        rw [List.range_succ, List.map_append]
        congr 1
        · apply List.map_congr_left
          intro j hj
          have := List.mem_range.1 hj
          simp only [rsl]
          rw [if_neg (by omega), if_neg (by omega)]
        · simp [rsl]
      rw [this]; exact d2
    · by_cases e : j = i
      · subst e
        simp only [if_true]
        exact ⟨by have := hpre.len; omega, d6 _ hnblt hoff, d5 _ _ hoff c3⟩
      · simp only [e, if_false]
        obtain ⟨g1, g2, g3⟩ := hrow j (by omega)
        have := Pre.at c4 g3
        exact ⟨g1, d6 _ (At.lt this) g2, d5 _ _ g2 this⟩
    · by_cases e1 : j = i
      · by_cases e2 : k = i
        · omega
        · simp only [e1, e2, if_true, if_false]
          have := (hrow k (by omega)).2.2.lt
          omega
      · by_cases e2 : k = i
        · simp only [e1, e2, if_true, if_false]
          have := (hrow j (by omega)).2.2.lt
          omega
        · simp only [e1, e2, if_false]; exact hinj j k (by omega) (by omega) hne
  · have hil : i = l.length := by omega
    subst hil
    simp [l152_6, r152_0, r152_1, r152_2, r152_3, r152_4, r152_5, r152_7, c152, e0, e3, e4, hlen]
    have hpos : l.length ≠ 0 := by simpa using hle
    rcases hF with ⟨_, h⟩ | ⟨B, ex, rfl, hB0, hB⟩
    · simp at h; exact (hle h).elim
    · simp
      refine h2 B b x ex m' hle hpre ⟨hB0, by simp, hB, fun j hj => ?_, hinj⟩
      obtain ⟨g1, g2, g3⟩ := hrow j hj
      refine ⟨g1, ?_, by simp, g3⟩
      intro e
      exact g2 0 _ _ _ _ (by rw [e])
structure RM (f : Fd) (vm : V) (m0 : Mem) (fb B n t : Nat) (l : List (List Int)) (piv : List Int) (b : Nat → Nat) (x : Nat → Bool) (vp : V) (m' : Mem) : Prop where
  pre : Pre m0 m'
  G : At m' fb [I f.p, I f.n, vm] 2
  ra : RA m0 [fb] m' B l b x
  mat : f.F.Mat l t
  len : l.length = n
  vpF : FreshA m0 m' vp piv
  off : Off vp fb ∧ Off vp B ∧ ∀ i, i < n → Off vp (b i)
section
variable {f : Fd} {vm : V} {m0 : Mem} {fb B n t : Nat} {l : List (List Int)} {piv : List Int} {b : Nat → Nat} {x : Nat → Bool} {vp : V} {m' : Mem} (h : RM f vm m0 fb B n t l piv b x vp m')
include h
theorem RM.app (gg : Mem) : RM f vm m0 fb B n t l piv b x vp (m' ++ gg) := ⟨h.pre.app gg, At.app h.G _, h.ra.app gg, h.mat, h.len, h.vpF.app gg, h.off⟩
theorem RM.up {m2 : Mem} (hm : Pre m' m2) : RM f vm m0 fb B n t l piv b x vp m2 := by obtain ⟨g, rfl⟩ := hm; exact h.app g
theorem RM.Bf : B ≠ fb := by have := h.ra.BA; simpa using this
theorem RM.swap {i k : Nat} (hi : i < n) (hk : k < n) : RM f vm m0 fb B n t (swapL l i k) piv (sw i k b) (sw i k x) vp (m'.set B ⟨rcells (swapL l i k) (sw i k b) (sw i k x), 2⟩) := by
  have hi' : i < l.length := by rw [h.len]; exact hi
  have hk' : k < l.length := by rw [h.len]; exact hk
  refine ⟨h.pre.set h.ra.B0 _, At.set_ne h.G h.Bf, h.ra.swap hi' hk', Mat_swap h.mat hi' hk', by rw [swapL_len, h.len], h.vpF.set_off h.off.2.1 _, h.off.1, h.off.2.1, fun j hj => ?_⟩
  simp only [sw]
  split
  · exact h.off.2.2 k hk
  · split
    · exact h.off.2.2 i hi
    · exact h.off.2.2 j hj
theorem RM.put {i nb : Nat} {v : List Int} {ex : Bool} {m2 : Mem} (hm : Pre m' m2) (hnb : m'.length ≤ nb) (hv : At m2 nb (v.map I) 2) (hi : i < n) (hl : v.length = t) (hE : ∀ j, f.F.E (v.getD j 0)) :
    RM f vm m0 fb B n t (l.set i v) piv (fun j => if j = i then nb else b j) (fun j => if j = i then ex else x j) vp (m2.set B ⟨(rcells l b x).set i (.sl nb 0 v.length v.length 1 ex), 2⟩) := by
  have hi' : i < l.length := by rw [h.len]; exact hi
  have h2 := h.up hm
  have hn := h.ra.new hnb
  have hf := h.G.lt
  have hp := h.pre.len
  refine ⟨h2.pre.set h.ra.B0 _, At.set_ne h2.G h.Bf, h2.ra.put hi' (by omega) hn.1 (by simp; omega) hn.2 hv, Mat_set h.mat hi' hl hE, by rw [List.length_set, h.len], h2.vpF.set_off h.off.2.1 _, h.off.1, h.off.2.1, fun j hj => ?_⟩
  by_cases e : j = i
  · simp only [e, if_true]; exact h.vpF.off hnb
  · simp only [e, if_false]; exact h.off.2.2 j hj
theorem RM.append (c : Int) (hl : piv.length < 1000000000) :
    ∃ v' m'', opAppend T 22 22 vp (.sl m'.length 0 1 1 1 true) (m' ++ [⟨[I c], 2⟩]) = some (v', m'') ∧ RM f vm m0 fb B n t l (piv ++ [c]) b x v' m'' := by
  obtain ⟨v', m'', a1, a2, a3, a4, a5, a6⟩ := append22 (x := c) h.vpF h.pre hl
  obtain ⟨o1, o4, o5⟩ := h.off
  have hBl := h.ra.at_.lt
  refine ⟨v', m'', a1, a3, a5 _ _ o1 h.G, ⟨h.ra.B0, h.ra.BA, a5 _ _ o4 h.ra.at_, fun i hi => ?_, h.ra.inj⟩, h.mat, h.len, a2, a6 _ h.G.lt o1, a6 _ hBl o4, fun i hi => ?_⟩
  · have := h.ra.row i hi
    exact ⟨this.1, this.2.1, this.2.2.1, a5 _ _ (o5 i (by rw [← h.len]; exact hi)) this.2.2.2⟩
  · exact a6 _ (h.ra.row i (by rw [h.len]; exact hi)).2.2.2.lt (o5 i hi)
end
end Go.Proofs.YtefjnnghfloddaaGreat.Abs

/- Specifications: the reference's elimination, as a whole. -/
namespace Go.Proofs.YtefjnnghfloddaaGreat.Abs
set_option linter.unusedVariables false
set_option linter.unusedSimpArgs false
set_option linter.unusedSectionVars false
open Ff
structure RS (t fb B n : Nat) (ex : Bool) (vp : V) (at_ c : Nat) (e : Env) : Prop where
  e2 : e 2 = I t
  e3 : e 3 = .ptr fb 0
  e8 : e 8 = .sl B 0 n n 1 ex
  e9 : e 9 = vp
  e10 : e 10 = I at_
  e11 : e 11 = I c
structure RfI (t fb B n : Nat) (ex : Bool) (vp : V) (at_ c : Nat) (l : List (List Int)) (M1 : Mem) (k : Nat) (e : Env) (m' : Mem) : Prop where
  d : ∃ j : Nat, RS t fb B n ex vp at_ c e ∧ e 12 = I j ∧ at_ ≤ j ∧ j ≤ n ∧ n - j = k ∧ (∀ i, at_ ≤ i → i < j → en l i c = 0) ∧ m' = M1
theorem rfind_W {f : Fd} {vm : V} {m0 M1 : Mem} {fb B n t c at_ : Nat} {ex : Bool} {l : List (List Int)} {piv : List Int} {b : Nat → Nat} {x : Nat → Bool} {vp : V} {e : Env} {Q : Ex → Env → Mem → Prop}
    (h : RM f vm m0 fb B n t l piv b x vp M1) (hn : n ≤ 256) (hc : c < t) (hat : at_ ≤ n) (hS : RS t fb B n ex vp at_ c e) (e12 : e 12 = I at_)
    (hQ : ∀ (e' : Env) (j : Nat), RS t fb B n ex vp at_ c e' → e' 12 = I j → ((j = n ∧ ∀ i, at_ ≤ i → i < n → en l i c = 0) ∨ First (fun k => en l k c ≠ 0) at_ n j) → Q (.exit 2) e' M1) :
    W (loopD (l131_9 DD) e M1) Q := by
  have hlen := h.len
  refine W_loop (RfI t fb B n ex vp at_ c l M1) ?_ (n - at_) _ _ ⟨⟨at_, hS, e12, Nat.le_refl _, by omega, rfl, fun i h1 h2 => by omega, rfl⟩⟩
  rintro k e m' ⟨⟨j, hS, e12, hj0, hj, hk, hall, rfl⟩⟩
  by_cases hlt : j < n
  · have hjl : j < l.length := by omega
    have i1 := ia25 (b := B) (o := 0) (n := n) (c := n) (ex := ex) (ix := (j : Int)) (by omega) (by omega)
    simp only [Int.toNat_natCast, Nat.zero_add] at i1
    have i2 := ia22 (b := b j) (o := 0) (n := (rw_ l j).length) (c := (rw_ l j).length) (ex := x j) (ix := (c : Int)) (by omega) (by rw [h.mat.len j hjl]; omega)
    simp only [Int.toNat_natCast, Nat.zero_add] at i2
    have l2 : lc m' (b j) c = some (I (en l j c)) := lc_ints (h.ra.row j hjl).2.2.2 (by omega) (by rw [h.mat.len j hjl]; omega)
    have l1 := h.ra.lc hjl
    rw [rsl] at l1
    have w1 : IntKind.i64.wrap ((j : Int) + 1) = (j + 1 : Nat) := by rw [wrap64_in (by omega) (by omega)]; omega
    by_cases h0 : en l j c = 0
    · simp [l131_9, r131_0, r131_1, r131_2, r131_3, r131_4, r131_5, r131_6, r131_7, r131_8, r131_10, r131_11, r131_12, r131_13, r131_14, r131_15, r131_16, r131_17, r131_18, r131_20, r131_21, r131_22, r131_24, c131, hS.e8, hS.e11, e12, hlt, i1, i2, l1, l2, h0, w1, -Int.natCast_add]
      refine ⟨n - (j + 1), by omega, ⟨j + 1, ⟨by simp [hS.e2], by simp [hS.e3], by simp [hS.e8], by simp [hS.e9], by simp [hS.e10], by simp [hS.e11]⟩, by simp [-Int.natCast_add], by omega, by omega, rfl, fun i h3 h4 => ?_, rfl⟩⟩
      by_cases e : i = j
      · subst e; exact h0
      · exact hall i h3 (by omega)
    · simp [l131_9, r131_0, r131_1, r131_2, r131_3, r131_4, r131_5, r131_6, r131_7, r131_8, r131_10, r131_11, r131_12, r131_13, r131_14, r131_15, r131_16, r131_17, r131_18, r131_20, r131_21, r131_22, r131_24, c131, hS.e8, hS.e11, e12, hlt, i1, i2, l1, l2, h0, w1, -Int.natCast_add]
      exact hQ _ j ⟨by simp [hS.e2], by simp [hS.e3], by simp [hS.e8], by simp [hS.e9], by simp [hS.e10], by simp [hS.e11]⟩ (by simp [e12]) (.inr ⟨hj0, hlt, h0, fun i h3 h4 => by simpa using hall i h3 h4⟩)
  · have hjn : j = n := by omega
    subst hjn
    simp [l131_9, r131_0, r131_1, r131_2, r131_3, r131_4, r131_5, r131_6, r131_7, r131_8, r131_10, r131_11, r131_12, r131_13, r131_14, r131_15, r131_16, r131_17, r131_18, r131_20, r131_21, r131_22, r131_24, c131, hS.e8, e12]
    exact hQ _ j ⟨by simp [hS.e2], by simp [hS.e3], by simp [hS.e8], by simp [hS.e9], by simp [hS.e10], by simp [hS.e11]⟩ (by simp [e12]) (.inl ⟨rfl, hall⟩)
structure RcI2 (f : Fd) (vm : V) (m0 : Mem) (fb B n t : Nat) (ex : Bool) (vp : V) (at_ c : Nat) (piv : List Int) (l : List (List Int)) (k : Nat) (e : Env) (m' : Mem) : Prop where
  d : ∃ (i : Nat) (b : Nat → Nat) (x : Nat → Bool), RS t fb B n ex vp at_ c e ∧ e 13 = I i ∧ i ≤ n ∧ n - i = k ∧ RM f vm m0 fb B n t (f.F.clr l at_ c i) piv b x vp m'
theorem rclear_W {f : Fd} {vm : V} {m0 M1 : Mem} {fb B n t c at_ : Nat} {ex : Bool} {l : List (List Int)} {piv : List Int} {b : Nat → Nat} {x : Nat → Bool} {vp : V} {e : Env} {Q : Ex → Env → Mem → Prop}
    (hf : f.Ok) (hv : Ints m0 vm f.mod) (h : RM f vm m0 fb B n t l piv b x vp M1) (hn : n ≤ 256) (htb : t ≤ 256) (hc : c < t) (hat : at_ < n) (hS : RS t fb B n ex vp at_ c e) (e13 : e 13 = I 0)
    (hQ : ∀ (e' : Env) (m' : Mem) (b : Nat → Nat) (x : Nat → Bool), RS t fb B n ex vp at_ c e' → RM f vm m0 fb B n t (f.F.clr l at_ c n) piv b x vp m' → Q (.exit 4) e' m') :
    W (loopD (l131_19 DD) e M1) Q := by
  have hlen := h.len
  refine W_loop (RcI2 f vm m0 fb B n t ex vp at_ c piv l) ?_ n _ _ ⟨⟨0, b, x, hS, by simpa using e13, by omega, by omega, by rw [clr_0]; exact h⟩⟩
  have hM0 := h.mat
  clear h hS e13
  rintro k e m' ⟨⟨i, b, x, hS, e13, hi, hk, h⟩⟩
  have hRF : RF m' (.agg [I f.p, I f.n, vm]) f := ⟨hf, vm, rfl, hv.pre h.pre⟩
  by_cases hlt : i < n
  · have hil : i < l.length := by omega
    have hil' : i < (f.F.clr l at_ c i).length := by rw [clr_len]; exact hil
    have hal' : at_ < (f.F.clr l at_ c i).length := by rw [clr_len]; omega
    have ri : rw_ (f.F.clr l at_ c i) i = rw_ l i := clr_row _ _ _ _ _ _ hil (.inl (Nat.le_refl _))
    have ra : rw_ (f.F.clr l at_ c i) at_ = rw_ l at_ := clr_row _ _ _ _ _ _ (by omega) (.inr rfl)
    have w1 : IntKind.i64.wrap ((i : Int) + 1) = (i + 1 : Nat) := by rw [wrap64_in (by omega) (by omega)]; omega
    have i1 := ia25 (b := B) (o := 0) (n := n) (c := n) (ex := ex) (ix := (i : Int)) (by omega) (by omega)
    have i3 := ia25 (b := B) (o := 0) (n := n) (c := n) (ex := ex) (ix := (at_ : Int)) (by omega) (by omega)
    simp only [Int.toNat_natCast, Nat.zero_add] at i1 i3
    have l1 := h.ra.lc hil'
    rw [rsl, ri, hM0.len i hil] at l1
    have i2 := ia22 (b := b i) (o := 0) (n := t) (c := t) (ex := x i) (ix := (c : Int)) (by omega) (by omega)
    simp only [Int.toNat_natCast, Nat.zero_add] at i2
    have l2 : lc m' (b i) c = some (I (en l i c)) := by
      have := lc_ints (o := c) (h.ra.row i hil').2.2.2 (by omega) (by rw [ri, hM0.len i hil]; omega)
      rw [ri] at this; exact this
    obtain ⟨c0, _⟩ := box_la h.G (m := m')
    by_cases hcond : i ≠ at_ ∧ en l i c ≠ 0
    · have hcs := clr_step f.F l at_ c i hil
      rw [if_pos hcond] at hcs
      have hne : ¬ ((i : Int) = at_) := by omega
      simp [l131_19, r131_0, r131_1, r131_2, r131_3, r131_4, r131_5, r131_6, r131_7, r131_8, r131_10, r131_11, r131_12, r131_13, r131_14, r131_15, r131_16, r131_17, r131_18, r131_20, r131_21, r131_22, r131_24, c131, hS.e3, hS.e8, hS.e10, hS.e11, e13, hlt, i1, l1, i2, l2, c0, hne, hcond.2, w1, -Int.natCast_add]
      refine WR_bnd (rneg_wv hRF (hM0.el i c) fun m2 hp2 => ?_)
      have h2 := h.up hp2
      have l3 := h2.ra.lc hal'
      have hi1 := h2.ra.ints hil'
      have hi2 := h2.ra.ints hal'
      rw [rsl, ri, hM0.len i hil] at hi1
      rw [ra] at hi2
      simp [chkd_of hp2, i3, l3]
      refine WR_bnd (raddTo_wv (hRF.pre hp2) hf.F.negE hi1 hi2 (hM0.el i) (hM0.el at_) (by rw [hM0.len i hil, hM0.len at_ (by omega)]) (by rw [hM0.len i hil]; omega) fun nb m3 hp3 hnb hat3 => ?_)
      have hput := h2.put (i := i) (ex := true) hp3 hnb hat3 hlt (by rw [rowAdd_len, hM0.len i hil]) (rowAdd_E hf.F (hM0.el i))
      rw [← hcs, rowAdd_len] at hput
      have h3 := h2.up hp3
      have hst := sc_at h3.ra.at_ (u := .sl nb 0 (rw_ l i).length (rw_ l i).length 1 true) rfl (o := i) (by simpa using hil)
      simp [i1, st22, hst, hS.e8, e13, w1, -Int.natCast_add]
      refine ⟨n - (i + 1), by omega, ⟨i + 1, _, _, ?_, ?_, by omega, rfl, hput⟩⟩
      · exact ⟨by simp [hS.e2], by simp [hS.e3], by simp [hS.e8], by simp [hS.e9], by simp [hS.e10], by simp [hS.e11]⟩
      · simp [-Int.natCast_add]
    · have hcs := clr_step f.F l at_ c i hil
      rw [if_neg hcond] at hcs
      rw [← hcs] at h
      by_cases hia : i = at_
      · subst hia
        simp [l131_19, r131_0, r131_1, r131_2, r131_3, r131_4, r131_5, r131_6, r131_7, r131_8, r131_10, r131_11, r131_12, r131_13, r131_14, r131_15, r131_16, r131_17, r131_18, r131_20, r131_21, r131_22, r131_24, c131, hS.e3, hS.e8, hS.e10, hS.e11, e13, hlt, w1, -Int.natCast_add]
        refine ⟨n - (i + 1), by omega, ⟨i + 1, b, x, ?_, ?_, by omega, rfl, h⟩⟩
        · exact ⟨by simp [hS.e2], by simp [hS.e3], by simp [hS.e8], by simp [hS.e9], by simp [hS.e10], by simp [hS.e11]⟩
        · simp [-Int.natCast_add]
      · have h0 : en l i c = 0 := Classical.byContradiction fun hh => hcond ⟨hia, hh⟩
        have hne : ¬ ((i : Int) = at_) := by omega
        rw [h0] at l2
        simp [l131_19, r131_0, r131_1, r131_2, r131_3, r131_4, r131_5, r131_6, r131_7, r131_8, r131_10, r131_11, r131_12, r131_13, r131_14, r131_15, r131_16, r131_17, r131_18, r131_20, r131_21, r131_22, r131_24, c131, hS.e3, hS.e8, hS.e10, hS.e11, e13, hlt, i1, l1, i2, l2, hne, hia, w1, -Int.natCast_add]
        refine ⟨n - (i + 1), by omega, ⟨i + 1, b, x, ?_, ?_, by omega, rfl, h⟩⟩
        · exact ⟨by simp [hS.e2], by simp [hS.e3], by simp [hS.e8], by simp [hS.e9], by simp [hS.e10], by simp [hS.e11]⟩
        · simp [-Int.natCast_add]
  · have hin : i = n := by omega
    subst hin
    simp [l131_19, r131_0, r131_1, r131_2, r131_3, r131_4, r131_5, r131_6, r131_7, r131_8, r131_10, r131_11, r131_12, r131_13, r131_14, r131_15, r131_16, r131_17, r131_18, r131_20, r131_21, r131_22, r131_24, c131, hS.e8, e13]
    exact hQ _ m' b x ⟨by simp [hS.e2], by simp [hS.e3], by simp [hS.e8], by simp [hS.e9], by simp [hS.e10], by simp [hS.e11]⟩ h
noncomputable def rrestR : Run := (sq (sq (rg (r131_12 DD)) (cnd (fun e => some (e 69)) (rg (r131_13 DD)) sk)) (sq (sq (rg (r131_14 DD)) (blk 4 (loopD (l131_19 DD)))) (sq (rg (r131_20 DD)) (rg (r131_21 DD)))))
noncomputable def rclearR : Run := (sq (sq (rg (r131_14 DD)) (blk 4 (loopD (l131_19 DD)))) (sq (rg (r131_20 DD)) (rg (r131_21 DD))))
theorem l23_eq : l131_23 DD = (sq (sq (rg (r131_5 DD)) (cnd (fun e => some (e 24)) sk (exi 0))) (sq (blk 1 (sq (rg (r131_6 DD)) (sq (blk 2 (loopD (l131_9 DD))) (sq (sq (rg (r131_10 DD)) (cnd (fun e => some (e 47)) (exi 1) sk)) (sq (rg (r131_11 DD)) rrestR))))) (rg (r131_22 DD)))) := rfl
theorem rrest_eq : rrestR = (sq (sq (rg (r131_12 DD)) (cnd (fun e => some (e 69)) (rg (r131_13 DD)) sk)) rclearR) := rfl
theorem rrest_W {f : Fd} {vm : V} {m0 m1 : Mem} {fb B n t c at_ : Nat} {ex : Bool} {l : List (List Int)} {piv : List Int} {b : Nat → Nat} {x : Nat → Bool} {vp : V} {e : Env} {Q : Ex → Env → Mem → Prop}
    (hf : f.Ok) (hv : Ints m0 vm f.mod) (h : RM f vm m0 fb B n t l piv b x vp m1) (hn : n ≤ 256) (htb : t ≤ 256) (hc : c < t) (hat : at_ < n) (hpv : piv.length ≤ 1000) (hne : en l at_ c ≠ 0) (hS : RS t fb B n ex vp at_ c e)
    (hQ : ∀ (e' : Env) (m' : Mem) (b : Nat → Nat) (x : Nat → Bool) (vp' : V), RS t fb B n ex vp' (at_ + 1) c e' → RM f vm m0 fb B n t (f.F.clr (l.set at_ (f.F.nrm (rw_ l at_) c)) at_ c n) (piv ++ [(c : Int)]) b x vp' m' → Q .normal e' m') :
    W (rrestR e m1) Q := by
  have hF := hf.F
  have hlen := h.len
  have hal : at_ < l.length := by omega
  have hRF : RF m1 (.agg [I f.p, I f.n, vm]) f := ⟨hf, vm, rfl, hv.pre h.pre⟩
  have i1 := ia25 (b := B) (o := 0) (n := n) (c := n) (ex := ex) (ix := (at_ : Int)) (by omega) (by omega)
  simp only [Int.toNat_natCast, Nat.zero_add] at i1
  have l1 := h.ra.lc hal
  rw [rsl, h.mat.len at_ hal] at l1
  have i2 := ia22 (b := b at_) (o := 0) (n := t) (c := t) (ex := x at_) (ix := (c : Int)) (by omega) (by omega)
  simp only [Int.toNat_natCast, Nat.zero_add] at i2
  have l2 : lc m1 (b at_) c = some (I (en l at_ c)) := lc_ints (o := c) (h.ra.row at_ hal).2.2.2 (by omega) (by rw [h.mat.len at_ hal]; omega)
  have hxE := h.mat.el at_ c
  have wa : IntKind.i64.wrap ((at_ : Int) + 1) = (at_ + 1 : Nat) := by rw [wrap64_in (by omega) (by omega)]; omega
  have fin : ∀ (e' : Env) (m2 : Mem) (b : Nat → Nat) (x : Nat → Bool), RS t fb B n ex vp at_ c e' → RM f vm m0 fb B n t (l.set at_ (f.F.nrm (rw_ l at_) c)) piv b x vp m2 → W (rclearR e' m2) Q := by
    intro e' m2 b x hS h
    simp [rclearR, r131_0, r131_1, r131_2, r131_3, r131_4, r131_5, r131_6, r131_7, r131_8, r131_10, r131_11, r131_12, r131_13, r131_14, r131_15, r131_16, r131_17, r131_18, r131_20, r131_21, r131_22, r131_24, c131]
    refine rclear_W (ex := ex) hf hv h hn htb hc hat ?_ ?_ ?_
    · exact ⟨by simp [hS.e2], by simp [hS.e3], by simp [hS.e8], by simp [hS.e9], by simp [hS.e10], by simp [hS.e11]⟩
    · simp
    intro e3 m3 b3 x3 hS3 h3
    obtain ⟨v', m4, a1, h4⟩ := h3.append (c : Int) (by omega)
    simp [r131_0, r131_1, r131_2, r131_3, r131_4, r131_5, r131_6, r131_7, r131_8, r131_10, r131_11, r131_12, r131_13, r131_14, r131_15, r131_16, r131_17, r131_18, r131_20, r131_21, r131_22, r131_24, c131, hS3.e9, hS3.e10, hS3.e11, lit22, a1, wa, -Int.natCast_add]
    refine hQ _ m4 b3 x3 v' ?_ h4
    exact ⟨by simp [hS3.e2], by simp [hS3.e3], by simp [hS3.e8], by simp, by simp [-Int.natCast_add], by simp [hS3.e11]⟩
  rw [rrest_eq]
  by_cases hx1 : en l at_ c = 1
  · have hnrm : l.set at_ (f.F.nrm (rw_ l at_) c) = l := by
      rw [nrm, if_pos (show (rw_ l at_).getD c 0 = 1 from hx1), set_rw l at_ hal]
    rw [hnrm] at fin
    rw [hx1] at l2
    simp [r131_0, r131_1, r131_2, r131_3, r131_4, r131_5, r131_6, r131_7, r131_8, r131_10, r131_11, r131_12, r131_13, r131_14, r131_15, r131_16, r131_17, r131_18, r131_20, r131_21, r131_22, r131_24, c131, hS.e8, hS.e10, hS.e11, i1, l1, i2, l2]
    refine fin _ _ b x ?_ h
    exact ⟨by simp [hS.e2], by simp [hS.e3], by simp [hS.e8], by simp [hS.e9], by simp [hS.e10], by simp [hS.e11]⟩
  · have hnrm : f.F.nrm (rw_ l at_) c = f.F.rowScale (f.F.inv (en l at_ c)) (rw_ l at_) := by
      rw [nrm, if_neg (show ¬ (rw_ l at_).getD c 0 = 1 from hx1)]; rfl
    obtain ⟨c0, _⟩ := box_la h.G (m := m1)
    simp [r131_0, r131_1, r131_2, r131_3, r131_4, r131_5, r131_6, r131_7, r131_8, r131_10, r131_11, r131_12, r131_13, r131_14, r131_15, r131_16, r131_17, r131_18, r131_20, r131_21, r131_22, r131_24, c131, hS.e3, hS.e8, hS.e10, hS.e11, i1, l1, i2, l2, hx1, c0]
    refine WR_bnd (rinv_wv hRF hxE fun m2 hp2 => ?_)
    have h2 := h.up hp2
    have l3 := h2.ra.lc hal
    simp [chkd_of hp2, i1, l3]
    refine WR_bnd (rscale_wv (hRF.pre hp2) hF.invE (h2.ra.ints hal) (h.mat.el at_) (by rw [h.mat.len at_ hal]; omega) fun nb m3 hp3 hnb hat3 => ?_)
    have hput := h2.put (i := at_) (ex := true) hp3 hnb hat3 hat (by rw [rowScale_len, h.mat.len at_ hal]) (by rw [← hnrm]; exact nrm_E hF (h.mat.el at_) c)
    rw [← hnrm, nrm_len] at hput
    have h3 := h2.up hp3
    have hst := sc_at h3.ra.at_ (u := .sl nb 0 (rw_ l at_).length (rw_ l at_).length 1 true) rfl (o := at_) (by simpa using hal)
    simp [i1, st22, hst]
    refine fin _ _ _ _ ?_ hput
    exact ⟨by simp [hS.e2], by simp [hS.e3], by simp [hS.e8], by simp [hS.e9], by simp [hS.e10], by simp [hS.e11]⟩
structure RelI (f : Fd) (vm : V) (m0 : Mem) (fb B n t : Nat) (ex : Bool) (R : List (List Int) × List Int) (k : Nat) (e : Env) (m' : Mem) : Prop where
  d : ∃ (c : Nat) (l : List (List Int)) (piv : List Int) (b : Nat → Nat) (x : Nat → Bool) (vp : V), RS t fb B n ex vp piv.length c e ∧ c ≤ t ∧ t - c = k ∧ RM f vm m0 fb B n t l piv b x vp m' ∧ f.F.elimGo (t - c) c l piv = R ∧ piv.length ≤ c
theorem reliminate_wv {f : Fd} {fv rv : V} {m : Mem} {n t : Nat} {l : List (List Int)} {Q : V → Mem → Prop} (hg : RF m fv f) (hr : Rows m rv l) (hM : f.F.Mat l t) (hln : l.length = n) (hn : n ≤ 256) (ht : t ≤ 256)
    (h1 : l = [] → ∀ m', Pre m m' → Q (.tup [.nils, .nils]) m')
    (h2 : ∀ B b x ex vp m', Pre m m' → RA m [] m' B (f.F.elimGo t 0 l []).1 b x → (f.F.elimGo t 0 l []).1.length = n → FreshA m m' vp (f.F.elimGo t 0 l []).2 → Q (.tup [.sl B 0 n n 1 ex, vp]) m') :
    WV (DD 131 [fv, rv, I t] m) Q := by
  obtain ⟨hf, vm, rfl, hv⟩ := hg
  rw [e131]
  refine WV_fin ?_
  simp [r131_0, r131_1, r131_2, r131_3, r131_4, r131_5, r131_6, r131_7, r131_8, r131_10, r131_11, r131_12, r131_13, r131_14, r131_15, r131_16, r131_17, r131_18, r131_20, r131_21, r131_22, r131_24, c131, hv.cell]
  refine WR_bnd (rcopy_wv (hr.pre (List.prefix_append _ _)) (fun i hi => by rw [hM.len i hi]; omega) (by omega) (fun hle => ?_) fun B b x ex m1 hle hp hra => ?_)
  · simp
    refine W_loop (fun _ e m' => e 8 = .nils ∧ e 9 = .nils ∧ e 10 = I 0 ∧ e 11 = I 0 ∧ e 2 = I t ∧ m' = m ++ [⟨[I f.p, I f.n, vm], 2⟩]) ?_ 0 _ _ ⟨by simp, by simp, by simp, by simp, by simp, rfl⟩
    rintro k e m' ⟨e8, e9, e10, e11, e2, rfl⟩
    by_cases h0 : 0 < t
    · simp [l23_eq, r131_0, r131_1, r131_2, r131_3, r131_4, r131_5, r131_6, r131_7, r131_8, r131_10, r131_11, r131_12, r131_13, r131_14, r131_15, r131_16, r131_17, r131_18, r131_20, r131_21, r131_22, r131_24, c131, e2, e8, e9, e10, e11, h0, packV]
      exact h1 hle _ (List.prefix_append _ _)
    · simp [l23_eq, r131_0, r131_1, r131_2, r131_3, r131_4, r131_5, r131_6, r131_7, r131_8, r131_10, r131_11, r131_12, r131_13, r131_14, r131_15, r131_16, r131_17, r131_18, r131_20, r131_21, r131_22, r131_24, c131, e2, e8, e9, e10, e11, h0, packV]
      exact h1 hle _ (List.prefix_append _ _)
  · subst hln
    simp
    have hpm : Pre m m1 := (List.prefix_append _ _).trans hp
    have hfb := Pre.at hp (At.new1 m [I f.p, I f.n, vm] 2)
    have hra2 : RA m [m.length] m1 B l b x := by
      refine ⟨by have := hra.B0; simp at this; omega, by have := hra.B0; simp at this ⊢; omega, hra.at_, fun i hi => ?_, hra.inj⟩
      have := hra.row i hi
      simp at this
      exact ⟨by omega, this.2.1, by simp; omega, this.2.2⟩
    have hRM : RM f vm m m.length B l.length t l [] b x .nils m1 := ⟨hpm, hfb, hra2, hM, rfl, .inl ⟨rfl, rfl⟩, Off.nils _, Off.nils _, fun i hi => Off.nils _⟩
    refine W_loop (RelI f vm m m.length B l.length t ex (f.F.elimGo t 0 l [])) ?_ t _ _ ⟨⟨0, l, [], b, x, .nils, ⟨by simp, by simp, by simp, by simp, by simp, by simp⟩, by omega, by omega, hRM, rfl, by simp⟩⟩
    clear hRM hra hra2 hp hfb hM hr h1
    generalize hR : f.F.elimGo t 0 l [] = R at *
    generalize l.length = n at *
    generalize hfbd : m.length = fb at *
    rintro k e m' ⟨⟨c, l, piv, b, x, vp, hS, hc, hk, h, hR2, hpl⟩⟩
    have fin : f.F.elimGo (t - c) c l piv = (l, piv) → Q (.tup [.sl B 0 n n 1 ex, vp]) m' := by
      intro he
      rw [he] at hR2
      subst hR2
      exact h2 B b x ex vp m' h.pre (h.ra.avoid (by simp)) h.len h.vpF
    by_cases hct : c < t
    · by_cases hpn : piv.length < n
      · have hlen := h.len
        have hgo : f.F.elimGo (t - c) c l piv = match findK l c piv.length with
            | none => f.F.elimGo (t - (c + 1)) (c + 1) l piv
            | some k => f.F.elimGo (t - (c + 1)) (c + 1) (f.F.elimAt l piv.length k c) (piv ++ [(c : Int)]) := by
          obtain ⟨d, hd⟩ : ∃ d, t - c = d + 1 := ⟨t - c - 1, by omega⟩
          rw [hd, elimGo, if_pos (by omega), show t - (c + 1) = d by omega]
          cases findK l c piv.length <;> rfl
        have wc : IntKind.i64.wrap ((c : Int) + 1) = (c + 1 : Nat) := by rw [wrap64_in (by omega) (by omega)]; omega
        simp [l23_eq, r131_0, r131_1, r131_2, r131_3, r131_4, r131_5, r131_6, r131_7, r131_8, r131_10, r131_11, r131_12, r131_13, r131_14, r131_15, r131_16, r131_17, r131_18, r131_20, r131_21, r131_22, r131_24, c131, hS.e2, hS.e8, hS.e10, hS.e11, hct, hpn]
        refine rfind_W (at_ := piv.length) h hn hct (by omega) (ex := ex) ?_ ?_ ?_
        · exact ⟨by simp [hS.e2], by simp [hS.e3], by simp [hS.e8], by simp [hS.e9], by simp [hS.e10], by simp [hS.e11]⟩
        · simp
        intro e' j hS' e12' hj
        rcases hj with ⟨rfl, hno⟩ | hfirst
        · have hnone : findK l c piv.length = none := findK_none (fun k h1 h2 => hno k h1 (by omega))
          rw [hnone] at hgo
          simp [hS'.e8, hS'.e11, e12', wc, r131_0, r131_1, r131_2, r131_3, r131_4, r131_5, r131_6, r131_7, r131_8, r131_10, r131_11, r131_12, r131_13, r131_14, r131_15, r131_16, r131_17, r131_18, r131_20, r131_21, r131_22, r131_24, c131, -Int.natCast_add]
          refine ⟨t - (c + 1), by omega, ⟨c + 1, l, piv, b, x, vp, ?_, by omega, rfl, h, ?_, by omega⟩⟩
          · exact ⟨by simp [hS'.e2], by simp [hS'.e3], by simp [hS'.e8], by simp [hS'.e9], by simp [hS'.e10], by simp [-Int.natCast_add]⟩
          · rw [hgo] at hR2; exact hR2
        · have hk : findK l c piv.length = some j := findK_some (by rw [hlen]; exact hfirst)
          rw [hk] at hgo
          obtain ⟨f1, f2, f3, f4⟩ := hfirst
          have hjn : ¬ (j : Int) = n := by omega
          have hsw0 : en (swapL l piv.length j) piv.length c ≠ 0 := by
            rw [en, rw_swap (by omega) (by omega), if_pos rfl]; exact f3
          have i1 := ia25 (b := B) (o := 0) (n := n) (c := n) (ex := ex) (ix := (piv.length : Int)) (by omega) (by omega)
          have i2 := ia25 (b := B) (o := 0) (n := n) (c := n) (ex := ex) (ix := (j : Int)) (by omega) (by omega)
          simp only [Int.toNat_natCast, Nat.zero_add] at i1 i2
          have hjl : j < l.length := by omega
          have hpl' : piv.length < l.length := by omega
          have s1 := sc_at h.ra.at_ (u := rsl l b x j) rfl (o := piv.length) (by simpa using hpl')
          have hB1 : At (m'.set B ⟨(rcells l b x).set piv.length (rsl l b x j), 2⟩) B ((rcells l b x).set piv.length (rsl l b x j)) 2 := At.set_self h.ra.at_
          have s2 := sc_at hB1 (u := rsl l b x piv.length) rfl (o := j) (by simpa using hjl)
          rw [List.set_set, rcells_swap h.ra hpl' hjl] at s2
          have r1 : (rsl l b x piv.length).isCell = true := rfl
          have r2 : (rsl l b x j).isCell = true := rfl
          have hsw := h.swap (i := piv.length) (k := j) hpn f2
          simp [hS'.e8, hS'.e10, hS'.e11, e12', hjn, r131_0, r131_1, r131_2, r131_3, r131_4, r131_5, r131_6, r131_7, r131_8, r131_10, r131_11, r131_12, r131_13, r131_14, r131_15, r131_16, r131_17, r131_18, r131_20, r131_21, r131_22, r131_24, c131, i1, i2, h.ra.lc hjl, h.ra.lc hpl', st22 _ _ _ _ r1, st22 _ _ _ _ r2, s1, s2]
          refine rrest_W (ex := ex) hf hv hsw hn ht hct hpn (by omega) hsw0 ?_ ?_
          · exact ⟨by simp [hS'.e2], by simp [hS'.e3], by simp [hS'.e8], by simp [hS'.e9], by simp [hS'.e10], by simp [hS'.e11]⟩
          intro e5 m5 b5 x5 vp5 hS5 h5
          simp [r131_0, r131_1, r131_2, r131_3, r131_4, r131_5, r131_6, r131_7, r131_8, r131_10, r131_11, r131_12, r131_13, r131_14, r131_15, r131_16, r131_17, r131_18, r131_20, r131_21, r131_22, r131_24, c131, hS5.e11, wc, -Int.natCast_add]
          refine ⟨t - (c + 1), by omega, ⟨c + 1, _, _, b5, x5, vp5, ?_, by omega, rfl, h5, ?_, by simp; omega⟩⟩
          · exact ⟨by simp [hS5.e2], by simp [hS5.e3], by simp [hS5.e8], by simp [hS5.e9], by simp [hS5.e10], by simp [-Int.natCast_add]⟩
          · have e0 : f.F.elimAt l piv.length j c = f.F.clr ((swapL l piv.length j).set piv.length (f.F.nrm (rw_ (swapL l piv.length j) piv.length) c)) piv.length c n := by
              rw [← hlen]; rfl
            rw [← e0, ← hR2, hgo]
      · have he : f.F.elimGo (t - c) c l piv = (l, piv) := by
          obtain ⟨d, hd⟩ : ∃ d, t - c = d + 1 := ⟨t - c - 1, by omega⟩
          rw [hd, elimGo, if_neg (by rw [h.len]; omega)]
        simp [l23_eq, r131_0, r131_1, r131_2, r131_3, r131_4, r131_5, r131_6, r131_7, r131_8, r131_10, r131_11, r131_12, r131_13, r131_14, r131_15, r131_16, r131_17, r131_18, r131_20, r131_21, r131_22, r131_24, c131, hS.e2, hS.e8, hS.e9, hS.e10, hS.e11, hct, hpn, packV]
        exact fin he
    · have he : f.F.elimGo (t - c) c l piv = (l, piv) := by rw [show t - c = 0 by omega]; rfl
      simp [l23_eq, r131_0, r131_1, r131_2, r131_3, r131_4, r131_5, r131_6, r131_7, r131_8, r131_10, r131_11, r131_12, r131_13, r131_14, r131_15, r131_16, r131_17, r131_18, r131_20, r131_21, r131_22, r131_24, c131, hS.e2, hS.e8, hS.e9, hS.e10, hS.e11, hct, packV]
      exact fin he
end Go.Proofs.YtefjnnghfloddaaGreat.Abs

/- Specifications: codes are checked by the reference. -/
namespace Go.Proofs.YtefjnnghfloddaaGreat.Abs
set_option linter.unusedVariables false
set_option linter.unusedSimpArgs false
set_option linter.unusedSectionVars false
open Ff
theorem slice25_hi {b o n c : Nat} {ex : Bool} {a : Int} (h0 : 0 ≤ a) (h1 : a ≤ c) : opSlice T 25 (.sl b o n c 1 ex) none (some (I a)) none = some (.sl b o a.toNat c 1 ex) := by
  simp [opSlice, T25, T22, optInt, h0, h1]
theorem slice25_nil : opSlice T 25 .nils none (some (I 0)) none = some .nils := by
  simp [opSlice, T25, T22, optInt]
theorem elimGo_nil (F : Ff) : ∀ (n c : Nat), F.elimGo n c [] [] = ([], [])
  | 0, _ => rfl
  | n + 1, c => by rw [elimGo, if_neg (by simp)]
theorem rcanon_wv {f : Fd} {fv rv : V} {m : Mem} {t : Nat} {l : List (List Int)} {Q : V → Mem → Prop} (hg : RF m fv f) (hr : Rows m rv l) (hM : f.F.Mat l t) (hn : l.length ≤ 256) (ht : t ≤ 256)
    (hQ : ∀ v pv m', Pre m m' → Rows m' v (canonF f.F t l) → Ints m' pv (f.F.elimGo t 0 l []).2 → Q (.tup [v, pv]) m') : WV (DD 97 [fv, rv, I t] m) Q := by
  have hg' := hg
  obtain ⟨hf, vm, rfl, hv⟩ := hg
  rw [e97]
  refine WV_fin ?_
  simp [r97_0, r97_1, r97_2, c97, hv.cell]
  have hp0 := List.prefix_append m ([⟨[I f.p, I f.n, vm], 2⟩] : Mem)
  refine WR_bnd (reliminate_wv (hg'.pre hp0) (hr.pre hp0) hM rfl hn ht (fun hle m1 hp => ?_) fun B b x ex vp m1 hp hra hl hvp => ?_)
  · subst hle
    simp [slice25_nil, packV]
    refine hQ .nils .nils m1 (hp0.trans hp) ?_ ?_
    · rw [canonF, elimGo_nil]; exact .inl ⟨rfl, rfl⟩
    · rw [elimGo_nil]; exact .inl ⟨rfl, rfl⟩
  · have hk := (elimGo_len f.F t 0 l []).2 (by simp)
    have hlen := hvp.ints.len
    have hs := slice25_hi (b := B) (o := 0) (n := l.length) (c := l.length) (ex := ex) (a := ((f.F.elimGo t 0 l []).2.length : Int)) (by omega) (by omega)
    rw [Int.toNat_natCast] at hs
    simp [hlen, hs, packV]
    exact hQ _ _ m1 (hp0.trans hp) (hra.take (by omega) (by omega) ex) hvp.ints
structure ReI (f : Fd) (vm vl : V) (l : List Int) (m : Mem) (k : Nat) (e : Env) (m' : Mem) : Prop where
  d : ∃ i : Nat, e 1 = vl ∧ e 2 = .ptr m.length 0 ∧ e 5 = I i ∧ i ≤ l.length ∧ l.length - i = k ∧ Pre m m' ∧ At m' m.length [I f.p, I f.n, vm] 2 ∧ ∀ j, j < i → f.F.E (l.getD j 0)
theorem rentries_wv {f : Fd} {fv vl : V} {l : List Int} {m : Mem} {Q : V → Mem → Prop} (hg : RF m fv f) (hl : Ints m vl l) (hlen : l.length ≤ 1000000) (h1 : AllE f.F l → ∀ m', Pre m m' → Q (I 0) m') (h2 : ¬ AllE f.F l → ∀ m', Pre m m' → Q (I 2) m') : WV (DD 41 [fv, vl] m) Q := by
  have hg' := hg
  obtain ⟨hf, vm, rfl, hv⟩ := hg
  rw [e41]
  refine WV_fin ?_
  simp [r41_0, r41_1, r41_2, r41_3, r41_4, r41_5, r41_7, c41, hv.cell]
  refine W_loop (ReI f vm vl l m) ?_ l.length _ _ ⟨⟨0, by simp, by simp, by simp, by omega, by omega, List.prefix_append _ _, At.new1 _ _ _, fun j hj => by omega⟩⟩
  rintro k e m' ⟨⟨i, e1, e2, e5, hi, hk, hpre, hA, hall⟩⟩
  have w1 : IntKind.i64.wrap ((i : Int) + 1) = i + 1 := wrap64_in (by omega) (by omega)
  have hlen2 := (hl.pre hpre).len
  obtain ⟨c0, _⟩ := box_la hA (m := m)
  by_cases hlt : i < l.length
  · obtain ⟨b, o, a1, a2⟩ := (hl.pre hpre).at (ix := i) (by omega) (by omega)
    rw [Int.toNat_natCast] at a2
    simp [l41_6, r41_0, r41_1, r41_2, r41_3, r41_4, r41_5, r41_7, c41, e1, e2, e5, hlen2, hlt, a1, a2, c0, -List.getD_eq_getElem?_getD]
    refine WR_bnd (ris_wv (hg'.pre hpre) fun b m2 hb hp2 => ?_)
    cases b with
    | true =>
      simp [e5, w1]
      refine ⟨l.length - (i + 1), by omega, ⟨i + 1, by simp [e1], by simp [e2], by simp, by omega, rfl, hpre.trans hp2, Pre.at hp2 hA, fun j hj => ?_⟩⟩
      by_cases e : j = i
      · subst e; exact hb.1 rfl
      · exact hall j (by omega)
    | false =>
      simp
      refine h2 (fun h => ?_) m2 (hpre.trans hp2)
      have := hb.2 (h i hlt)
      cases this
  · have hil : i = l.length := by omega
    subst hil
    simp [l41_6, r41_0, r41_1, r41_2, r41_3, r41_4, r41_5, r41_7, c41, e1, e5, hlen2]
    exact h1 hall m' hpre
structure RkI (f : Fd) (vm : V) (cols : Int) (rv : V) (l : List (List Int)) (m m1 : Mem) (k : Nat) (e : Env) (m' : Mem) : Prop where
  d : ∃ i : Nat, e 2 = .ptr m.length 0 ∧ e 3 = .ptr (m.length + 1) 0 ∧ e 6 = I i ∧ i ≤ l.length ∧ l.length - i = k ∧ ∀ j, j < i → ((rw_ l j).length : Int) = cols
  m : m' = m1
structure RkJ (f : Fd) (vm : V) (cols : Int) (rv : V) (l : List (List Int)) (m : Mem) (k : Nat) (e : Env) (m' : Mem) : Prop where
  d : ∃ i : Nat, e 2 = .ptr m.length 0 ∧ e 3 = .ptr (m.length + 1) 0 ∧ e 7 = I i ∧ i ≤ l.length ∧ l.length - i = k ∧ Pre m m' ∧ At m' m.length [I f.p, I f.n, vm] 2 ∧ At m' (m.length + 1) [I cols, rv] 2 ∧ ∀ j, j < i → AllE f.F (rw_ l j)
theorem rmcheck_wv {f : Fd} {fv rv : V} {cols : Int} {l : List (List Int)} {m : Mem} {Q : V → Mem → Prop} (hg : RF m fv f) (hr : Rows m rv l) (hQ : ∀ m', Pre m m' → Q (I (matE f.F cols l)) m') : WV (DD 96 [fv, .agg [I cols, rv]] m) Q := by
  have hg' := hg
  obtain ⟨hf, vm, rfl, hv⟩ := hg
  have hrc := hr.cell
  have hIs : IsF f.p f.n f.mod := ⟨f, hf, rfl, rfl, rfl⟩
  rw [e96]
  refine WV_fin ?_
  simp [r96_0, r96_1, r96_2, r96_3, r96_4, r96_5, r96_6, r96_7, r96_8, r96_9, r96_10, r96_12, r96_13, r96_14, r96_15, r96_16, r96_17, r96_19, c96, hv.cell, hrc]
  have hp0 := List.prefix_append m ([⟨[I f.p, I f.n, vm], 2⟩, ⟨[I cols, rv], 2⟩] : Mem)
  refine WR_bnd (rcheck_wv (hv.pre hp0) (fun _ m1 hp => ?_) fun hno => (hno hIs).elim)
  have hpm := hp0.trans hp
  have hA1 : At m1 m.length [I f.p, I f.n, vm] 2 := Pre.at hp (by simp)
  have hB1 : At m1 (m.length + 1) [I cols, rv] 2 := Pre.at hp (by simp)
  obtain ⟨d0, d1, d2⟩ := box_la2 hB1
  have hlen := (hr.pre hpm).len
  have hQ1 := hQ m1 hpm
  by_cases h1 : cols < 0
  · rw [matE_3 (.inl h1)] at hQ1
    simp [d1, h1]; exact hQ1
  by_cases h2 : 256 < cols
  · rw [matE_3 (.inr (.inl h2))] at hQ1
    simp [d1, h1, h2]; exact hQ1
  by_cases h3 : (256 : Int) < l.length
  · rw [matE_3 (.inr (.inr (.inl (by omega))))] at hQ1
    simp [d1, d2, h1, h2, hlen, h3]; exact hQ1
  simp [d1, d2, h1, h2, hlen, h3]
  refine W_loop (RkI f vm cols rv l m m1) ?_ l.length _ _ ⟨⟨0, by simp, by simp, by simp, by omega, by omega, fun j hj => by omega⟩, rfl⟩
  rintro k e m' ⟨⟨i, e2, e3, e6, hi, hk, hall⟩, rfl⟩
  have w1 : IntKind.i64.wrap ((i : Int) + 1) = i + 1 := wrap64_in (by omega) (by omega)
  by_cases hlt : i < l.length
  · obtain ⟨b, o, u, a1, a2, a3⟩ := (hr.pre hpm).at (ix := i) (by omega) (by omega)
    rw [Int.toNat_natCast] at a3
    have a4 := a3.len
    by_cases hc : ((rw_ l i).length : Int) = cols
    · have hc' : ((l.getD i []).length : Int) = cols := hc
      simp [l96_11, r96_0, r96_1, r96_2, r96_3, r96_4, r96_5, r96_6, r96_7, r96_8, r96_9, r96_10, r96_12, r96_13, r96_14, r96_15, r96_16, r96_17, r96_19, c96, e2, e3, e6, d1, d2, hlen, hlt, a1, a2, a4, hc', w1, -List.getD_eq_getElem?_getD]
      refine ⟨l.length - (i + 1), by omega, ⟨i + 1, by simp [e2], by simp [e3], by simp, by omega, rfl, fun j hj => ?_⟩, rfl⟩
      by_cases e : j = i
      · subst e; exact hc
      · exact hall j (by omega)
    · have hc' : ¬ ((l.getD i []).length : Int) = cols := hc
      rw [matE_3 (.inr (.inr (.inr ⟨i, hlt, hc⟩)))] at hQ1
      simp [l96_11, r96_0, r96_1, r96_2, r96_3, r96_4, r96_5, r96_6, r96_7, r96_8, r96_9, r96_10, r96_12, r96_13, r96_14, r96_15, r96_16, r96_17, r96_19, c96, e2, e3, e6, d1, d2, hlen, hlt, a1, a2, a4, hc', -List.getD_eq_getElem?_getD]
      exact hQ1
  · have hil : i = l.length := by omega
    subst hil
    have hno : ¬ (cols < 0 ∨ 256 < cols ∨ 256 < l.length ∨ ∃ i, i < l.length ∧ ((rw_ l i).length : Int) ≠ cols) := by
      rintro (h | h | h | ⟨i, h, h'⟩)
      · exact h1 h
      · exact h2 h
      · omega
      · exact h' (hall i h)
    simp [l96_11, r96_0, r96_1, r96_2, r96_3, r96_4, r96_5, r96_6, r96_7, r96_8, r96_9, r96_10, r96_12, r96_13, r96_14, r96_15, r96_16, r96_17, r96_19, c96, e2, e3, e6, d2, hlen]
    refine W_loop (RkJ f vm cols rv l m) ?_ l.length _ _ ⟨⟨0, by simp [e2], by simp [e3], by simp, by omega, by omega, hpm, hA1, hB1, fun j hj => by omega⟩⟩
    clear hQ1 d0 d1 d2 hA1 hB1 hlen
    rintro k e m' ⟨⟨i, e2, e3, e7, hi, hk, hpm, hA1, hB1, hall2⟩⟩
    have w1 : IntKind.i64.wrap ((i : Int) + 1) = i + 1 := wrap64_in (by omega) (by omega)
    obtain ⟨c0, _⟩ := box_la hA1 (m := m)
    obtain ⟨d0, d1, d2⟩ := box_la2 hB1
    have hlen := (hr.pre hpm).len
    by_cases hlt : i < l.length
    · obtain ⟨b, o, u, a1, a2, a3⟩ := (hr.pre hpm).at (ix := i) (by omega) (by omega)
      rw [Int.toNat_natCast] at a3
      simp [l96_18, r96_0, r96_1, r96_2, r96_3, r96_4, r96_5, r96_6, r96_7, r96_8, r96_9, r96_10, r96_12, r96_13, r96_14, r96_15, r96_16, r96_17, r96_19, c96, e2, e3, e7, c0, d2, hlen, hlt, a1, a2, -List.getD_eq_getElem?_getD]
      have hcl := hall i hlt
      refine WR_bnd (rentries_wv (hg'.pre hpm) a3 (by rw [show l.getD i [] = rw_ l i from rfl]; omega) (fun h m2 hp2 => ?_) fun h m2 hp2 => ?_)
      · simp [e7, w1]
        refine ⟨l.length - (i + 1), by omega, ⟨i + 1, by simp [e2], by simp [e3], by simp, by omega, rfl, hpm.trans hp2, Pre.at hp2 hA1, Pre.at hp2 hB1, fun j hj => ?_⟩⟩
        by_cases e : j = i
        · subst e; exact h
        · exact hall2 j (by omega)
      · have hQ2 := hQ m2 (hpm.trans hp2)
        rw [matE_2 hno ⟨i, hlt, h⟩] at hQ2
        simp
        exact hQ2
    · have hil : i = l.length := by omega
      subst hil
      have hQ2 := hQ m' hpm
      rw [matE_0 hno (by rintro ⟨i, h, h'⟩; exact h' (hall2 i h))] at hQ2
      simp [l96_18, r96_0, r96_1, r96_2, r96_3, r96_4, r96_5, r96_6, r96_7, r96_8, r96_9, r96_10, r96_12, r96_13, r96_14, r96_15, r96_16, r96_17, r96_19, c96, e3, e7, d2, hlen]
      exact hQ2
structure RqI (va vb : V) (a b : List Int) (m : Mem) (k : Nat) (e : Env) (m' : Mem) : Prop where
  d : ∃ i : Nat, e 0 = va ∧ e 1 = vb ∧ e 5 = I i ∧ i ≤ a.length ∧ a.length - i = k ∧ ∀ j, j < i → a.getD j 0 = b.getD j 0
  m : m' = m
theorem rsameInts_wv {va vb : V} {a b : List Int} {m : Mem} {Q : V → Mem → Prop} (ha : Ints m va a) (hb : Ints m vb b) (hl : a.length ≤ 1000000) (hQ : ∀ t : Bool, (t = true ↔ a = b) → Q (.bool t) m) : WV (DD 132 [va, vb] m) Q := by
  rw [e132]
  refine WV_fin ?_
  have la := ha.len
  have lb := hb.len
  by_cases hll : a.length = b.length
  · have hll' : (a.length : Int) = b.length := by omega
    simp [r132_0, r132_1, r132_2, r132_3, r132_4, r132_5, r132_6, r132_7, r132_9, c132, la, lb, hll']
    refine W_loop (RqI va vb a b m) ?_ a.length _ _ ⟨⟨0, by simp, by simp, by simp, by omega, by omega, fun j hj => by omega⟩, rfl⟩
    rintro k e m' ⟨⟨i, e0, e1, e5, hi, hk, hall⟩, rfl⟩
    have w1 : IntKind.i64.wrap ((i : Int) + 1) = i + 1 := wrap64_in (by omega) (by omega)
    by_cases hlt : i < a.length
    · obtain ⟨b1, o1, a1, a2⟩ := ha.at (ix := i) (by omega) (by omega)
      obtain ⟨b2, o2, a3, a4⟩ := hb.at (ix := i) (by omega) (by omega)
      rw [Int.toNat_natCast] at a2 a4
      by_cases he : a.getD i 0 = b.getD i 0
      · simp [l132_8, r132_0, r132_1, r132_2, r132_3, r132_4, r132_5, r132_6, r132_7, r132_9, c132, e0, e1, e5, la, hlt, a1, a2, a3, a4, he, w1, -List.getD_eq_getElem?_getD]
        refine ⟨a.length - (i + 1), by omega, ⟨i + 1, by simp [e0], by simp [e1], by simp, by omega, rfl, fun j hj => ?_⟩, rfl⟩
        by_cases e : j = i
        · subst e; exact he
        · exact hall j (by omega)
      · simp [l132_8, r132_0, r132_1, r132_2, r132_3, r132_4, r132_5, r132_6, r132_7, r132_9, c132, e0, e1, e5, la, hlt, a1, a2, a3, a4, he, -List.getD_eq_getElem?_getD]
        exact hQ false (by simp; rintro rfl; exact he rfl)
    · have hil : i = a.length := by omega
      subst hil
      simp [l132_8, r132_0, r132_1, r132_2, r132_3, r132_4, r132_5, r132_6, r132_7, r132_9, c132, e0, e5, la]
      exact hQ true (by simp; exact list_ext_D hll hall)
  · have hll' : ¬ (a.length : Int) = b.length := by omega
    simp [r132_0, r132_1, r132_2, r132_3, r132_4, r132_5, r132_6, r132_7, r132_9, c132, la, lb, hll']
    exact hQ false (by simp; rintro rfl; exact hll rfl)
structure RrI (va vb : V) (a b : List (List Int)) (m : Mem) (k : Nat) (e : Env) (m' : Mem) : Prop where
  d : ∃ i : Nat, e 0 = va ∧ e 1 = vb ∧ e 5 = I i ∧ i ≤ a.length ∧ a.length - i = k ∧ ∀ j, j < i → rw_ a j = rw_ b j
  m : m' = m
theorem rsameRows_wv {va vb : V} {a b : List (List Int)} {m : Mem} {Q : V → Mem → Prop} (ha : Rows m va a) (hb : Rows m vb b) (hl : a.length ≤ 1000000) (hr : ∀ i, i < a.length → (rw_ a i).length ≤ 1000000) (hQ : ∀ t : Bool, (t = true ↔ a = b) → Q (.bool t) m) : WV (DD 98 [va, vb] m) Q := by
  rw [e98]
  refine WV_fin ?_
  have la := ha.len
  have lb := hb.len
  by_cases hll : a.length = b.length
  · have hll' : (a.length : Int) = b.length := by omega
    simp [r98_0, r98_1, r98_2, r98_3, r98_4, r98_5, r98_6, r98_7, r98_9, c98, la, lb, hll']
    refine W_loop (RrI va vb a b m) ?_ a.length _ _ ⟨⟨0, by simp, by simp, by simp, by omega, by omega, fun j hj => by omega⟩, rfl⟩
    rintro k e m' ⟨⟨i, e0, e1, e5, hi, hk, hall⟩, rfl⟩
    have w1 : IntKind.i64.wrap ((i : Int) + 1) = i + 1 := wrap64_in (by omega) (by omega)
    by_cases hlt : i < a.length
    · obtain ⟨b1, o1, u1, a1, a2, a5⟩ := ha.at (ix := i) (by omega) (by omega)
      obtain ⟨b2, o2, u2, a3, a4, a6⟩ := hb.at (ix := i) (by omega) (by omega)
      rw [Int.toNat_natCast] at a5 a6
      simp [l98_8, r98_0, r98_1, r98_2, r98_3, r98_4, r98_5, r98_6, r98_7, r98_9, c98, e0, e1, e5, la, hlt, a1, a2, a3, a4, -List.getD_eq_getElem?_getD]
      refine WR_bnd (rsameInts_wv a5 a6 (hr i hlt) fun t ht => ?_)
      cases t with
      | true =>
        simp [e0, e1, e5, w1]
        refine ⟨a.length - (i + 1), by omega, ⟨i + 1, by simp [e0], by simp [e1], by simp, by omega, rfl, fun j hj => ?_⟩, rfl⟩
        by_cases e : j = i
        · subst e; exact ht.1 rfl
        · exact hall j (by omega)
      | false =>
        simp
        refine hQ false ?_
        simp
        rintro rfl
        have := ht.2 rfl
        cases this
    · have hil : i = a.length := by omega
      subst hil
      simp [l98_8, r98_0, r98_1, r98_2, r98_3, r98_4, r98_5, r98_6, r98_7, r98_9, c98, e0, e5, la]
      exact hQ true (by simp; exact rows_ext hll hall)
  · have hll' : ¬ (a.length : Int) = b.length := by omega
    simp [r98_0, r98_1, r98_2, r98_3, r98_4, r98_5, r98_6, r98_7, r98_9, c98, la, lb, hll']
    exact hQ false (by simp; rintro rfl; exact hll rfl)
theorem rspace_wv {f : Fd} {fv rv : V} {cols : Int} {l : List (List Int)} {m : Mem} {Q : V → Mem → Prop} (hg : RF m fv f) (hr : Rows m rv l) (hQ : ∀ m', Pre m m' → Q (I (spaceE f.F cols l)) m') : WV (DD 63 [fv, .agg [I cols, rv]] m) Q := by
  have hg' := hg
  obtain ⟨hf, vm, rfl, hv⟩ := hg
  have hrc := hr.cell
  rw [e63]
  refine WV_fin ?_
  simp [r63_0, r63_1, r63_2, r63_3, r63_4, r63_5, r63_6, r63_7, c63, hv.cell, hrc]
  have hp0 := List.prefix_append m ([⟨[I f.p, I f.n, vm], 2⟩, ⟨[I cols, rv], 2⟩] : Mem)
  refine WR_bnd (rmcheck_wv (hg'.pre hp0) (hr.pre hp0) fun m1 hp => ?_)
  have hpm := hp0.trans hp
  have hA1 : At m1 m.length [I f.p, I f.n, vm] 2 := Pre.at hp (by simp)
  have hB1 : At m1 (m.length + 1) [I cols, rv] 2 := Pre.at hp (by simp)
  obtain ⟨d0, d1, d2⟩ := box_la2 hB1
  obtain ⟨c0, _⟩ := box_la hA1 (m := m)
  by_cases he : matE f.F cols l = 0
  · obtain ⟨b0, b1, b2, b3⟩ := matE_Mat hf.F he
    obtain ⟨t, rfl⟩ : ∃ t : Nat, cols = t := ⟨cols.toNat, by omega⟩
    simp only [Int.toNat_natCast] at b3
    simp [he, c0, d1, d2]
    refine WR_bnd (rcanon_wv (hg'.pre hpm) (hr.pre hpm) b3 b2 (by omega) fun v pv m2 hp2 hv2 hpv => ?_)
    obtain ⟨g0, g1, g2⟩ := box_la2 (Pre.at hp2 hB1)
    simp [g2]
    refine WR_bnd (rsameRows_wv hv2 ((hr.pre hpm).pre hp2) (by have := canon_len f.F t l; omega) (fun i hi => by rw [(canon_Mat hf.F b3).len i hi]; omega) fun q hq => ?_)
    have hQ2 := hQ m2 (hpm.trans hp2)
    cases q with
    | true =>
      rw [spaceE, if_neg (by omega), if_pos (by rw [Int.toNat_natCast]; exact hq.1 rfl)] at hQ2
      simp
      exact hQ2
    | false =>
      rw [spaceE, if_neg (by omega), if_neg (by rw [Int.toNat_natCast]; intro h; have := hq.2 h; cases this)] at hQ2
      simp
      exact hQ2
  · have hQ2 := hQ m1 hpm
    rw [spaceE, if_pos he] at hQ2
    simp [he]
    exact hQ2
theorem rcodeCheck_wv {p n N : Int} {mod : List Int} {vm rv : V} {gen : List (List Int)} {m : Mem} {Q : V → Mem → Prop} (hv : Ints m vm mod) (hr : Rows m rv gen) (hQ : ∀ m', Pre m m' → Q (I (codeE p n mod N gen)) m') : WV (DD 30 [.agg [I p, I n, vm, I N, rv]] m) Q := by
  have hrc := hr.cell
  have hvc := hv.cell
  rw [e30]
  refine WV_fin ?_
  have hA := At.new1 m [I p, I n, vm, I N, rv] 2
  have hp0 := List.prefix_append m ([⟨[I p, I n, vm, I N, rv], 2⟩] : Mem)
  simp [r30_0, r30_1, r30_2, r30_3, r30_4, r30_5, r30_6, c30, hvc, hrc]
  refine WR_bnd (rcheck_wv (hv.pre hp0) (fun hIs m1 hp => ?_) fun hno m1 hp => ?_)
  · have hp1 := hp0.trans hp
    have hA1 := Pre.at hp hA
    obtain ⟨c0, c1, c2, c3⟩ := box_la5 hA1
    have hQ1 := hQ m1 hp1
    by_cases hN : N < 1
    · rw [codeE, if_neg (fun h => h hIs), if_pos (.inl hN)] at hQ1
      simp [c2, hN]
      exact hQ1
    by_cases hN2 : 64 < N
    · rw [codeE, if_neg (fun h => h hIs), if_pos (.inr hN2)] at hQ1
      simp [c2, hN, hN2]
      exact hQ1
    simp [c0, c2, c3, hN, hN2, build88 (a := I N) (b := rv) rfl hrc]
    obtain ⟨f, hf, rfl, rfl, rfl⟩ := hIs
    refine WR_bnd (rspace_wv ⟨hf, vm, rfl, hv.pre hp1⟩ (hr.pre hp1) fun m3 hp3 => ?_)
    have hQ3 := hQ m3 (hp1.trans hp3)
    rw [codeE, if_neg (fun h => h ⟨f, hf, rfl, rfl, rfl⟩), if_neg (by omega), F_eq rfl rfl rfl] at hQ3
    simp
    exact hQ3
  · have hQ1 := hQ m1 (hp0.trans hp)
    rw [codeE, if_pos hno] at hQ1
    simp
    exact hQ1
end Go.Proofs.YtefjnnghfloddaaGreat.Abs
