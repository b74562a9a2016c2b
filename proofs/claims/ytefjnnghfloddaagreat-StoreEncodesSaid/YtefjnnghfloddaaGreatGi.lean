/- A part of a proof of a law of the store, without conditions: its texts are: Px Py Pz Qa Qb Qc Qd Qe Qf. -/
import Derived.Test.YtefjnnghfloddaaGreatGh
/- Specifications: independent columns. -/
namespace Go.Proofs.YtefjnnghfloddaaGreat.Abs
set_option linter.unusedVariables false
set_option linter.unusedSimpArgs false
set_option linter.unusedSectionVars false
open Ff
structure IxI (va : V) (x : Int) (l : List Int) (m : Mem) (k : Nat) (e : Env) (m' : Mem) : Prop where
  d : ∃ i : Nat, e 0 = va ∧ e 1 = I x ∧ e 7 = I l.length ∧ e 8 = I i ∧ i ≤ l.length ∧ l.length - i = k ∧ ∀ j, j < i → l.getD j 0 ≠ x
  m : m' = m
theorem mem_getD {l : List Int} {x : Int} : x ∈ l ↔ ∃ j, j < l.length ∧ l.getD j 0 = x := by
  rw [List.mem_iff_getElem]
  constructor
  · rintro ⟨i, h, rfl⟩; exact ⟨i, h, (getElem_D h).symm⟩
  · rintro ⟨i, h, rfl⟩; exact ⟨i, h, getElem_D h⟩
theorem index_wv {va : V} {x : Int} {l : List Int} {m : Mem} {Q : V → Mem → Prop} (ha : Ints m va l) (hl : l.length ≤ 1000000) (h1 : ∀ i : Nat, x ∈ l → Q (I i) m) (h2 : x ∉ l → Q (I (-1)) m) : WV (DD 119 [va, I x] m) Q := by
  rw [e119]
  refine WV_fin ?_
  simp [r119_0, r119_1, r119_2, r119_3, r119_4, r119_5, r119_6, r119_8, c119, ha.len]
  refine W_loop (IxI va x l m) ?_ l.length _ _ ⟨⟨0, by simp, by simp, by simp, by simp, by omega, by omega, fun j hj => by omega⟩, rfl⟩
  rintro k e m' ⟨⟨i, e0, e1, e7, e8, hi, hk, hall⟩, rfl⟩
  have w1 : IntKind.i64.wrap ((i : Int) + 1) = i + 1 := wrap64_in (by omega) (by omega)
  by_cases hlt : i < l.length
  · obtain ⟨b1, o1, a1, a2⟩ := ha.at (ix := i) (by omega) (by omega)
    rw [Int.toNat_natCast] at a2
    by_cases he : x = l.getD i 0
    · simp [l119_7, r119_0, r119_1, r119_2, r119_3, r119_4, r119_5, r119_6, r119_8, c119, e0, e1, e7, e8, hlt, a1, a2, ← he, -List.getD_eq_getElem?_getD]
      exact h1 i (mem_getD.2 ⟨i, hlt, he.symm⟩)
    · simp [l119_7, r119_0, r119_1, r119_2, r119_3, r119_4, r119_5, r119_6, r119_8, c119, e0, e1, e7, e8, hlt, a1, a2, he, w1, -List.getD_eq_getElem?_getD]
      refine ⟨l.length - (i + 1), by omega, ⟨i + 1, by simp [e0], by simp [e1], by simp [e7], by simp, by omega, rfl, fun j hj => ?_⟩, rfl⟩
      by_cases e : j = i
      · subst e; exact fun h => he h.symm
      · exact hall j (by omega)
  · have hil : i = l.length := by omega
    subst hil
    simp [l119_7, r119_0, r119_1, r119_2, r119_3, r119_4, r119_5, r119_6, r119_8, c119, e7, e8]
    refine h2 fun h => ?_
    obtain ⟨j, h3, h4⟩ := mem_getD.1 h
    exact hall j h3 h4
theorem contains_wv {va : V} {x : Int} {l : List Int} {m : Mem} {Q : V → Mem → Prop} (ha : Ints m va l) (hl : l.length ≤ 1000000) (hQ : ∀ t : Bool, (t = true ↔ x ∈ l) → Q (.bool t) m) : WV (DD 81 [va, I x] m) Q := by
  rw [e81]
  refine WV_fin ?_
  simp [r81_0, r81_1, c81]
  refine WR_bnd (index_wv ha hl (fun i h => ?_) fun h => ?_)
  · have : (0 : Int) ≤ i := by omega
    simp [this]
    exact hQ true (by simp [h])
  · simp
    exact hQ false (by simp [h])
structure IfI (va : V) (l : List Int) (m : Mem) (k : Nat) (e : Env) (m' : Mem) : Prop where
  d : ∃ i : Nat, e 0 = va ∧ e 1 = .fn 189 [] [] ∧ e 7 = I l.length ∧ e 8 = I i ∧ i ≤ l.length ∧ l.length - i = k ∧ ∀ j, j < i → l.getD j 0 = 0
  m : m' = m
theorem ne0_wv {x : Int} {m : Mem} {Q : V → Mem → Prop} (hQ : Q (.bool (x != 0)) m) : WV (DD 189 [I x] m) Q := by
  rw [e189]
  refine WV_fin ?_
  simp [r189_0, r189_1, c189]
  exact hQ
theorem indexNe0_wv {va : V} {l : List Int} {m : Mem} {Q : V → Mem → Prop} (ha : Ints m va l) (hl : l.length ≤ 1000000) (h1 : ∀ k, First (fun k => l.getD k 0 ≠ 0) 0 l.length k → Q (I k) m) (h2 : (∀ k, k < l.length → l.getD k 0 = 0) → Q (I (-1)) m) : WV (DD 80 [va, .fn 189 [] []] m) Q := by
  rw [e80]
  refine WV_fin ?_
  simp [r80_0, r80_1, r80_2, r80_3, r80_4, r80_5, r80_6, r80_8, c80, ha.len]
  refine W_loop (IfI va l m) ?_ l.length _ _ ⟨⟨0, by simp, by simp, by simp, by simp, by omega, by omega, fun j hj => by omega⟩, rfl⟩
  rintro k e m' ⟨⟨i, e0, e1, e7, e8, hi, hk, hall⟩, rfl⟩
  have w1 : IntKind.i64.wrap ((i : Int) + 1) = i + 1 := wrap64_in (by omega) (by omega)
  by_cases hlt : i < l.length
  · obtain ⟨b1, o1, a1, a2⟩ := ha.at (ix := i) (by omega) (by omega)
    rw [Int.toNat_natCast] at a2
    simp [l80_7, r80_0, r80_1, r80_2, r80_3, r80_4, r80_5, r80_6, r80_8, c80, e0, e1, e7, e8, hlt, a1, a2, -List.getD_eq_getElem?_getD]
    refine WR_bnd (ne0_wv ?_)
    by_cases h0 : l.getD i 0 = 0
    · simp [h0, e8, w1, -List.getD_eq_getElem?_getD]
      refine ⟨l.length - (i + 1), by omega, ⟨i + 1, by simp [e0], by simp [e1], by simp [e7], by simp, by omega, rfl, fun j hj => ?_⟩, rfl⟩
      by_cases e : j = i
      · subst e; exact h0
      · exact hall j (by omega)
    · simp [h0, -List.getD_eq_getElem?_getD]
      exact h1 i ⟨by omega, hlt, h0, fun j _ hj => by simpa using hall j hj⟩
  · have hil : i = l.length := by omega
    subst hil
    simp [l80_7, r80_0, r80_1, r80_2, r80_3, r80_4, r80_5, r80_6, r80_8, c80, e7, e8]
    exact h2 hall
abbrev pcells (g : V) (p n : Int) (vm : V) (N : Int) (gv : V) (M w : Int) (sv : V) (at_ : Int) : List V := [g, I p, I n, vm, I N, gv, .nils, .bool false, I M, I w, sv, I at_]
structure ClI2 (gv : V) (gen : List (List Int)) (c : Nat) (pb : Nat) (m : Mem) (k : Nat) (e : Env) (m' : Mem) : Prop where
  d : ∃ i : Nat, e 1 = I c ∧ e 5 = .sl m.length 0 gen.length gen.length 1 true ∧ e 19 = gv ∧ e 20 = I gen.length ∧ e 21 = I i ∧ i ≤ gen.length ∧ gen.length - i = k ∧ m' = m ++ [⟨(mapTo (List.replicate gen.length 0) (fun r => en gen r c) i).map I, 2⟩]
def colL (gen : List (List Int)) (c : Nat) : List Int := (List.range gen.length).map fun r => en gen r c
theorem column_wv {g vm gv sv : V} {p n N M w at_ : Int} {pb c t : Nat} {gen : List (List Int)} {m : Mem} {Q : V → Mem → Prop} (hP : At m pb (pcells g p n vm N gv M w sv at_) 2) (hr : Rows m gv gen) (hlen : ∀ i, i < gen.length → (rw_ gen i).length = t) (hc : c < t) (hg : gen.length ≤ 1000)
    (hQ : Q (.sl m.length 0 gen.length gen.length 1 true) (m ++ [⟨(colL gen c).map I, 2⟩])) : WV (DD 183 [.ptr pb 0, I c] m) Q := by
  rw [e183]
  refine WV_fin ?_
  have l5 : lc m pb 5 = some gv := by rw [lc_at hP (by omega)]; rfl
  have hP1 := At.app hP [⟨List.replicate gen.length (I 0), 2⟩]
  have l5' : lc (m ++ [⟨List.replicate gen.length (I 0), 2⟩]) pb 5 = some gv := by rw [lc_at hP1 (by omega)]; rfl
  simp [r183_0, r183_1, r183_2, r183_3, r183_4, r183_5, r183_6, r183_8, c183, l5, hr.len, mk22 (l := gen.length) (c := gen.length) (by omega) (by omega) (by omega), l5']
  refine W_loop (ClI2 gv gen c pb m) ?_ gen.length _ _ ⟨⟨0, by simp, by simp, by simp, by simp, by simp, by omega, by omega, by rw [mapTo_0]; simp⟩⟩
  rintro k e m' ⟨⟨i, e1, e5, e19, e20, e21, hi, hk, rfl⟩⟩
  have w1 : IntKind.i64.wrap ((i : Int) + 1) = i + 1 := wrap64_in (by omega) (by omega)
  by_cases hlt : i < gen.length
  · generalize hL : mapTo (List.replicate gen.length 0) (fun r => en gen r c) i = L
    have hLl : L.length = gen.length := by rw [← hL]; simp
    have hr' := hr.pre (List.prefix_append m ([⟨L.map I, 2⟩] : Mem))
    obtain ⟨b1, o1, u, a1, a2, a3⟩ := hr'.at (ix := i) (by omega) (by omega)
    rw [Int.toNat_natCast] at a3
    obtain ⟨b2, o2, a4, a5⟩ := a3.at (ix := c) (by omega) (by rw [show gen.getD i [] = rw_ gen i from rfl, hlen i hlt]; omega)
    rw [Int.toNat_natCast] at a5
    have hix := ia22 (b := m.length) (o := 0) (n := gen.length) (c := gen.length) (ex := true) (ix := (i : Int)) (by omega) (by omega)
    simp only [Int.toNat_natCast, Nat.zero_add] at hix
    have hst := sc_ints (m := m ++ [⟨L.map I, 2⟩]) (b := m.length) (o := i) (x := en gen i c) (At.new1 _ _ _) (by omega)
    have hen : (gen.getD i []).getD c 0 = en gen i c := rfl
    rw [hen] at a5
    simp [l183_7, r183_0, r183_1, r183_2, r183_3, r183_4, r183_5, r183_6, r183_8, c183, e1, e5, e19, e20, e21, hlt, a1, a2, a4, a5, hix, hst, w1, -List.getD_eq_getElem?_getD, -sc_app0]
    refine ⟨gen.length - (i + 1), by omega, ⟨i + 1, by simp [e1], by simp [e5], by simp [e19], by simp [e20], by simp, by omega, rfl, ?_⟩⟩
    rw [← List.map_set, ← hL, mapTo_set (List.replicate gen.length 0) (fun r => en gen r c) i (by simpa using hlt)]
  · have hil : i = gen.length := by omega
    subst hil
    simp [l183_7, r183_0, r183_1, r183_2, r183_3, r183_4, r183_5, r183_6, r183_8, c183, e5, e20, e21]
    have := mapTo_end (List.replicate gen.length 0) (fun r => en gen r c)
    rw [List.length_replicate] at this
    rw [this]
    exact hQ
end Go.Proofs.YtefjnnghfloddaaGreat.Abs

/- Specifications: a basis takes a column. -/
namespace Go.Proofs.YtefjnnghfloddaaGreat.Abs
set_option linter.unusedVariables false
set_option linter.unusedSimpArgs false
set_option linter.unusedSectionVars false
open Ff
def rV (F : Ff) (bs : List (List Int × Nat)) (v : Nat → Int) : Nat → Int := bs.foldl (fun v p => F.red1 (lv p.1) p.2 v) v
theorem rV_snoc (F : Ff) (bs : List (List Int × Nat)) (p : List Int × Nat) : rV F (bs ++ [p]) = fun v => F.red1 (lv p.1) p.2 (rV F bs v) := by
  funext v; simp [rV]
theorem rV_take (F : Ff) (bs : List (List Int × Nat)) (i : Nat) (hi : i < bs.length) (v : Nat → Int) : rV F (bs.take (i + 1)) v = F.red1 (lv bs[i].1) bs[i].2 (rV F (bs.take i) v) := by
  rw [List.take_add_one, List.getElem?_eq_getElem hi]
  simp only [Option.toList_some]
  rw [rV_snoc]
def BsOk (F : Ff) (K : Nat) (bs : List (List Int × Nat)) : Prop := ∀ p, p ∈ bs → p.1.length = K ∧ p.2 < K ∧ ∀ j, F.E (p.1.getD j 0)
def subL (F : Ff) (cur row : List Int) (x : Int) (j : Nat) : Int := F.sub (cur.getD j 0) (F.mul x (row.getD j 0))
theorem subL_lv {F : Ff} (hF : F.Ok) {cur row : List Int} {K k : Nat} (h1 : cur.length = K) (h2 : row.length = K) : lv ((List.range K).map (subL F cur row (cur.getD k 0))) = F.red1 (lv row) k (lv cur) := by
  funext j
  rw [lv_map]
  split
  · rfl
  · simp only [red1, sm]
    rw [lv_Vn cur j (by omega), lv_Vn row j (by omega), hF.mul0r, hF.sub_self]
theorem subL_zero {F : Ff} (hF : F.Ok) {cur row : List Int} (hE : ∀ j, F.E (cur.getD j 0)) (j : Nat) : subL F cur row 0 j = cur.getD j 0 := by
  rw [subL, hF.mul0, hF.sub0 (hE j)]
theorem lc_up {m : Mem} {b o : Nat} {u : V} (h : lc m b o = some u) (g : Mem) : lc (m ++ g) b o = some u := by
  have hb : b < m.length := by
    rcases Nat.lt_or_ge b m.length with h1 | h1
    · exact h1
    · rw [lc, List.getElem?_eq_none h1] at h; simp [lcb] at h
  rw [lc, List.getElem?_append_left hb]; exact h
structure BA (f : Fd) (g : V) (m0 : Mem) (bb K : Nat) (bs : List (List Int × Nat)) (rv pv : V) (b : Nat → Nat) (x : Nat → Bool) (m : Mem) : Prop where
  bb0 : m0.length ≤ bb
  at_ : At m bb [g, rv, pv] 2
  rvF : FreshV m0 m rv ((List.range bs.length).map (rsl (bs.map (·.1)) b x))
  pvF : FreshA m0 m pv (bs.map fun p => (p.2 : Int))
  row : ∀ i, i < bs.length → m0.length ≤ b i ∧ b i ≠ bb ∧ At m (b i) ((rw_ (bs.map (·.1)) i).map I) 2 ∧ Off rv (b i) ∧ Off pv (b i)
  off : Off rv bb ∧ Off pv bb
  sep : ∀ y o n c z ex, rv = .sl y o n c z ex → Off pv y
  ok : BsOk f.F K bs
  lt : bs.length ≤ 1000
section
variable {f : Fd} {g : V} {m0 : Mem} {bb K : Nat} {bs : List (List Int × Nat)} {rv pv : V} {b : Nat → Nat} {x : Nat → Bool} {m : Mem} (h : BA f g m0 bb K bs rv pv b x m)
include h
theorem BA.app (gg : Mem) : BA f g m0 bb K bs rv pv b x (m ++ gg) :=
  ⟨h.bb0, At.app h.at_ _, h.rvF.app gg, h.pvF.app gg, fun i hi => ⟨(h.row i hi).1, (h.row i hi).2.1, At.app (h.row i hi).2.2.1 _, (h.row i hi).2.2.2⟩, h.off, h.sep, h.ok, h.lt⟩
theorem BA.rows : Rows m rv (bs.map (·.1)) := by
  rcases h.rvF with ⟨rfl, h2⟩ | ⟨B, ex, rfl, _, hB⟩
  · refine .inl ⟨rfl, ?_⟩
    have := congrArg List.length h2
    simp at this
    simp [this]
  · refine .inr (.inr ⟨B, 0, bs.length, ex, _, by simp, hB, by simp, by simp, fun i hi => ⟨rsl (bs.map (·.1)) b x i, ?_, ?_⟩⟩)
    · rw [Nat.zero_add, List.getElem?_map, List.getElem?_range (by simpa using hi)]; rfl
    · have := (h.row i (by simpa using hi)).2.2.1.ints (by omega) (x i)
      have hi' : i < bs.length := by simpa using hi
      rw [rw_, List.getD_eq_getElem?_getD, List.getElem?_eq_getElem hi] at this
      simpa [rsl, rw_, hi'] using this
end
theorem FreshV.cell {m0 m : Mem} {v : V} {cs : List V} (h : FreshV m0 m v cs) : v.isCell = true := by
  rcases h with ⟨rfl, _⟩ | ⟨b, ex, rfl, _⟩ <;> rfl
theorem FreshV.keep {m0 m m' : Mem} {v : V} {cs : List V} (h : FreshV m0 m v cs) (hk : ∀ y k, ¬ Off v y → m[y]? = some k → m'[y]? = some k) : FreshV m0 m' v cs := by
  rcases h with h | ⟨b, ex, rfl, h2, h3⟩
  · exact .inl h
  · exact .inr ⟨b, ex, rfl, h2, hk _ ⟨cs, 2⟩ (fun ho => ho _ _ _ _ _ rfl) h3⟩
theorem notOff {v : V} {y : Nat} (h : ¬ Off v y) : ∃ o n c z ex, v = .sl y o n c z ex := by
  refine Classical.byContradiction fun hn => h fun o n c z ex e => hn ⟨o, n, c, z, ex, e⟩
def Aw (bb : Nat) (rv pv : V) (b : Nat → Nat) (n y : Nat) : Prop := y ≠ bb ∧ Off rv y ∧ Off pv y ∧ ∀ i, i < n → y ≠ b i
theorem BA.push {f : Fd} {g : V} {m0 : Mem} {bb K : Nat} {bs : List (List Int × Nat)} {rv pv : V} {b : Nat → Nat} {x : Nat → Bool} {m : Mem} (h : BA f g m0 bb K bs rv pv b x m) (hp : Pre m0 m) {nb k : Nat} {row : List Int} (hat : At m nb (row.map I) 2) (n0 : m0.length ≤ nb) (nbb : nb ≠ bb) (o1 : Off rv nb) (o2 : Off pv nb) (hl : row.length = K) (hk : k < K) (hE : ∀ j, f.F.E (row.getD j 0)) (hbl : bs.length < 1000) :
    ∃ v' m3 pv' m5 b' x', opAppend T 25 25 rv (.sl m.length 0 1 1 1 true) (m ++ [⟨[.sl nb 0 K K 1 true], 2⟩]) = some (v', m3) ∧ v'.isCell = true ∧ At m3 bb [g, rv, pv] 2 ∧
      opAppend T 22 22 pv (.sl (m3.set bb ⟨[g, v', pv], 2⟩).length 0 1 1 1 true) (m3.set bb ⟨[g, v', pv], 2⟩ ++ [⟨[I k], 2⟩]) = some (pv', m5) ∧ pv'.isCell = true ∧ At m5 bb [g, v', pv] 2 ∧
      Pre m0 (m5.set bb ⟨[g, v', pv'], 2⟩) ∧ BA f g m0 bb K (bs ++ [(row, k)]) v' pv' b' x' (m5.set bb ⟨[g, v', pv'], 2⟩) ∧
      (∀ y k, y ≠ bb → Off rv y → Off pv y → m[y]? = some k → (m5.set bb ⟨[g, v', pv'], 2⟩)[y]? = some k) ∧ (∀ y, y < m.length → y ≠ nb → Aw bb rv pv b bs.length y → Aw bb v' pv' b' (bs.length + 1) y) := by
  obtain ⟨v', m3, a1, a2, a3, a4, a5, a6⟩ := append25 (u := .sl nb 0 K K 1 true) h.rvF hp (by simp; omega)
  obtain ⟨p1, p2⟩ := h.off
  have hbb3 := a5 _ _ p1 h.at_
  -- the places' block is not the rows'
  have hpo : ∀ y, ¬ Off pv y → Off rv y := fun y hy o n c z ex e => hy (h.sep y o n c z ex e)
  have hpv3 : FreshA m0 m3 pv (bs.map fun p => (p.2 : Int)) := h.pvF.keep fun y k hy hm => a5 y k (hpo y hy) hm
  have hvbb : Off v' bb := a6 _ h.at_.lt p1
  have hbb4 : At (m3.set bb ⟨[g, v', pv], 2⟩) bb [g, v', pv] 2 := At.set_self hbb3
  have hpv4 : FreshA m0 (m3.set bb ⟨[g, v', pv], 2⟩) pv (bs.map fun p => (p.2 : Int)) := hpv3.set_off p2 _
  obtain ⟨pv', m5, c1, c2, c3, c4, c5, c6⟩ := append22 (x := (k : Int)) hpv4 (a3.set h.bb0 _) (by simp; omega)
  have hbb5 := c5 _ _ p2 hbb4
  -- the new rows' block is not the places'
  have hvp : ∀ y, ¬ Off v' y → Off pv y := by
    intro y hy
    refine Classical.byContradiction fun hn => hy ?_
    have hlt : y < m.length := by
      obtain ⟨o, n, c, z, ex, rfl⟩ := notOff hn
      rcases h.pvF with ⟨h, _⟩ | ⟨b, ex, h, _, h3⟩
      · cases h
      · injection h with h; subst h; exact At.lt h3
    exact a6 y hlt (hpo y hn)
  have hv5 : FreshV m0 m5 v' ((List.range bs.length).map (rsl (bs.map (·.1)) b x) ++ [.sl nb 0 K K 1 true]) := by
    refine (a2.set_off hvbb ⟨[g, v', pv], 2⟩).keep fun y k hy hm => c5 y k (hvp y hy) hm
  have hpbb : Off pv' bb := c6 _ hbb4.lt p2
  have hrl : ∀ (i : Nat), rw_ ((bs ++ [(row, k)]).map (·.1)) i = if i < bs.length then rw_ (bs.map (·.1)) i else if i = bs.length then row else [] := by
    intro i
    simp only [rw_, List.map_append, List.map_cons, List.map_nil, List.getD_eq_getElem?_getD]
    by_cases h1 : i < bs.length
    · rw [if_pos h1, List.getElem?_append_left (by simpa using h1)]
    · rw [if_neg h1, List.getElem?_append_right (by simpa using h1)]
      by_cases h2 : i = bs.length
      · subst h2; simp
      · rw [if_neg h2, List.getElem?_eq_none (by simp; omega)]; rfl
  refine ⟨v', m3, pv', m5, fun i => if i = bs.length then nb else b i, fun i => if i = bs.length then true else x i, a1, a2.cell, hbb3, c1, c2.cell, hbb5, c3.set h.bb0 _, ⟨h.bb0, At.set_self hbb5, ?_, c2.set_off hpbb _ |> fun h => by rw [List.map_append]; exact h, ?_, ⟨hvbb, hpbb⟩, ?_, ?_, by simp; omega⟩, ?_, ?_⟩
  · refine FreshV.set_off ?_ hvbb _
    have e : (List.range (bs ++ [(row, k)]).length).map (rsl ((bs ++ [(row, k)]).map (·.1)) (fun i => if i = bs.length then nb else b i) fun i => if i = bs.length then true else x i) = (List.range bs.length).map (rsl (bs.map (·.1)) b x) ++ [.sl nb 0 K K 1 true] := by
      rw [List.length_append, List.length_cons, List.length_nil, Nat.zero_add, List.range_succ, List.map_append]
      congr 1
      · apply List.map_congr_left
        intro j hj
        have := List.mem_range.1 hj
        simp only [rsl]
        rw [hrl, if_pos this, if_neg (by omega), if_neg (by omega)]
      · have e0 : rw_ ((bs ++ [(row, k)]).map (·.1)) bs.length = row := by rw [hrl, if_neg (by omega), if_pos rfl]
        simp only [List.map_cons, List.map_nil, rsl, e0, hl, if_true]
    rw [e]; exact hv5
  · intro i hi
    simp only [List.length_append, List.length_cons, List.length_nil] at hi
    rw [hrl]
    by_cases h1 : i < bs.length
    · obtain ⟨q1, q2, q3, q4, q5⟩ := h.row i h1
      rw [if_pos h1]
      simp only [show ¬ i = bs.length by omega, if_false]
      have t3 := a5 _ _ q4 q3
      have t4 : At (m3.set bb ⟨[g, v', pv], 2⟩) (b i) ((rw_ (bs.map (·.1)) i).map I) 2 := At.set_ne t3 (Ne.symm q2)
      have t5 := c5 _ _ q5 t4
      exact ⟨q1, q2, At.set_ne t5 (Ne.symm q2), a6 _ q3.lt q4, c6 _ t4.lt q5⟩
    · have h2 : i = bs.length := by omega
      rw [if_neg h1, if_pos h2]
      simp only [h2, if_true]
      have t3 := a5 _ _ o1 hat
      have t4 : At (m3.set bb ⟨[g, v', pv], 2⟩) nb (row.map I) 2 := At.set_ne t3 (Ne.symm nbb)
      have t5 := c5 _ _ o2 t4
      exact ⟨n0, nbb, At.set_ne t5 (Ne.symm nbb), a6 _ (At.lt hat) o1, c6 _ (At.lt t4) o2⟩
  · intro y o n c z ex e
    have hy : ¬ Off v' y := fun ho => ho _ _ _ _ _ e
    refine c6 y ?_ (hvp y hy)
    subst e
    rcases a2 with ⟨h, _⟩ | ⟨b, ex, h, _, h3⟩
    · cases h
    · injection h with h
      subst h
      have := At.lt h3
      simpa using this
  · intro p hp
    rcases List.mem_append.1 hp with hp | hp
    · exact h.ok p hp
    · simp at hp
      subst hp
      exact ⟨hl, hk, hE⟩
  · intro y k hy q1 q2 hm
    have t3 := a5 _ _ q1 hm
    have t4 : (m3.set bb ⟨[g, v', pv], 2⟩)[y]? = some k := by rw [List.getElem?_set_ne (Ne.symm hy)]; exact t3
    rw [List.getElem?_set_ne (Ne.symm hy)]
    exact c5 _ _ q2 t4
  · rintro y hy hn ⟨q1, q2, q3, q4⟩
    refine ⟨q1, a6 y hy q2, c6 y (by rw [List.length_set]; omega) q3, fun i hi => ?_⟩
    by_cases h1 : i = bs.length
    · simp only [h1, if_true]; exact hn
    · simp only [h1, if_false]; exact q4 i (by omega)
structure JsI (f : Fd) (v0 row : List Int) (xx : Int) (K vb bb : Nat) (g rvv u : V) (m1 : Mem) (len i : Nat) (k : Nat) (e : Env) (m' : Mem) : Prop where
  d : ∃ j : Nat, e 0 = .ptr bb 0 ∧ e 1 = .sl vb 0 K K 1 true ∧ e 7 = I xx ∧ e 16 = rvv ∧ e 17 = I len ∧ e 18 = I i ∧ e 35 = u ∧ e 36 = I K ∧ e 37 = I j ∧ j ≤ K ∧ K - j = k ∧ m' = m1 ++ [⟨(mapTo v0 (subL f.F v0 row xx) j).map I, 2⟩]
structure OsI (f : Fd) (v : List Int) (bs : List (List Int × Nat)) (K vb bb : Nat) (rvv : V) (m1 : Mem) (k : Nat) (e : Env) (m' : Mem) : Prop where
  d : ∃ (i : Nat) (cur : List Int), e 0 = .ptr bb 0 ∧ e 1 = .sl vb 0 K K 1 true ∧ e 16 = rvv ∧ e 17 = I bs.length ∧ e 18 = I i ∧ i ≤ bs.length ∧ bs.length - i = k ∧ cur.length = K ∧ (∀ j, f.F.E (cur.getD j 0)) ∧ lv cur = rV f.F (bs.take i) (lv v) ∧ m' = m1 ++ [⟨cur.map I, 2⟩]
theorem basisAdd_wv {f : Fd} {g : V} {m0 m1 : Mem} {bb K : Nat} {bs : List (List Int × Nat)} {rv pv : V} {b : Nat → Nat} {x : Nat → Bool} {v : List Int} {Q : V → Mem → Prop} (hg : GFAt m0 g f) (hp : Pre m0 m1) (h : BA f g m0 bb K bs rv pv b x m1) (hv : v.length = K) (hvE : ∀ j, f.F.E (v.getD j 0)) (hK : K ≤ 1000) (hbl : bs.length < 1000)
    (h1 : (∀ k, k < K → rV f.F bs (lv v) k = 0) → ∀ m', Pre m0 m' → BA f g m0 bb K bs rv pv b x m' → (∀ (y : Nat) k, m1[y]? = some k → m'[y]? = some k) → Q (.bool false) m')
    (h2 : ∀ k, First (fun k => rV f.F bs (lv v) k ≠ 0) 0 K k → ∀ row m' rv' pv' b' x', lv row = (fun j => f.F.mul (f.F.inv (rV f.F bs (lv v) k)) (rV f.F bs (lv v) j)) → Pre m0 m' → BA f g m0 bb K (bs ++ [(row, k)]) rv' pv' b' x' m' → (∀ (y : Nat) k, y ≠ bb → Off rv y → Off pv y → m1[y]? = some k → m'[y]? = some k) → (∀ y, y < m1.length → Aw bb rv pv b bs.length y → Aw bb rv' pv' b' (bs.length + 1) y) → Q (.bool true) m') :
    WV (DD 182 [.ptr bb 0, .sl m1.length 0 K K 1 true] (m1 ++ [⟨v.map I, 2⟩])) Q := by
  have hF := hg.ok.F
  rw [e182]
  refine WV_fin ?_
  have hA0 := At.app h.at_ [⟨v.map I, 2⟩]
  have l1 : lc (m1 ++ [⟨v.map I, 2⟩]) bb 1 = some rv := by rw [lc_at hA0 (by omega)]; rfl
  have hrlen := (h.app [⟨v.map I, 2⟩]).rows.len
  simp at hrlen
  simp [r182_0, r182_1, r182_2, r182_3, r182_4, r182_5, r182_6, r182_7, r182_8, r182_9, r182_10, r182_12, r182_14, r182_15, r182_16, r182_17, r182_18, r182_19, r182_20, c182, l1, hrlen]
  refine W_loop (OsI f v bs K m1.length bb rv m1) ?_ bs.length _ _ ⟨⟨0, v, by simp, by simp, by simp, by simp, by simp, by omega, by omega, hv, hvE, rfl, rfl⟩⟩
  rintro k e m' ⟨⟨i, cur, e0, e1, e16, e17, e18, hi, hk, hcl, hcE, hcur, rfl⟩⟩
  have hBA := h.app [⟨cur.map I, 2⟩]
  have hcat : At (m1 ++ [⟨cur.map I, 2⟩]) m1.length (cur.map I) 2 := At.new1 _ _ _
  have hpre : Pre m0 (m1 ++ [⟨cur.map I, 2⟩]) := hp.app _
  by_cases hlt : i < bs.length
  · obtain ⟨b1, o1, u, a1, a2, a3⟩ := h.rows.at (ix := i) (by omega) (by simpa using hlt)
    rw [Int.toNat_natCast] at a3
    have a2 := lc_up a2 [⟨cur.map I, 2⟩]
    have hrow : (bs.map (·.1)).getD i [] = bs[i].1 := by simp [hlt]
    rw [hrow] at a3
    obtain ⟨r1, r2, r3⟩ := h.ok bs[i] (List.getElem_mem hlt)
    have l2 : lc (m1 ++ [⟨cur.map I, 2⟩]) bb 2 = some pv := by rw [lc_at hBA.at_ (by omega)]; rfl
    obtain ⟨b2, o2, a4, a5⟩ := hBA.pvF.ints.at (ix := i) (by omega) (by simpa using hlt)
    have hpl : (bs.map fun p => (p.2 : Int)).getD i 0 = (bs[i].2 : Nat) := by simp [hlt]
    rw [Int.toNat_natCast, hpl] at a5
    have hix := ia22 (b := m1.length) (o := 0) (n := K) (c := K) (ex := true) (ix := (bs[i].2 : Nat)) (by omega) (by omega)
    simp only [Int.toNat_natCast, Nat.zero_add] at hix
    have lx := lc_ints hcat (by omega) (o := bs[i].2) (by omega)
    have w1 : IntKind.i64.wrap ((i : Int) + 1) = (i + 1 : Nat) := by rw [wrap64_in (by omega) (by omega)]; omega
    have hnext : ∀ e' cur', e' 0 = .ptr bb 0 → e' 1 = .sl m1.length 0 K K 1 true → e' 16 = rv → e' 17 = I bs.length → e' 18 = I (i + 1 : Nat) → cur' = (List.range K).map (subL f.F cur bs[i].1 (cur.getD bs[i].2 0)) → ∃ k', k' < k ∧ OsI f v bs K m1.length bb rv m1 k' e' (m1 ++ [⟨cur'.map I, 2⟩]) := by
      rintro e' cur' f0 f1 f16 f17 f18 rfl
      refine ⟨bs.length - (i + 1), by omega, ⟨i + 1, _, f0, f1, f16, f17, f18, by omega, rfl, by simp, fun j => ?_, ?_, rfl⟩⟩
      · have := congrFun (subL_lv hF (k := bs[i].2) hcl r1) j
        rw [show ((List.range K).map (subL f.F cur bs[i].1 (cur.getD bs[i].2 0))).getD j 0 = lv ((List.range K).map (subL f.F cur bs[i].1 (cur.getD bs[i].2 0))) j from rfl, this]
        exact hF.subE
      · rw [subL_lv hF hcl r1, rV_take _ _ _ hlt, hcur]
    by_cases h0 : cur.getD bs[i].2 0 = 0
    · simp [l182_13, r182_0, r182_1, r182_2, r182_3, r182_4, r182_5, r182_6, r182_7, r182_8, r182_9, r182_10, r182_12, r182_14, r182_15, r182_16, r182_17, r182_18, r182_19, r182_20, c182, e0, e1, e16, e17, e18, hlt, a1, a2, l2, a4, a5, hix, lx, h0, w1, -List.getD_eq_getElem?_getD, -Int.natCast_add]
      refine hnext _ cur ?_ ?_ ?_ ?_ ?_ ?_
      · simp [e0]
      · simp [e1]
      · simp [e16]
      · simp [e17]
      · simp [-Int.natCast_add]
      · rw [h0]
        apply list_ext_D (by simp [hcl])
        intro j hj
        have : ((List.range K).map (subL f.F cur bs[i].1 0)).getD j 0 = subL f.F cur bs[i].1 0 j := by
          have := lv_map K (subL f.F cur bs[i].1 0) j
          rw [if_pos (by omega)] at this
          exact this
        rw [this, subL_zero hF hcE]
    · have hrl := a3.len
      rw [r1] at hrl
      simp [l182_13, r182_0, r182_1, r182_2, r182_3, r182_4, r182_5, r182_6, r182_7, r182_8, r182_9, r182_10, r182_12, r182_14, r182_15, r182_16, r182_17, r182_18, r182_19, r182_20, c182, e0, e1, e16, e17, e18, hlt, a1, a2, l2, a4, a5, hix, lx, h0, hrl, -List.getD_eq_getElem?_getD, -Int.natCast_add]
      refine W_loop (JsI f cur bs[i].1 (cur.getD bs[i].2 0) K m1.length bb g rv u m1 bs.length i) ?_ K _ _ ⟨⟨0, by simp [e0], by simp [e1], by simp [-List.getD_eq_getElem?_getD], by simp [e16], by simp [e17], by simp [e18], by simp, by simp, by simp, by omega, by omega, by rw [mapTo_0]⟩⟩
      rintro k2 e2 m2 ⟨⟨j, f0, f1, f7, f16, f17, f18, f35, f36, f37, hj, hk2, rfl⟩⟩
      have wj : IntKind.i64.wrap ((j : Int) + 1) = j + 1 := wrap64_in (by omega) (by omega)
      generalize hC : mapTo cur (subL f.F cur bs[i].1 (cur.getD bs[i].2 0)) j = C
      have hBC := h.app [⟨C.map I, 2⟩]
      have hCl : C.length = K := by rw [← hC]; simpa using hcl
      have hCat : At (m1 ++ [⟨C.map I, 2⟩]) m1.length (C.map I) 2 := At.new1 _ _ _
      have lg : lc (m1 ++ [⟨C.map I, 2⟩]) bb 0 = some g := by rw [lc_at hBC.at_ (by omega)]; rfl
      by_cases hjl : j < K
      · obtain ⟨b3, o3, a6, a7⟩ := (a3.pre (List.prefix_append m1 ([⟨C.map I, 2⟩] : Mem))).at (ix := j) (by omega) (by omega)
        rw [Int.toNat_natCast] at a7
        have hix2 := ia22 (b := m1.length) (o := 0) (n := K) (c := K) (ex := true) (ix := (j : Int)) (by omega) (by omega)
        simp only [Int.toNat_natCast, Nat.zero_add] at hix2
        have lj := lc_ints hCat (by omega) (o := j) (by omega)
        have hCj : C.getD j 0 = cur.getD j 0 := by
          rw [← hC, List.getD_eq_getElem?_getD, mapTo_get _ _ _ _ (by omega), if_neg (by omega)]; rfl
        rw [hCj] at lj
        have hgC := hg.pre (hp.app [⟨C.map I, 2⟩])
        simp [l182_11, r182_0, r182_1, r182_2, r182_3, r182_4, r182_5, r182_6, r182_7, r182_8, r182_9, r182_10, r182_12, r182_14, r182_15, r182_16, r182_17, r182_18, r182_19, r182_20, c182, f0, f1, f7, f35, f36, f37, hjl, a6, a7, lg, hix2, lj, -List.getD_eq_getElem?_getD, -lc_app0, -lc_app]
        refine WR_bnd (mul_wv hgC (hcE _) (r3 j) ?_)
        simp [-List.getD_eq_getElem?_getD]
        refine WR_bnd (sub_wv hgC (hcE j) hF.mulE ?_)
        have hst := sc_ints hCat (o := j) (x := subL f.F cur bs[i].1 (cur.getD bs[i].2 0) j) (by omega)
        rw [subL] at hst
        have hms := mapTo_set cur (subL f.F cur bs[i].1 (cur.getD bs[i].2 0)) j (by omega)
        simp [hix2, hst, f0, f1, f7, f16, f17, f18, f35, f36, f37, wj, -List.getD_eq_getElem?_getD, -sc_app0]
        refine ⟨K - (j + 1), by omega, ⟨j + 1, by simp [f0], by simp [f1], by simp [f7, -List.getD_eq_getElem?_getD], by simp [f16], by simp [f17], by simp [f18], by simp [f35], by simp [f36], by simp, by omega, rfl, ?_⟩⟩
        rw [← hms, hC, List.map_set, subL]
      · have hjK : j = K := by omega
        subst hjK
        simp [l182_11, r182_0, r182_1, r182_2, r182_3, r182_4, r182_5, r182_6, r182_7, r182_8, r182_9, r182_10, r182_12, r182_14, r182_15, r182_16, r182_17, r182_18, r182_19, r182_20, c182, f0, f1, f36, f37, f18, w1, -Int.natCast_add]
        refine hnext _ C ?_ ?_ ?_ ?_ ?_ ?_
        · simp [f0]
        · simp [f1]
        · simp [f16]
        · simp [f17]
        · simp [-Int.natCast_add]
        · rw [← hC]
          have := mapTo_end cur (subL f.F cur bs[i].1 (cur.getD bs[i].2 0))
          rw [hcl] at this
          exact this
  · have hil : i = bs.length := by omega
    subst hil
    rw [List.take_length] at hcur
    have hci := hcat.ints (by omega) true
    rw [hcl] at hci
    simp [l182_13, r182_0, r182_1, r182_2, r182_3, r182_4, r182_5, r182_6, r182_7, r182_8, r182_9, r182_10, r182_12, r182_14, r182_15, r182_16, r182_17, r182_18, r182_19, r182_20, c182, e0, e1, e17, e18]
    refine WR_bnd (indexNe0_wv hci (by omega) (fun k hk => ?_) fun hall => ?_)
    · rw [hcl] at hk
      have hkf : First (fun k => rV f.F bs (lv v) k ≠ 0) 0 K k := by rw [← hcur]; exact hk
      obtain ⟨q1, q2, q3, q4⟩ := hk
      have hx0 : cur.getD k 0 = rV f.F bs (lv v) k := congrFun hcur k
      have hix := ia22 (b := m1.length) (o := 0) (n := K) (c := K) (ex := true) (ix := (k : Int)) (by omega) (by omega)
      simp only [Int.toNat_natCast, Nat.zero_add] at hix
      have lk := lc_ints hcat (by omega) (o := k) (by omega)
      have lg : lc (m1 ++ [⟨cur.map I, 2⟩]) bb 0 = some g := by rw [lc_at hBA.at_ (by omega)]; rfl
      have lr : lc (m1 ++ [⟨cur.map I, 2⟩]) bb 1 = some rv := by rw [lc_at hBA.at_ (by omega)]; rfl
      have hnn : ¬ ((k : Int) < 0) := by omega
      simp [hnn, e0, e1, lg, hix, lk, -List.getD_eq_getElem?_getD, -lc_app0, -lc_app]
      refine WR_bnd (inv_wv (hg.pre hpre) (hcE k) (fun h0 => (q3 h0).elim) fun _ => ?_)
      simp [e0, e1, lg, lr, -List.getD_eq_getElem?_getD, -lc_app0, -lc_app]
      refine WR_bnd (scale_wv (hg.pre hpre) hF.invE hci hcE (by omega) ?_)
      have hmm : (m1 ++ [⟨cur.map I, 2⟩] : Mem) ++ ([⟨(f.F.rowScale (f.F.inv (cur.getD k 0)) cur).map I, 2⟩] : Mem) = m1 ++ [⟨cur.map I, 2⟩, ⟨(f.F.rowScale (f.F.inv (cur.getD k 0)) cur).map I, 2⟩] := by simp
      have hml : (m1 ++ [⟨cur.map I, 2⟩] : Mem).length = m1.length + 1 := by simp
      rw [hmm, hml, hcl]
      generalize hrow : f.F.rowScale (f.F.inv (cur.getD k 0)) cur = row
      have hrl : row.length = K := by rw [← hrow]; simpa using hcl
      have hrE : ∀ j, f.F.E (row.getD j 0) := by
        intro j
        by_cases hj : j < cur.length
        · rw [← hrow, rowScale_get _ hj]; exact hF.mulE
        · rw [List.getD_eq_getElem?_getD, List.getElem?_eq_none (by omega)]; exact hF.zeroE
      have hlt1 := h.at_.lt
      have hp2 : Pre m0 (m1 ++ [⟨cur.map I, 2⟩, ⟨row.map I, 2⟩]) := hp.app _
      obtain ⟨v', m3, pv', m5, b', x', a1, a2, a3, a4, a5, a6, a7, a8, a9, a10⟩ := (h.app [⟨cur.map I, 2⟩, ⟨row.map I, 2⟩]).push (k := k) (nb := m1.length + 1) (row := row) hp2 (by simp [At]) (by have := hp.len; omega) (by omega) (h.rvF.off (by omega)) (h.pvF.off (by omega)) hrl (by omega) hrE hbl
      have s1 := sc_at a3 (o := 1) a2 (by simp)
      have s2 := sc_at a6 (o := 2) a5 (by simp)
      have l2 : lc (m3.set bb ⟨[g, v', pv], 2⟩) bb 2 = some pv := by rw [lc_at (At.set_self a3) (by omega)]; rfl
      have ll : (m1 ++ [⟨cur.map I, 2⟩, ⟨row.map I, 2⟩] : Mem).length = m1.length + 2 := by simp
      rw [ll] at a1
      rw [List.length_set] at a4
      have a1' : opAppend T 25 25 rv (.sl (m1.length + 2) 0 1 1 1 true) (m1 ++ [⟨cur.map I, 2⟩, ⟨row.map I, 2⟩, ⟨[.sl (m1.length + 1) 0 K K 1 true], 2⟩]) = some (v', m3) := by
        rw [← a1]; simp
      have lit : opBuildSlice T 25 1 [(0, .sl (m1.length + 1) 0 K K 1 true)] (m1 ++ [⟨cur.map I, 2⟩, ⟨row.map I, 2⟩]) = some (.sl (m1.length + 2) 0 1 1 1 true, m1 ++ [⟨cur.map I, 2⟩, ⟨row.map I, 2⟩, ⟨[.sl (m1.length + 1) 0 K K 1 true], 2⟩]) := by
        rw [lit25 _ rfl]; simp
      rw [List.set_cons_succ, List.set_cons_zero] at s1
      rw [List.set_cons_succ, List.set_cons_succ, List.set_cons_zero] at s2
      have hck : chkd (m1 ++ [⟨cur.map I, 2⟩]) (m1 ++ [⟨cur.map I, 2⟩, ⟨row.map I, 2⟩]) = fun r => r := by
        funext r
        exact chkd_of ⟨[⟨row.map I, 2⟩], by simp⟩
      simp [hck, e0, lit, a1', st25 _ _ _ _ a2, s1, l2, lit22, a4, st22 _ _ _ _ a5, s2]
      refine h2 k hkf row _ v' pv' b' x' ?_ a7 a8 (fun y k hy q1 q2 hm => a9 y k hy q1 q2 (At.app (l := k.cells) (st := k.st) hm _)) fun y hy hw => a10 y (by simp; omega) (by omega) hw
      rw [← hx0, ← hcur, ← hrow]
      funext j
      by_cases hj : j < cur.length
      · exact rowScale_get _ hj
      · rw [lv_Vn (f.F.rowScale _ cur) j (by simp; omega), lv_Vn cur j (by omega), hF.mul0r]
    · simp
      refine h1 (fun k hk => ?_) _ hpre hBA fun y k hm => At.app (l := k.cells) (st := k.st) hm _
      rw [← hcur]
      exact hall k (by omega)
end Go.Proofs.YtefjnnghfloddaaGreat.Abs

/- Specifications: sets of independent positions. -/
namespace Go.Proofs.YtefjnnghfloddaaGreat.Abs
set_option linter.unusedVariables false
set_option linter.unusedSimpArgs false
set_option linter.unusedSectionVars false
open Ff
@[simp] theorem bg_undef {w : Bool} {x : Option (V × Mem)} {m : Mem} {k : V → Mem → Option (Env × Mem)} : bg V.undef w x m k = k V.undef m := nr rfl
theorem BA.keep {f : Fd} {g : V} {m0 : Mem} {bb K : Nat} {bs : List (List Int × Nat)} {rv pv : V} {b : Nat → Nat} {x : Nat → Bool} {m m' : Mem} (h : BA f g m0 bb K bs rv pv b x m) (hk : ∀ y k, ¬ Aw bb rv pv b bs.length y → m[y]? = some k → m'[y]? = some k) : BA f g m0 bb K bs rv pv b x m' :=
  ⟨h.bb0, hk _ _ (fun ha => ha.1 rfl) h.at_, h.rvF.keep fun y k hy hm => hk y k (fun ha => hy ha.2.1) hm, h.pvF.keep fun y k hy hm => hk y k (fun ha => hy ha.2.2.1) hm,
    fun i hi => ⟨(h.row i hi).1, (h.row i hi).2.1, hk _ _ (fun ha => ha.2.2.2 i hi rfl) (h.row i hi).2.2.1, (h.row i hi).2.2.2⟩, h.off, h.sep, h.ok, h.lt⟩
theorem build195 {a : V} (ha : a.isCell = true) : opBuild T 195 [(0, a)] = some (.agg [a, .nils, .nils]) := by
  have h : a.cells = [a] := by cases a <;> simp [V.cells, V.isCell] at ha ⊢
  simp [opBuild, T195, T76, T25, T22, placeOf, fillA, h, ha]
theorem GrAll_cons {F : Ff} {K : Nat} {r : (Nat → Int) → Nat → Int} {g : Nat → Int} {gs : List (Nat → Int)} {k : Nat} (hk : First (fun k => r g k ≠ 0) 0 K k) : F.GrAll K r (g :: gs) ↔ F.GrAll K (fun v => F.red1 (fun j => F.mul (F.inv (r g k)) (r g j)) k (r v)) gs := by
  constructor
  · intro h
    cases h with
    | cons _ _ _ k2 h1 h2 => rw [hk.uniq h1]; exact h2
  · intro h
    exact .cons _ _ _ k hk h
theorem not_GrAll {F : Ff} {K : Nat} {r : (Nat → Int) → Nat → Int} {g : Nat → Int} {gs : List (Nat → Int)} (h : ∀ k, k < K → r g k = 0) : ¬ F.GrAll K r (g :: gs) := by
  intro hh
  cases hh with
  | cons _ _ _ k2 h1 h2 => exact h1.2.2.1 (h k2 h1.2.1)
def colsV (gen : List (List Int)) (set : List Int) : List (Nat → Int) := set.map fun c r => en gen r c.toNat
theorem colL_lv (gen : List (List Int)) (c : Nat) : lv (colL gen c) = fun r => en gen r c := by
  funext r
  rw [colL, lv_map]
  split
  · rfl
  · rw [en, rw_out (by omega)]; rfl
structure GyI (f : Fd) (g gv sv ordv vm : V) (p n N M w at_ : Int) (gen : List (List Int)) (ord : List Int) (pb : Nat) (m : Mem) (k : Nat) (e : Env) (m' : Mem) : Prop where
  d : ∃ (i : Nat) (bs : List (List Int × Nat)) (rv pv : V) (b : Nat → Nat) (x : Nat → Bool) (outv : V) (out : List Int), e 0 = .ptr pb 0 ∧ e 2 = I ord.length ∧ e 7 = .ptr m.length 0 ∧ e 8 = outv ∧ e 17 = ordv ∧ e 18 = I ord.length ∧ e 19 = I i ∧ i ≤ ord.length ∧ ord.length - i = k ∧ Pre m m' ∧
    BA f g m m.length gen.length bs rv pv b x m' ∧ bs.length ≤ i ∧ FreshA m m' outv out ∧ (∀ y, ¬ Off outv y → Aw m.length rv pv b bs.length y) ∧ out.length ≤ i ∧
    ((out.length = i ∧ (f.F.GrAll gen.length (fun v => v) (colsV gen ord) ↔ f.F.GrAll gen.length (rV f.F bs) ((colsV gen ord).drop i))) ∨ (out.length < i ∧ ¬ f.F.GrAll gen.length (fun v => v) (colsV gen ord)))
theorem greedy_wv {f : Fd} {g vm gv sv ordv : V} {p n N M w at_ : Int} {pb t : Nat} {gen : List (List Int)} {ord : List Int} {m : Mem} {Q : V → Mem → Prop} (hg : GFAt m g f) (hP : At m pb (pcells g p n vm N gv M w sv at_) 2) (hr : Rows m gv gen) (hM : f.F.Mat gen t) (hgl : gen.length ≤ 256) (ho : Ints m ordv ord) (hol : ord.length ≤ 900) (hoe : ∀ j, j < ord.length → 0 ≤ ord.getD j 0 ∧ ord.getD j 0 < t)
    (hQ : ∀ v out m', Pre m m' → Ints m' v out → (out.length = ord.length ↔ f.F.GrAll gen.length (fun v => v) (colsV gen ord)) → Q v m') : WV (DD 171 [.ptr pb 0, ordv, I ord.length] m) Q := by
  have hF := hg.ok.F
  have hgc := hg.cellp
  rw [e171]
  refine WV_fin ?_
  have l0 : lc m pb 0 = some g := by rw [lc_at hP (by omega)]; rfl
  have hp0 : Pre m (m ++ [⟨[g, .nils, .nils], 2⟩]) := List.prefix_append _ _
  simp [r171_0, r171_1, r171_2, r171_3, r171_4, r171_5, r171_6, r171_7, r171_8, r171_9, r171_11, c171, l0, build195 hgc, hgc, ho.len]
  have hBA0 : BA f g m m.length gen.length [] .nils .nils (fun _ => 0) (fun _ => true) (m ++ [⟨[g, .nils, .nils], 2⟩]) :=
    ⟨Nat.le_refl _, At.new1 _ _ _, .inl ⟨rfl, rfl⟩, .inl ⟨rfl, rfl⟩, fun i hi => by simp at hi, ⟨Off.nils _, Off.nils _⟩, fun y o n c z ex e => (by cases e), fun p hp => by simp at hp, by simp⟩
  refine W_loop (GyI f g gv sv ordv vm p n N M w at_ gen ord pb m) ?_ ord.length _ _ ⟨⟨0, [], .nils, .nils, fun _ => 0, fun _ => true, .nils, [], by simp, by simp, by simp, by simp, by simp, by simp, by simp, by omega, by omega, hp0, hBA0, by simp, .inl ⟨rfl, rfl⟩, fun y hy => (hy (Off.nils y)).elim, by simp, .inl ⟨rfl, Iff.rfl⟩⟩⟩
  rintro k e m' ⟨⟨i, bs, rv, pv, b, x, outv, out, e0, e2, e7, e8, e17, e18, e19, hi, hk, hpre, hBA, hbl, hout, hoa, hoo, hst⟩⟩
  have w1 : IntKind.i64.wrap ((i : Int) + 1) = (i + 1 : Nat) := by rw [wrap64_in (by omega) (by omega)]; omega
  have holen := hout.ints.len
  by_cases hlt : i < ord.length
  · obtain ⟨b1, o1, a1, a2⟩ := (ho.pre hpre).at (ix := i) (by omega) (by omega)
    rw [Int.toNat_natCast] at a2
    obtain ⟨c0, c1⟩ := hoe i hlt
    obtain ⟨c, hc⟩ : ∃ c : Nat, ord.getD i 0 = c := ⟨(ord.getD i 0).toNat, by omega⟩
    rw [hc] at a2 c0 c1
    have hnl : ¬ ((out.length : Int) = ord.length) := by omega
    have hdrop : (colsV gen ord).drop i = (fun r => en gen r c) :: (colsV gen ord).drop (i + 1) := by
      rw [List.drop_eq_getElem_cons (by simpa [colsV] using hlt)]
      congr 1
      have : ord[i] = c := by rw [getElem_D hlt, hc]
      simp [colsV, this]
    simp [l171_10, r171_0, r171_1, r171_2, r171_3, r171_4, r171_5, r171_6, r171_7, r171_8, r171_9, r171_11, c171, e0, e2, e7, e8, e17, e18, e19, hlt, a1, a2, holen, hnl, -Int.natCast_add]
    refine WR_bnd (column_wv (t := t) (Pre.at hpre hP) (hr.pre hpre) hM.len (by omega) (by omega) ?_)
    have hcolE : ∀ j, f.F.E ((colL gen c).getD j 0) := fun j => by
      have := congrFun (colL_lv gen c) j
      simp only [lv] at this
      rw [this]; exact hM.el j c
    have hav : ∀ y, ¬ Off outv y → y < m'.length := by
      intro y hy
      obtain ⟨o, n, c, z, ex, rfl⟩ := notOff hy
      rcases hout with ⟨h, _⟩ | ⟨b, ex, h, _, h3⟩
      · cases h
      · injection h with h; subst h; exact At.lt h3
    refine WR_bnd (basisAdd_wv hg hpre hBA (by simp [colL]) hcolE (by omega) (by omega) (fun hz m2 hp2 hBA2 hkeep => ?_) fun k2 hk2 row m2 rv2 pv2 b2 x2 hrow hp2 hBA2 hkeep haw => ?_)
    · simp [e19, w1, -Int.natCast_add]
      rw [colL_lv] at hz
      refine ⟨ord.length - (i + 1), by omega, ⟨i + 1, bs, rv, pv, b, x, outv, out, by simp [e0], by simp [e2], by simp [e7], by simp [e8], by simp [e17], by simp [e18], by simp [-Int.natCast_add], by omega, rfl, hp2, hBA2, by omega, hout.keep fun y k hy hm => hkeep y k hm, hoa, by omega, .inr ⟨by omega, ?_⟩⟩⟩
      rcases hst with ⟨h1, h2⟩ | ⟨h1, h2⟩
      · rw [h2, hdrop]; exact not_GrAll hz
      · exact h2
    · rw [colL_lv] at hk2 hrow
      have hout2 : FreshA m m2 outv out := hout.keep fun y k hy hm => hkeep y k (hoa y hy).1 (hoa y hy).2.1 (hoa y hy).2.2.1 hm
      obtain ⟨v', m3, d1, d2, d3, d4, d5, d6⟩ := append22 (x := (c : Int)) hout2 hp2 (by omega)
      simp [e8, e19, w1, lit22, d1, -Int.natCast_add]
      have hoa2 : ∀ y, ¬ Off outv y → Aw m.length rv2 pv2 b2 (bs.length + 1) y := fun y hy => haw y (hav y hy) (hoa y hy)
      have hlen2 : (bs ++ [(row, k2)]).length = bs.length + 1 := by simp
      have hBA3 : BA f g m m.length gen.length (bs ++ [(row, k2)]) rv2 pv2 b2 x2 m3 := hBA2.keep fun y k hy hm => d5 y k (Classical.byContradiction fun hn => hy (by rw [hlen2]; exact hoa2 y hn)) hm
      refine ⟨ord.length - (i + 1), by omega, ⟨i + 1, bs ++ [(row, k2)], rv2, pv2, b2, x2, v', out ++ [(c : Int)], by simp [e0], by simp [e2], by simp [e7], by simp, by simp [e17], by simp [e18], by simp [-Int.natCast_add], by omega, rfl, d3, hBA3, by simp; omega, d2, fun y hy => ?_, by simp; omega, ?_⟩⟩
      · rw [hlen2]
        -- a block of the basis is not the new list's
        refine ⟨?_, ?_, ?_, fun j hj => ?_⟩
        · rintro rfl
          exact hy (d6 _ (At.lt hBA2.at_) (Classical.byContradiction fun hn => (hoa2 _ hn).1 rfl))
        · refine Classical.byContradiction fun hn => hy (d6 y ?_ (Classical.byContradiction fun hn2 => hn (hoa2 y hn2).2.1))
          obtain ⟨o, n, c, z, ex, rfl⟩ := notOff hn
          rcases hBA2.rvF with ⟨h, _⟩ | ⟨b, ex, h, _, h3⟩
          · cases h
          · injection h with h; subst h; exact At.lt h3
        · refine Classical.byContradiction fun hn => hy (d6 y ?_ (Classical.byContradiction fun hn2 => hn (hoa2 y hn2).2.2.1))
          obtain ⟨o, n, c, z, ex, rfl⟩ := notOff hn
          rcases hBA2.pvF with ⟨h, _⟩ | ⟨b, ex, h, _, h3⟩
          · cases h
          · injection h with h; subst h; exact At.lt h3
        · rintro rfl
          exact hy (d6 _ (At.lt (hBA2.row j (by rw [hlen2]; exact hj)).2.2.1) (Classical.byContradiction fun hn => (hoa2 _ hn).2.2.2 j hj rfl))
      · rcases hst with ⟨h1, h2⟩ | ⟨h1, h2⟩
        · refine .inl ⟨by simp; omega, ?_⟩
          rw [h2, hdrop, GrAll_cons hk2, rV_snoc, hrow]
        · exact .inr ⟨by simp; omega, h2⟩
  · have hil : i = ord.length := by omega
    subst hil
    simp [l171_10, r171_0, r171_1, r171_2, r171_3, r171_4, r171_5, r171_6, r171_7, r171_8, r171_9, r171_11, c171, e8, e18, e19]
    refine hQ outv out m' hpre hout.ints ?_
    have hdz : (colsV gen ord).drop ord.length = [] := List.drop_eq_nil_of_le (by simp [colsV])
    rcases hst with ⟨h1, h2⟩ | ⟨h1, h2⟩
    · rw [hdz] at h2
      exact ⟨fun _ => h2.2 (.nil _), fun _ => h1⟩
    · exact ⟨fun h => by omega, fun h => (h2 h).elim⟩
def Rt (F : Ff) (gen : List (List Int)) (N : Int) (M : Int) (s set : List Int) : Prop :=
  (∀ k, k < set.length → 0 ≤ set.getD k 0 ∧ set.getD k 0 < N ∧ (0 < k → set.getD (k - 1) 0 < set.getD k 0) ∧ set.getD k 0 ∉ s) ∧ F.GrAll gen.length (fun v => v) (colsV gen set) ∧ (set.length : Int) = M
theorem rising_le {set : List Int} {N : Int} {i : Nat} (hi : i ≤ set.length) (h : ∀ k, k < i → 0 ≤ set.getD k 0 ∧ set.getD k 0 < N ∧ (0 < k → set.getD (k - 1) 0 < set.getD k 0)) : 0 < i → (i : Int) ≤ N := by
  have : ∀ k, k < i → (k : Int) ≤ set.getD k 0 := by
    intro k
    induction k with
    | zero => intro hk; have := (h 0 hk).1; simpa using this
    | succ k ih =>
      intro hk
      have h1 := ih (by omega)
      have h2 := (h (k + 1) hk).2.2 (by omega)
      rw [Nat.add_sub_cancel] at h2
      omega
  intro h0
  have h1 := this (i - 1) (by omega)
  have h2 := (h (i - 1) (by omega)).2.1
  omega
structure RgI (s set : List Int) (N : Int) (sv stv : V) (pb : Nat) (m : Mem) (k : Nat) (e : Env) (m' : Mem) : Prop where
  d : ∃ i : Nat, e 0 = .ptr pb 0 ∧ e 1 = sv ∧ e 2 = stv ∧ e 9 = stv ∧ e 10 = I set.length ∧ e 11 = I i ∧ i ≤ set.length ∧ set.length - i = k ∧ ∀ k, k < i → 0 ≤ set.getD k 0 ∧ set.getD k 0 < N ∧ (0 < k → set.getD (k - 1) 0 < set.getD k 0) ∧ set.getD k 0 ∉ s
  m : m' = m
theorem right_wv {f : Fd} {g vm gv setsv sv stv : V} {p n M w at_ : Int} {pb t : Nat} {gen : List (List Int)} {s set : List Int} {m : Mem} {Q : V → Mem → Prop} (hg : GFAt m g f) (hP : At m pb (pcells g p n vm (t : Int) gv M w setsv at_) 2) (hr : Rows m gv gen) (hM : f.F.Mat gen t) (hgl : gen.length ≤ 256) (ht : t ≤ 64) (hs : Ints m sv s) (hsl : s.length ≤ 1000) (hst : Ints m stv set) (hsl2 : set.length ≤ 17592186044416)
    (hQ : ∀ b m', Pre m m' → (b = true ↔ Rt f.F gen t M s set) → Q (.bool b) m') : WV (DD 150 [.ptr pb 0, sv, stv] m) Q := by
  rw [e150]
  refine WV_fin ?_
  simp [r150_0, r150_1, r150_2, r150_3, r150_4, r150_5, r150_6, r150_8, r150_9, r150_10, r150_11, r150_12, c150, hst.len]
  refine W_loop (RgI s set t sv stv pb m) ?_ set.length _ _ ⟨⟨0, by simp, by simp, by simp, by simp, by simp, by simp, by omega, by omega, fun k hk => by omega⟩, rfl⟩
  rintro k e m' ⟨⟨i, e0, e1, e2, e9, e10, e11, hi, hk, hall⟩, rfl⟩
  have l4 : lc m' pb 4 = some (I t) := by rw [lc_at hP (by omega)]; rfl
  by_cases hlt : i < set.length
  · obtain ⟨b1, o1, a1, a2⟩ := hst.at (ix := i) (by omega) (by omega)
    rw [Int.toNat_natCast] at a2
    have w1 : IntKind.i64.wrap ((i : Int) + 1) = (i + 1 : Nat) := by rw [wrap64_in (by omega) (by omega)]; omega
    have wm : IntKind.i64.wrap ((i : Int) - 1) = i - 1 := wrap64_in (by omega) (by omega)
    have hno : (∃ k, k < set.length ∧ ¬ (0 ≤ set.getD k 0 ∧ set.getD k 0 < (t : Int) ∧ (0 < k → set.getD (k - 1) 0 < set.getD k 0) ∧ set.getD k 0 ∉ s)) → Q (.bool false) m' := by
      rintro ⟨k, hk1, hk2⟩
      exact hQ false m' (List.prefix_refl _) (by simp; exact fun h => hk2 (h.1 k hk1))
    generalize hv : set.getD i 0 = v at *
    by_cases h1 : v < 0
    · simp [l150_7, r150_0, r150_1, r150_2, r150_3, r150_4, r150_5, r150_6, r150_8, r150_9, r150_10, r150_11, r150_12, c150, e0, e1, e2, e9, e10, e11, hlt, a1, a2, h1]
      exact hno ⟨i, hlt, fun h => by omega⟩
    by_cases h2 : (t : Int) ≤ v
    · simp [l150_7, r150_0, r150_1, r150_2, r150_3, r150_4, r150_5, r150_6, r150_8, r150_9, r150_10, r150_11, r150_12, c150, e0, e1, e2, e9, e10, e11, hlt, a1, a2, h1, l4, h2]
      exact hno ⟨i, hlt, fun h => by omega⟩
    have hnext : v ∉ s → (0 < i → set.getD (i - 1) 0 < v) → ∀ e' : Env, e' 0 = .ptr pb 0 → e' 1 = sv → e' 2 = stv → e' 9 = stv → e' 10 = I set.length → e' 11 = I (i + 1 : Nat) → ∃ k', k' < k ∧ RgI s set t sv stv pb m' k' e' m' := by
      intro hns hlt2 e' f0 f1 f2 f9 f10 f11
      refine ⟨set.length - (i + 1), by omega, ⟨i + 1, f0, f1, f2, f9, f10, f11, by omega, rfl, fun k hk => ?_⟩, rfl⟩
      by_cases e : k = i
      · subst e; rw [hv]; exact ⟨by omega, by omega, hlt2, hns⟩
      · exact hall k (by omega)
    by_cases h0 : i = 0
    · subst h0
      have a1' : opIndexAddr T 22 stv (I 0) = some (.ptr b1 o1) := a1
      simp [l150_7, r150_0, r150_1, r150_2, r150_3, r150_4, r150_5, r150_6, r150_8, r150_9, r150_10, r150_11, r150_12, c150, e0, e1, e2, e9, e10, e11, hlt, a1', a2, h1, l4, h2]
      refine WR_bnd (contains_wv hs (by omega) fun q hq => ?_)
      cases q with
      | true =>
        simp
        exact hno ⟨0, hlt, fun h => h.2.2.2 (by rw [hv]; exact hq.1 rfl)⟩
      | false =>
        simp [e11, w1, -Int.natCast_add]
        refine hnext (fun h => by have := hq.2 h; cases this) (fun h => by omega) _ ?_ ?_ ?_ ?_ ?_ ?_
        · simp [e0]
        · simp [e1]
        · simp [e2]
        · simp [e9]
        · simp [e10]
        · simp
          have : IntKind.i64.wrap 1 = 1 := wrap64_in (by omega) (by omega)
          simp [this]
    · have h0' : 0 < i := by omega
      obtain ⟨b2, o2, a3, a4⟩ := hst.at (ix := (i : Int) - 1) (by omega) (by omega)
      rw [show ((i : Int) - 1).toNat = i - 1 by omega] at a4
      by_cases h3 : v ≤ set.getD (i - 1) 0
      · simp [l150_7, r150_0, r150_1, r150_2, r150_3, r150_4, r150_5, r150_6, r150_8, r150_9, r150_10, r150_11, r150_12, c150, e0, e1, e2, e9, e10, e11, hlt, a1, a2, h1, l4, h2, h0', wm, a3, a4, h3, -List.getD_eq_getElem?_getD]
        exact hno ⟨i, hlt, fun h => by have := h.2.2.1 h0'; omega⟩
      · simp [l150_7, r150_0, r150_1, r150_2, r150_3, r150_4, r150_5, r150_6, r150_8, r150_9, r150_10, r150_11, r150_12, c150, e0, e1, e2, e9, e10, e11, hlt, a1, a2, h1, l4, h2, h0', wm, a3, a4, h3, -List.getD_eq_getElem?_getD]
        refine WR_bnd (contains_wv hs (by omega) fun q hq => ?_)
        cases q with
        | true =>
          simp
          exact hno ⟨i, hlt, fun h => h.2.2.2 (by rw [hv]; exact hq.1 rfl)⟩
        | false =>
          simp [e11, w1, -Int.natCast_add]
          refine hnext (fun h => by have := hq.2 h; cases this) (fun h => by omega) _ ?_ ?_ ?_ ?_ ?_ ?_
          · simp [e0]
          · simp [e1]
          · simp [e2]
          · simp [e9]
          · simp [e10]
          · simp [-Int.natCast_add]
  · have hil : i = set.length := by omega
    subst hil
    simp [l150_7, r150_0, r150_1, r150_2, r150_3, r150_4, r150_5, r150_6, r150_8, r150_9, r150_10, r150_11, r150_12, c150, e0, e1, e2, e9, e10, e11, hst.len]
    have hle : set.length ≤ 64 := by
      by_cases h0 : 0 < set.length
      · have := rising_le (N := t) (Nat.le_refl set.length) (fun k hk => ⟨(hall k hk).1, (hall k hk).2.1, (hall k hk).2.2.1⟩) h0
        omega
      · omega
    refine WR_bnd (greedy_wv hg hP hr hM hgl hst (by omega) (fun j hj => ⟨(hall j hj).1, (hall j hj).2.1⟩) fun v out m2 hp2 hi2 hiff => ?_)
    have hol := hi2.len
    have hP2 := Pre.at hp2 hP
    have l7 : lc m2 pb 7 = some (.bool false) := by rw [lc_at hP2 (by omega)]; rfl
    have l8 : lc m2 pb 8 = some (I M) := by rw [lc_at hP2 (by omega)]; rfl
    have hsl3 := (hst.pre hp2).len
    by_cases hG : f.F.GrAll gen.length (fun v => v) (colsV gen set)
    · have hol2 := hiff.2 hG
      rw [hol2] at hol
      simp [e0, e2, hol, hsl3, l7, l8]
      refine hQ _ m2 hp2 ?_
      simp [Rt, hG]
      exact fun _ k hk => by simpa using hall k hk
    · have hol2 : ¬ ((out.length : Int) = set.length) := fun h => hG (hiff.1 (by omega))
      simp [e0, e2, hol, hsl3, hol2]
      exact hQ false m2 hp2 (by simp [Rt, hG])
end Go.Proofs.YtefjnnghfloddaaGreat.Abs

/- Specifications: a tree is followed by the program. -/
namespace Go.Proofs.YtefjnnghfloddaaGreat.Abs
set_option linter.unusedVariables false
set_option linter.unusedSimpArgs false
set_option linter.unusedSectionVars false
open Ff
def kidsL (w : Nat) (s z set : List Int) : List Int := if s.length < w then set.filter fun i => decide (i ∉ z) else []
def loopK (g : List Int → List Int → List (List Int) → Option (List (List Int))) (s z : List Int) : List Int → List (List Int) → Option (List (List Int))
  | [], rest => some rest
  | k :: ks, rest => match g (s ++ [k]) z rest with
    | none => none
    | some rest' => loopK g s (z ++ [k]) ks rest'
def loopP (g : List Int → List Int → List (List Int) → Option (List (List Int))) (s z : List Int) : List Int → List (List Int) → Option (List (List Int))
  | [], rest => some rest
  | i :: is, rest => if i ∈ z then loopP g s z is rest else match g (s ++ [i]) z rest with
    | none => none
    | some rest' => loopP g s (z ++ [i]) is rest'
open Classical in
noncomputable def foll (F : Ff) (gen : List (List Int)) (N M : Int) (w : Nat) : Nat → List Int → List Int → List (List Int) → Option (List (List Int))
  | 0, _, _, _ => none
  | f + 1, s, z, [] => none
  | f + 1, s, z, set :: rest => if Rt F gen N M s set then loopK (foll F gen N M w f) s z (kidsL w s z set) rest else none
theorem loopP_eq (g : List Int → List Int → List (List Int) → Option (List (List Int))) (s : List Int) : ∀ (set z : List Int) (rest : List (List Int)), set.Nodup → loopP g s z set rest = loopK g s z (set.filter fun i => decide (i ∉ z)) rest
  | [], z, rest, _ => rfl
  | i :: is, z, rest, hn => by
    have hn' := List.nodup_cons.1 hn
    rw [loopP]
    by_cases hi : i ∈ z
    · rw [if_pos hi, loopP_eq g s is z rest hn'.2, List.filter_cons_of_neg (by simpa using hi)]
    · rw [if_neg hi, List.filter_cons_of_pos (by simpa using hi), loopK]
      cases g (s ++ [i]) z rest with
      | none => rfl
      | some r =>
        simp only
        rw [loopP_eq g s is (z ++ [i]) r hn'.2]
        congr 1
        apply List.filter_congr
        intro j hj
        have : j ≠ i := fun e => hn'.1 (e ▸ hj)
        simp [this]
theorem rising_nodup : ∀ (set : List Int), (∀ k, k < set.length → 0 < k → set.getD (k - 1) 0 < set.getD k 0) → set.Nodup := by
  intro set h
  have hlt : ∀ j k, j < k → k < set.length → set.getD j 0 < set.getD k 0 := by
    intro j k hjk
    induction k with
    | zero => omega
    | succ k ih =>
      intro hk
      have h1 := h (k + 1) hk (by omega)
      rw [Nat.add_sub_cancel] at h1
      by_cases e : j = k
      · subst e; exact h1
      · exact Int.lt_trans (ih (by omega) (by omega)) h1
  show List.Pairwise _ set
  rw [List.pairwise_iff_getElem]
  intro j k hj hk hjk he
  have h1 := hlt j k hjk hk
  rw [← getElem_D hj, ← getElem_D hk, he] at h1
  omega
theorem Rt.nodup {F : Ff} {gen : List (List Int)} {N M : Int} {s set : List Int} (h : Rt F gen N M s set) : set.Nodup := rising_nodup set fun k hk h0 => (h.1 k hk).2.2.1 h0
theorem Rt.len {F : Ff} {gen : List (List Int)} {N M : Int} {s set : List Int} (h : Rt F gen N M s set) (hN : 0 ≤ N) : (set.length : Int) ≤ N := by
  by_cases h0 : 0 < set.length
  · exact rising_le (Nat.le_refl _) (fun k hk => ⟨(h.1 k hk).1, (h.1 k hk).2.1, (h.1 k hk).2.2.1⟩) h0
  · omega
def Up (n pb : Nat) (m m' : Mem) : Prop := m.length ≤ m'.length ∧ ∀ b k, b < n → b ≠ pb → m[b]? = some k → m'[b]? = some k
theorem Up.refl (n pb : Nat) (m : Mem) : Up n pb m m := ⟨Nat.le_refl _, fun _ _ _ _ h => h⟩
theorem Up.pre {n pb : Nat} {m m' : Mem} (h : Pre m m') : Up n pb m m' := ⟨h.len, fun b k _ _ hm => Pre.at h hm⟩
theorem Up.trans {n n' pb : Nat} {a b c : Mem} (h : Up n pb a b) (k : Up n' pb b c) (hn : n ≤ n') : Up n pb a c := ⟨Nat.le_trans h.1 k.1, fun x y h1 h2 h3 => k.2 x y (by omega) h2 (h.2 x y h1 h2 h3)⟩
theorem Up.mono {n n' pb : Nat} {a b : Mem} (h : Up n pb a b) (hn : n' ≤ n) : Up n' pb a b := ⟨h.1, fun x y h1 h2 h3 => h.2 x y (by omega) h2 h3⟩
theorem Ints.lt {m : Mem} {v : V} {l : List Int} (h : Ints m v l) {y : Nat} (hy : ¬ Off v y) : y < m.length := by
  obtain ⟨o, n, c, z, ex, rfl⟩ := notOff hy
  rcases h with ⟨h, _⟩ | ⟨h, _⟩ | ⟨b, o', c', ex', k, h, hb, _⟩
  · cases h
  · cases h
  · injection h with h
    subst h
    rcases Nat.lt_or_ge y m.length with h1 | h1
    · exact h1
    · rw [List.getElem?_eq_none h1] at hb; cases hb
theorem Ints.keepB {m m' : Mem} {v : V} {l : List Int} (h : Ints m v l) (hk : ∀ y k, ¬ Off v y → m[y]? = some k → m'[y]? = some k) : Ints m' v l := by
  rcases h with h | h | ⟨b, o, c, ex, k, rfl, hb, h3, h4, h5⟩
  · exact .inl h
  · exact .inr (.inl h)
  · exact .inr (.inr ⟨b, o, c, ex, k, rfl, hk _ _ (fun ho => ho _ _ _ _ _ rfl) hb, h3, h4, h5⟩)
theorem Ints.up {n pb : Nat} {m m' : Mem} {v : V} {l : List Int} (h : Ints m v l) (hu : Up n pb m m') (hn : m.length ≤ n) (ho : Off v pb) : Ints m' v l :=
  h.keepB fun y k hy hm => hu.2 y k (by have := h.lt hy; omega) (fun e => hy (e ▸ ho)) hm
theorem FreshV.base {m0 m0' m : Mem} {v : V} {cs : List V} (h : FreshV m0 m v cs) (hl : m0'.length ≤ m0.length) : FreshV m0' m v cs := by
  rcases h with h | ⟨b, ex, h1, h2, h3⟩
  · exact .inl h
  · exact .inr ⟨b, ex, h1, by omega, h3⟩
theorem clone2_wv {v : V} {l : List Int} {m : Mem} {Q : V → Mem → Prop} (hv : Ints m v l) (hl : l.length ≤ 1000000) (hQ : ∀ v' m', Pre m m' → FreshA m m' v' l → Q v' m') : WV (DD 162 [v] m) Q := by
  rw [e162]
  refine WV_fin ?_
  by_cases hvn : v = .nils
  · subst hvn
    have hl0 : l = [] := by
      have := hv.vlen
      simp [V.len] at this
      exact List.length_eq_zero_iff.1 this.symm
    simp [r162_0, r162_1, r162_2, r162_3, c162]
    exact hQ .nils m (List.prefix_refl _) (.inl ⟨rfl, by rw [hl0]; rfl⟩)
  · obtain ⟨v', m', a1, a2, a3, a4, a5⟩ := append_lit hv (by omega)
    simp [r162_0, r162_1, r162_2, r162_3, c162, eq_nil22 hv hvn, a1]
    exact hQ v' m' a3 a2
theorem append22b {n : Nat} {m : Mem} {s : V} {l : List Int} {x : Int} (hs : FreshA (m.take n) m s l) (hn : n ≤ m.length) (hl : l.length < 1000000000) :
    ∃ v' m', opAppend T 22 22 s (.sl m.length 0 1 1 1 true) (m ++ [⟨[I x], 2⟩]) = some (v', m') ∧ FreshA (m'.take n) m' v' (l ++ [x]) ∧ m.length ≤ m'.length ∧ (∀ b k, b < n → m[b]? = some k → m'[b]? = some k) ∧ m.take n <+: m' := by
  obtain ⟨v', m', a1, a2, a3, a4, a5, a6⟩ := append22 (x := x) hs (List.take_prefix _ _) hl
  refine ⟨v', m', a1, a2.base (by simp; omega), a4, fun b k hb hm => a5 b k ?_ hm, a3⟩
  rcases hs with ⟨rfl, _⟩ | ⟨b', ex, rfl, h2, _⟩
  · exact Off.nils b
  · simp at h2
    exact Off.sl (by omega)
structure CX where
  f : Fd
  g : V
  vm : V
  gv : V
  setsv : V
  p : Int
  n : Int
  t : Nat
  gen : List (List Int)
  M : Int
  w : Nat
  sets : List (List Int)
  pb : Nat
  m0 : Mem
structure CX.Ok (c : CX) : Prop where
  hg : GFAt c.m0 c.g c.f
  hr : Rows c.m0 c.gv c.gen
  hs : Rows c.m0 c.setsv c.sets
  hM : c.f.F.Mat c.gen c.t
  gl : c.gen.length ≤ 256
  ht : c.t ≤ 64
  hw : c.w ≤ 64
  pb0 : c.m0.length ≤ c.pb
  sl : c.sets.length ≤ 1000000
  ssl : ∀ i, i < c.sets.length → (rw_ c.sets i).length ≤ 17592186044416
structure CX.PA (c : CX) (m : Mem) (k : Nat) : Prop where
  pre : Pre c.m0 m
  at_ : At m c.pb (pcells c.g c.p c.n c.vm c.t c.gv c.M c.w c.setsv k) 2
theorem CX.PA.up {c : CX} {m m' : Mem} {k : Nat} (h : c.PA m k) (hp : Pre m m') : c.PA m' k := ⟨h.pre.trans hp, Pre.at hp h.at_⟩
noncomputable def CX.fo (c : CX) : Nat → List Int → List Int → List (List Int) → Option (List (List Int)) := foll c.f.F c.gen c.t c.M c.w
def CX.Ck (c : CX) (f : Nat) : Prop := ∀ (k : Nat) (s z : List Int) (sv zv : V) (m : Mem) (Q : V → Mem → Prop), c.PA m k → Ints m sv s → Ints m zv z → Off sv c.pb → Off zv c.pb → s.length ≤ c.w → z.length ≤ 64 * s.length → c.sets.length - k < f → k ≤ c.sets.length →
  (∀ m', Pre c.m0 m' → c.fo f s z (c.sets.drop k) = none → Q (I 13) m') → (∀ k' m', c.PA m' k' → k < k' → k' ≤ c.sets.length → Up m.length c.pb m m' → c.fo f s z (c.sets.drop k) = some (c.sets.drop k') → Q (I 0) m') → WV (DD 129 [.ptr c.pb 0, sv, zv] m) Q
structure ChI (c : CX) (f : Nat) (s set : List Int) (sv stv : V) (m : Mem) (R : Option (List (List Int))) (k0 : Nat) (k : Nat) (e : Env) (m' : Mem) : Prop where
  d : ∃ (i kk : Nat) (z : List Int) (zv : V), e 0 = .ptr c.pb 0 ∧ e 1 = sv ∧ e 2 = zv ∧ e 4 = .fn 129 [.ptr c.pb 0] [] ∧ e 23 = stv ∧ e 24 = I set.length ∧ e 25 = I i ∧ i ≤ set.length ∧ set.length - i = k ∧ c.PA m' kk ∧ Up m.length c.pb m m' ∧ FreshA (m'.take m.length) m' zv z ∧ z.length ≤ 64 * s.length + i ∧ k0 ≤ kk ∧ kk ≤ c.sets.length ∧ c.sets.length - kk < f ∧ loopP (c.fo f) s z (set.drop i) (c.sets.drop kk) = R
theorem children_wv {c : CX} (hc : c.Ok) {f k : Nat} (hf : c.Ck f) {s z set : List Int} {sv zv stv : V} {m : Mem} {Q : V → Mem → Prop} (hP : c.PA m k) (hs : Ints m sv s) (hz : Ints m zv z) (hst : Ints c.m0 stv set) (os : Off sv c.pb) (oz : Off zv c.pb) (hsl : s.length ≤ c.w) (hzl : z.length ≤ 64 * s.length) (hset : set.length ≤ 64) (hnd : set.Nodup) (hk : k ≤ c.sets.length) (hkf : c.sets.length - k < f)
    (h1 : ∀ m', Pre c.m0 m' → loopK (c.fo f) s z (kidsL c.w s z set) (c.sets.drop k) = none → Q (I 13) m') (h2 : ∀ k' m', c.PA m' k' → k ≤ k' → k' ≤ c.sets.length → Up m.length c.pb m m' → loopK (c.fo f) s z (kidsL c.w s z set) (c.sets.drop k) = some (c.sets.drop k') → Q (I 0) m') :
    WV (DD 151 [.ptr c.pb 0, sv, zv, stv, .fn 129 [.ptr c.pb 0] []] m) Q := by
  have hw := hc.hw
  have hpbl := At.lt hP.at_
  rw [e151]
  refine WV_fin ?_
  have l9 : lc m c.pb 9 = some (I c.w) := by rw [lc_at hP.at_ (by omega)]; rfl
  by_cases hsw : s.length = c.w
  · have hkids : kidsL c.w s z set = [] := by rw [kidsL, if_neg (by omega)]
    rw [hkids] at h1 h2
    simp [r151_0, r151_1, r151_2, r151_3, r151_4, r151_5, r151_6, r151_7, r151_8, r151_9, r151_10, r151_11, r151_12, r151_14, c151, hs.len, l9, hsw]
    exact h2 k m hP (Nat.le_refl _) hk (Up.refl _ _ _) rfl
  have hkids : kidsL c.w s z set = set.filter fun i => decide (i ∉ z) := by rw [kidsL, if_pos (by omega)]
  rw [hkids, ← loopP_eq _ _ _ _ _ hnd] at h1 h2
  have hslen := hs.len
  have hsw' : ¬ ((s.length : Int) = c.w) := by omega
  simp [r151_0, r151_1, r151_2, r151_3, r151_4, r151_5, r151_6, r151_7, r151_8, r151_9, r151_10, r151_11, r151_12, r151_14, c151, hslen, l9, hsw']
  refine WR_bnd (clone2_wv hz (by omega) fun zv1 m1 hp1 hz1 => ?_)
  have hstl := (hst.pre (hP.up hp1).pre).len
  simp [hstl]
  refine W_loop (ChI c f s set sv stv m (loopP (c.fo f) s z set (c.sets.drop k)) k) ?_ set.length _ _ ⟨⟨0, k, z, zv1, by simp, by simp, by simp, by simp, by simp, by simp, by simp, by omega, by omega, hP.up hp1, Up.pre hp1, hz1.base (by simp; omega), by omega, Nat.le_refl _, hk, hkf, rfl⟩⟩
  clear hP hz1 hp1 l9 hstl hslen hk hkf
  rintro kq e m' ⟨⟨i, kk, zl, zv2, e0, e1, e2, e4, e23, e24, e25, hi, hkq, hP, hup, hz2, hzl2, hk0, hkk, hkkf, hR⟩⟩
  have w1 : IntKind.i64.wrap ((i : Int) + 1) = (i + 1 : Nat) := by rw [wrap64_in (by omega) (by omega)]; omega
  by_cases hlt : i < set.length
  · obtain ⟨b1, o1, a1, a2⟩ := (hst.pre hP.pre).at (ix := i) (by omega) (by omega)
    rw [Int.toNat_natCast] at a2
    have hdrop : set.drop i = set.getD i 0 :: set.drop (i + 1) := by
      rw [List.drop_eq_getElem_cons hlt, getElem_D hlt]
    generalize hv : set.getD i 0 = v at *
    rw [hdrop, loopP] at hR
    simp [l151_13, r151_0, r151_1, r151_2, r151_3, r151_4, r151_5, r151_6, r151_7, r151_8, r151_9, r151_10, r151_11, r151_12, r151_14, c151, e0, e1, e2, e4, e23, e24, e25, hlt, a1, a2]
    refine WR_bnd (contains_wv hz2.ints (by omega) fun q hq => ?_)
    cases q with
    | true =>
      rw [if_pos (hq.1 rfl)] at hR
      simp [e25, w1, -Int.natCast_add]
      exact ⟨set.length - (i + 1), by omega, ⟨i + 1, kk, zl, zv2, by simp [e0], by simp [e1], by simp [e2], by simp [e4], by simp [e23], by simp [e24], by simp [-Int.natCast_add], by omega, rfl, hP, hup, hz2, by omega, hk0, hkk, hkkf, hR⟩⟩
    | false =>
      have hnz : v ∉ zl := fun h => by have := hq.2 h; cases this
      rw [if_neg hnz] at hR
      have hsI := hs.up hup (Nat.le_refl _) os
      have hml := hup.1
      simp [e0, e1, e2, e4, e25, -Int.natCast_add]
      refine WR_bnd (clone2_wv hsI (by omega) fun sv2 m2 hp2 hs2 => ?_)
      obtain ⟨sv3, m3, c1, c2, c3, c4, c5, c6⟩ := append22 (x := v) hs2 hp2 (by omega)
      simp [lit22, c1, -Int.natCast_add]
      have hz3 : Ints m3 zv2 zl := hz2.ints.keepB fun y k hy hm => Pre.at c3 hm
      refine WR_bnd (clone2_wv hz3 (by omega) fun zv4 m4 hp4 hz4 => ?_)
      have hP4 := hP.up (c3.trans hp4)
      have hpb' := At.lt hP.at_
      have os4 : Off sv3 c.pb := by
        rcases c2 with ⟨rfl, _⟩ | ⟨b, ex, rfl, h2, _⟩
        · exact Off.nils _
        · exact Off.sl (by omega)
      have oz4 : Off zv4 c.pb := by
        rcases hz4 with ⟨rfl, _⟩ | ⟨b, ex, rfl, h2, _⟩
        · exact Off.nils _
        · have := c3.len
          exact Off.sl (by omega)
      have hlen4 : m'.length ≤ m4.length := Pre.len (c3.trans hp4)
      refine WR_bnd (hf kk (s ++ [v]) zl sv3 zv4 m4 _ hP4 (c2.ints.pre hp4) hz4.ints os4 oz4 (by simp; omega) (by simp; omega) (by omega) hkk (fun m5 hp5 hnone => ?_) fun k5 m5 hP5 hlt5 hle5 hup5 hsome => ?_)
      · rw [hnone] at hR
        simp [-Int.natCast_add]
        exact h1 m5 hp5 hR.symm
      · rw [hsome] at hR
        simp [e2, -Int.natCast_add]
        have hup45 : Up m4.length c.pb m' m5 := (Up.pre (n := m4.length) (c3.trans hp4)).trans hup5 (Nat.le_refl _)
        have hup15 : Up m.length c.pb m m5 := hup.trans (hup45.mono (by omega) : Up m.length c.pb m' m5) (Nat.le_refl _)
        have hz5 : FreshA (m5.take m.length) m5 zv2 zl := by
          have hml5 := hup15.1
          refine (hz2.keep fun y k hy hm => ?_ : FreshA (m'.take m.length) m5 zv2 zl).base (by simp; omega)
          have hylt := hz2.ints.lt hy
          refine hup45.2 y k (by omega) ?_ hm
          obtain ⟨o, n, c', zz, ex, rfl⟩ := notOff hy
          rintro rfl
          rcases hz2 with ⟨h, _⟩ | ⟨b, ex', h, h2, _⟩
          · cases h
          · injection h with h
            simp at h2
            omega
        obtain ⟨zv6, m6, d1, d2, d3, d4, d5⟩ := append22b (x := v) hz5 hup15.1 (by omega)
        simp [lit22, d1, e25, w1, -Int.natCast_add]
        have hP6 : c.PA m6 k5 := ⟨by
          have h7 : c.m0 <+: m5.take m.length := by
            have := hP5.pre
            have h8 := hc.pb0
            exact List.prefix_take_iff.2 ⟨this, by omega⟩
          exact h7.trans d5, d4 _ _ hpbl hP5.at_⟩
        exact ⟨set.length - (i + 1), by omega, ⟨i + 1, k5, zl ++ [v], zv6, by simp [e0], by simp [e1], by simp, by simp [e4], by simp [e23], by simp [e24], by simp [-Int.natCast_add], by omega, rfl, hP6, ⟨Nat.le_trans hup15.1 d3, fun b kb hb hbp hm => d4 b kb hb (hup15.2 b kb hb hbp hm)⟩, d2, by simp; omega, by omega, hle5, by omega, hR⟩⟩
  · have hil : i = set.length := by omega
    subst hil
    rw [List.drop_eq_nil_of_le (Nat.le_refl _), loopP] at hR
    simp [l151_13, r151_0, r151_1, r151_2, r151_3, r151_4, r151_5, r151_6, r151_7, r151_8, r151_9, r151_10, r151_11, r151_12, r151_14, c151, e24, e25]
    exact h2 kk m' hP hk0 hkk hup hR.symm
theorem check_Ck {c : CX} (hc : c.Ok) : ∀ f, c.Ck f
  | 0 => fun k s z sv zv m Q _ _ _ _ _ _ _ hf => by omega
  | f + 1 => fun k s z sv zv m Q hP hs hz os oz hsl hzl hf hk h1 h2 => by
    have hsl1 := hc.sl
    have hw := hc.hw
    have ht := hc.ht
    rw [e129]
    refine WV_fin ?_
    have l11 : lc m c.pb 11 = some (I k) := by rw [lc_at hP.at_ (by omega)]; rfl
    have l10 : lc m c.pb 10 = some c.setsv := by rw [lc_at hP.at_ (by omega)]; rfl
    have hlen := (hc.hs.pre hP.pre).len
    by_cases hke : k = c.sets.length
    · simp [r129_0, r129_1, r129_2, r129_3, r129_4, c129, l11, l10, hlen, hke]
      refine h1 m hP.pre ?_
      rw [hke, List.drop_eq_nil_of_le (Nat.le_refl _)]; rfl
    · have hklt : k < c.sets.length := by omega
      have hke' : ¬ ((k : Int) = c.sets.length) := by omega
      obtain ⟨b1, o1, u, a1, a2, a3⟩ := (hc.hs.pre hP.pre).at (ix := k) (by omega) (by omega)
      rw [Int.toNat_natCast] at a3
      have hset : c.sets.getD k [] = rw_ c.sets k := rfl
      rw [hset] at a3
      have hdrop : c.sets.drop k = rw_ c.sets k :: c.sets.drop (k + 1) := by
        rw [List.drop_eq_getElem_cons hklt]
        simp [rw_, hklt]
      have hfo1 : Rt c.f.F c.gen c.t c.M s (rw_ c.sets k) → c.fo (f + 1) s z (c.sets.drop k) = loopK (c.fo f) s z (kidsL c.w s z (rw_ c.sets k)) (c.sets.drop (k + 1)) := by
        intro h; rw [hdrop]; exact if_pos h
      have hfo2 : ¬ Rt c.f.F c.gen c.t c.M s (rw_ c.sets k) → c.fo (f + 1) s z (c.sets.drop k) = none := by
        intro h; rw [hdrop]; exact if_neg h
      simp [r129_0, r129_1, r129_2, r129_3, r129_4, c129, l11, l10, hlen, hke', a1, a2]
      refine WR_bnd (right_wv (hc.hg.pre hP.pre) hP.at_ (hc.hr.pre hP.pre) hc.hM hc.gl ht hs (by omega) a3 (hc.ssl k hklt) fun b m2 hp2 hb => ?_)
      have hP2 := hP.up hp2
      cases b with
      | false =>
        simp
        refine h1 m2 hP2.pre ?_
        exact hfo2 (fun h => by have := hb.2 h; cases this)
      | true =>
        have hRt := hb.1 rfl
        have hfo := hfo1 hRt
        have l11' : lc m2 c.pb 11 = some (I k) := by rw [lc_at hP2.at_ (by omega)]; rfl
        have w1 : IntKind.i64.wrap ((k : Int) + 1) = (k + 1 : Nat) := by rw [wrap64_in (by omega) (by omega)]; omega
        have wm : IntKind.i64.wrap (((k + 1 : Nat) : Int) - 1) = k := by rw [wrap64_in (by omega) (by omega)]; omega
        have hst := sc_at hP2.at_ (o := 11) (u := I (k + 1 : Nat)) rfl (by simp)
        have hce : (pcells c.g c.p c.n c.vm c.t c.gv c.M c.w c.setsv k).set 11 (I (k + 1 : Nat)) = pcells c.g c.p c.n c.vm c.t c.gv c.M c.w c.setsv (k + 1 : Nat) := rfl
        rw [hce] at hst
        have hP3 : c.PA (m2.set c.pb ⟨pcells c.g c.p c.n c.vm c.t c.gv c.M c.w c.setsv (k + 1 : Nat), 2⟩) (k + 1) := ⟨hP2.pre.set hc.pb0 _, At.set_self hP2.at_⟩
        have hup3 : Up m.length c.pb m (m2.set c.pb ⟨pcells c.g c.p c.n c.vm c.t c.gv c.M c.w c.setsv (k + 1 : Nat), 2⟩) := by
          refine ⟨by have := hp2.len; simp; omega, fun b kb hb hbp hm => ?_⟩
          rw [List.getElem?_set_ne (Ne.symm hbp)]
          exact Pre.at hp2 hm
        generalize hm3 : m2.set c.pb ⟨pcells c.g c.p c.n c.vm c.t c.gv c.M c.w c.setsv (k + 1 : Nat), 2⟩ = m3 at *
        have l11'' : lc m3 c.pb 11 = some (I (k + 1 : Nat)) := by rw [lc_at hP3.at_ (by omega)]; rfl
        have l10'' : lc m3 c.pb 10 = some c.setsv := by rw [lc_at hP3.at_ (by omega)]; rfl
        have a2' : lc m3 b1 o1 = some u := by
          obtain ⟨b2, o2, u2, g1, g2, g3⟩ := hc.hs.at (ix := k) (by omega) (by omega)
          have e13 := Option.some.inj (g1.symm.trans a1)
          injection e13 with q1 q2
          subst q1 q2
          have h3 := lc_up g2 (m3.drop c.m0.length)
          have h4 := lc_up g2 (m.drop c.m0.length)
          have hd3 : c.m0 ++ m3.drop c.m0.length = m3 := by
            obtain ⟨gg, h⟩ := hP3.pre
            rw [← h]; simp
          have hd4 : c.m0 ++ m.drop c.m0.length = m := by
            obtain ⟨gg, h⟩ := hP.pre
            rw [← h]; simp
          rw [hd3] at h3
          rw [hd4, a2] at h4
          rw [h3, Option.some.inj h4]
        have a3' : Ints c.m0 u (rw_ c.sets k) := by
          obtain ⟨b2, o2, u2, g1, g2, g3⟩ := hc.hs.at (ix := k) (by omega) (by omega)
          have e13 := Option.some.inj (g1.symm.trans a1)
          injection e13 with q1 q2
          subst q1 q2
          have h4 := lc_up g2 (m.drop c.m0.length)
          have hd4 : c.m0 ++ m.drop c.m0.length = m := by
            obtain ⟨gg, h⟩ := hP.pre
            rw [← h]; simp
          rw [hd4, a2] at h4
          rw [Option.some.inj h4]
          exact g3
        simp [l11', w1, hst, l11'', l10'', wm, a1, a2', -Int.natCast_add]
        refine WR_bnd (children_wv hc (check_Ck hc f) hP3 (hs.up hup3 (Nat.le_refl _) os) (hz.up hup3 (Nat.le_refl _) oz) a3' os oz hsl hzl (by have := hRt.len (by omega); omega) hRt.nodup (by omega) (by omega) (fun m5 hp5 hnone => ?_) fun k5 m5 hP5 hle hle5 hup5 hsome => ?_)
        · simp
          exact h1 m5 hp5 (hfo.trans hnone)
        · simp
          exact h2 k5 m5 hP5 (by omega) hle5 (hup3.trans (hup5.mono (by have := hup3.1; omega) : Up m.length c.pb m3 m5) (Nat.le_refl _)) (hfo.trans hsome)
end Go.Proofs.YtefjnnghfloddaaGreat.Abs

/- Specifications: a proof of a distance is checked by the program. -/
namespace Go.Proofs.YtefjnnghfloddaaGreat.Abs
set_option linter.unusedVariables false
set_option linter.unusedSimpArgs false
set_option linter.unusedSectionVars false
open Ff
noncomputable def treeE (F : Ff) (gen : List (List Int)) (N M : Int) (w : Nat) (sets : List (List Int)) : Int := if foll F gen N M w (sets.length + 1) [] [] sets = some [] then 0 else 13
noncomputable def distE (F : Ff) (gen : List (List Int)) (N d : Int) (sets : List (List Int)) : Int := if d < 1 ∨ N + 1 < d then 6 else treeE F gen N gen.length (d - 1).toNat sets
theorem box1 {a : V} (ha : a.isCell = true) (m : Mem) : opBox (.agg [a]) m = some (.ptr m.length 0, m ++ [⟨[a], 2⟩]) := by
  simp [opBox, V.cells, ha]
theorem proves_wv {f : Fd} {g vm gv setsv : V} {p n : Int} {t w pb : Nat} {gen sets : List (List Int)} {M : Int} {m0 m : Mem} {Q : V → Mem → Prop} (hg : GFAt m0 g f) (hr : Rows m0 gv gen) (hs : Rows m0 setsv sets) (hM : f.F.Mat gen t) (hgl : gen.length ≤ 256) (ht : t ≤ 64) (hw : w ≤ 64) (hpb : m0.length ≤ pb) (hsl : sets.length ≤ 100000) (hssl : ∀ i, i < sets.length → (rw_ sets i).length ≤ 17592186044416)
    (hp : Pre m0 m) (hP : At m pb (pcells g p n vm t gv M w .nils 0) 2) (hQ : ∀ m', Pre m0 m' → Q (I (treeE f.F gen t M w sets)) m') : WV (DD 92 [.ptr pb 0, .agg [setsv]] m) Q := by
  have hsc := hs.cell
  rw [e92]
  refine WV_fin ?_
  have hP1 := At.app hP [⟨[setsv], 2⟩]
  have hst := sc_at hP1 (o := 10) hsc (by simp)
  have hce : (pcells g p n vm t gv M w .nils 0).set 10 setsv = pcells g p n vm t gv M w setsv 0 := rfl
  rw [hce] at hst
  simp [r92_0, r92_1, r92_2, r92_3, r92_4, r92_5, c92, box1 hsc, hsc, st25 _ _ _ _ hsc, hst]
  let c : CX := ⟨f, g, vm, gv, setsv, p, n, t, gen, M, w, sets, pb, m0⟩
  have hc : c.Ok := ⟨hg, hr, hs, hM, hgl, ht, hw, hpb, by show sets.length ≤ 1000000; omega, hssl⟩
  have hPA : c.PA (List.set (m ++ [⟨[setsv], 2⟩] : Mem) pb ⟨pcells g p n vm t gv M w setsv 0, 2⟩) 0 := ⟨(hp.app _).set hpb _, At.set_self hP1⟩
  generalize hm2 : List.set (m ++ [⟨[setsv], 2⟩] : Mem) pb ⟨pcells g p n vm t gv M w setsv 0, 2⟩ = m2 at *
  refine WR_bnd (check_Ck hc (sets.length + 1) 0 [] [] .nils .nils m2 _ hPA (.inl ⟨rfl, rfl⟩) (.inl ⟨rfl, rfl⟩) (Off.nils _) (Off.nils _) (Nat.zero_le _) (Nat.zero_le _) (by show sets.length - 0 < _; omega) (Nat.zero_le _) (fun m3 hp3 hnone => ?_) fun k3 m3 hP3 hlt hle hup hsome => ?_)
  · have hnone' : foll f.F gen t M w (sets.length + 1) [] [] sets = none := hnone
    have hE : treeE f.F gen t M w sets = 13 := by rw [treeE, if_neg (by rw [hnone']; simp)]
    have := hQ m3 hp3
    rw [hE] at this
    simp
    exact this
  · have hsome' : foll f.F gen t M w (sets.length + 1) [] [] sets = some (sets.drop k3) := hsome
    have l11 : lc m3 pb 11 = some (I k3) := by rw [lc_at hP3.at_ (by omega)]; rfl
    have l10 : lc m3 pb 10 = some setsv := by rw [lc_at hP3.at_ (by omega)]; rfl
    have hlen := (hs.pre hP3.pre).len
    have hle' : k3 ≤ sets.length := hle
    have := hQ m3 hP3.pre
    by_cases hk : k3 = sets.length
    · have hE : treeE f.F gen t M w sets = 0 := by rw [treeE, if_pos (by rw [hsome', hk, List.drop_eq_nil_of_le (Nat.le_refl _)])]
      rw [hE] at this
      simp [l11, l10, hlen, hk]
      exact this
    · have hE : treeE f.F gen t M w sets = 13 := by
        rw [treeE, if_neg ?_]
        rw [hsome']
        intro h
        have := congrArg List.length (Option.some.inj h)
        simp at this
        omega
      have hlt3 : (k3 : Int) < sets.length := by omega
      rw [hE] at this
      simp [l11, l10, hlen, hlt3]
      exact this
theorem build157 {g p n vm N gv w : V} (h : ([g, p, n, vm, N, gv, w].all V.isCell) = true) : opBuild T 157 [(0, g), (1, .agg [p, n, vm, N, gv]), (5, w)] = some (.agg [g, p, n, vm, N, gv, .nils, .bool false, I 0, w, .nils, I 0]) := by
  simp at h
  obtain ⟨h1, h2, h3, h4, h5, h6, h7⟩ := h
  have hc : ∀ v : V, v.isCell = true → v.cells = [v] := fun v hv => by cases v <;> simp [V.cells, V.isCell] at hv ⊢
  have h0 : (V.agg [p, n, vm, N, gv]).cells = [p, n, vm, N, gv] := rfl
  simp [opBuild, T157, T76, T27, T22, T4, T3, T25, placeOf, fillA, put, h0, hc _ h1, hc _ h7, h1, h2, h3, h4, h5, h6, h7]
structure CodeOk (m : Mem) (cv : V) (f : Fd) (N : Nat) (gen : List (List Int)) : Prop where
  ok : f.Ok
  n1 : 1 ≤ N
  n2 : N ≤ 64
  mat : f.F.Mat gen N
  gl : gen.length ≤ 256
  e0 : codeE f.p f.n f.mod N gen = 0
  at_ : ∃ vm gv, cv = .agg [I f.p, I f.n, vm, I N, gv] ∧ Ints m vm f.mod ∧ Rows m gv gen
theorem CodeOk.pre {m m' : Mem} {cv : V} {f : Fd} {N : Nat} {gen : List (List Int)} (h : CodeOk m cv f N gen) (hp : Pre m m') : CodeOk m' cv f N gen := by
  obtain ⟨h1, h2, h3, h4, h5, h6, vm, gv, h7, h8, h9⟩ := h
  exact ⟨h1, h2, h3, h4, h5, h6, vm, gv, h7, h8.pre hp, h9.pre hp⟩
theorem box12 {l : List V} (h : (l.all V.isCell) = true) (m : Mem) : opBox (.agg l) m = some (.ptr m.length 0, m ++ [⟨l, 2⟩]) := box_agg l m h
theorem eopen_wv {f : Fd} {cv : V} {N : Nat} {gen : List (List Int)} {w : Int} {m : Mem} {Q : V → Mem → Prop} (hc : CodeOk m cv f N gen)
    (hQ : ∀ (f' : Fd) g vm gv m', f'.F = f.F → cv = .agg [I f.p, I f.n, vm, I N, gv] → Pre m m' → GFAt m' g f' → Ints m' vm f.mod → Rows m' gv gen → Q (.tup [.ptr m'.length 0, I 0]) (m' ++ [⟨pcells g f.p f.n vm N gv 0 w .nils 0, 2⟩])) : WV (DD 128 [cv, I w] m) Q := by
  obtain ⟨h1, h2, h3, h4, h5, h6, vm, gv, rfl, h8, h9⟩ := hc
  have hvc := h8.cell
  have hrc := h9.cell
  rw [e128]
  refine WV_fin ?_
  have hp0 := List.prefix_append m ([⟨[I f.p, I f.n, vm, I N, gv], 2⟩] : Mem)
  have hA := At.new1 m [I f.p, I f.n, vm, I N, gv] 2
  simp [r128_0, r128_1, r128_2, r128_3, r128_4, r128_5, c128, hvc, hrc]
  refine WR_bnd (codeCheck_wv (h8.pre hp0) (h9.pre hp0) fun m1 hp1 => ?_)
  rw [h6]
  have hA1 := Pre.at hp1 hA
  obtain ⟨c0, c1, c2, c3⟩ := box_la5 hA1
  simp [c0]
  have hp01 := hp0.trans hp1
  refine WR_bnd (fieldNew_wv (h8.pre hp01) (fun f' g m2 hf' e1 e2 e3 hp2 hg => ?_) fun hno => (hno ⟨f, h1, rfl, rfl, rfl⟩).elim)
  have hA2 := Pre.at hp2 hA1
  obtain ⟨d0, d1, d2, d3⟩ := box_la5 hA2
  have hgc := hg.cellp
  have hall : ([g, I f.p, I f.n, vm, I N, gv, I w].all V.isCell) = true := by simp [hgc, hvc, hrc]
  have hall2 : ((pcells g f.p f.n vm N gv 0 w .nils 0).all V.isCell) = true := by simp [hgc, hvc, hrc]
  simp [d1, build157 hall, box12 hall2, packV, hgc, hvc, hrc]
  have hFF : f'.F = f.F := by rw [← F_eq e1 e2 e3]; exact F_eq rfl rfl rfl
  exact hQ f' g vm gv m2 hFF rfl (hp01.trans hp2) hg (h8.pre (hp01.trans hp2)) (h9.pre (hp01.trans hp2))
theorem erank_wv {f : Fd} {cv : V} {N : Nat} {gen : List (List Int)} {M w : Int} {m : Mem} {Q : V → Mem → Prop} (hc : CodeOk m cv f N gen)
    (h1 : (M < 0 ∨ (gen.length : Int) < M ∨ w < 0 ∨ (N : Int) < w) → ∀ m', Pre m m' → Q (.tup [.nilp, I 6]) m')
    (h2 : ¬ (M < 0 ∨ (gen.length : Int) < M ∨ w < 0 ∨ (N : Int) < w) → ∀ (f' : Fd) g vm gv m0 m' pb, f'.F = f.F → Pre m m0 → GFAt m0 g f' → Rows m0 gv gen → m0.length ≤ pb → Pre m0 m' → At m' pb (pcells g f.p f.n vm N gv M w .nils 0) 2 → Q (.tup [.ptr pb 0, I 0]) m') : WV (DD 91 [cv, I M, I w] m) Q := by
  have hc' := hc
  obtain ⟨g1, g2, g3, g4, g5, g6, vm, gv, rfl, g8, g9⟩ := hc
  have hvc := g8.cell
  have hrc := g9.cell
  rw [e91]
  refine WV_fin ?_
  have hp0 := List.prefix_append m ([⟨[I f.p, I f.n, vm, I N, gv], 2⟩] : Mem)
  have hA := At.new1 m [I f.p, I f.n, vm, I N, gv] 2
  simp [r91_0, r91_1, r91_2, r91_3, r91_4, r91_5, r91_6, r91_7, c91, hvc, hrc]
  refine WR_bnd (eopen_wv (hc'.pre hp0) fun f' g vm' gv' m1 hFF hcv hp hg hvm hgv => ?_)
  injection hcv with hcv
  simp at hcv
  obtain ⟨rfl, rfl⟩ := hcv
  have hA1 : At (m1 ++ [⟨pcells g f.p f.n vm N gv 0 w .nils 0, 2⟩]) m.length [I f.p, I f.n, vm, I N, gv] 2 := At.app (Pre.at hp hA) _
  obtain ⟨d0, d1, d2, d3⟩ := box_la5 hA1
  have hgl := (hgv.pre (List.prefix_append m1 ([⟨pcells g f.p f.n vm N gv 0 w .nils 0, 2⟩] : Mem))).len
  have hpre : Pre m (m1 ++ [⟨pcells g f.p f.n vm N gv 0 w .nils 0, 2⟩]) := hp0.trans (hp.trans (List.prefix_append _ _))
  by_cases q1 : M < 0
  · simp [q1, packV, d2, d3, hgl, -lc_app0, -lc_app]; exact h1 (.inl q1) _ hpre
  by_cases q2 : (gen.length : Int) < M
  · simp [q1, q2, packV, d2, d3, hgl, -lc_app0, -lc_app]; exact h1 (.inr (.inl q2)) _ hpre
  by_cases q3 : w < 0
  · simp [q1, q2, q3, packV, d2, d3, hgl, -lc_app0, -lc_app]; exact h1 (.inr (.inr (.inl q3))) _ hpre
  by_cases q4 : (N : Int) < w
  · simp [q1, q2, q3, q4, packV, d2, d3, hgl, -lc_app0, -lc_app]; exact h1 (.inr (.inr (.inr q4))) _ hpre
  simp [q1, q2, q3, q4, packV, d2, d3, hgl]
  refine h2 (by omega) f' g vm gv m1 _ m1.length hFF (hp0.trans hp) hg hgv (Nat.le_refl _) ?_ ?_
  · exact List.prefix_append _ _
  · simp [At]
theorem weight_wv {f : Fd} {cv : V} {N : Nat} {gen : List (List Int)} {d : Int} {m : Mem} {Q : V → Mem → Prop} (hc : CodeOk m cv f N gen) (hd : -9223372036854775808 ≤ d ∧ d ≤ 9223372036854775807) (hQ : ∀ m', Pre m m' → Q (I (if d < 1 ∨ (N : Int) + 1 < d then -1 else d - 1)) m') : WV (DD 60 [cv, I d] m) Q := by
  obtain ⟨g1, g2, g3, g4, g5, g6, vm, gv, rfl, g8, g9⟩ := hc
  have hvc := g8.cell
  have hrc := g9.cell
  rw [e60]
  refine WV_fin ?_
  have w1 : IntKind.i64.wrap ((N : Int) + 1) = N + 1 := wrap64_in (by omega) (by omega)
  have hp0 := List.prefix_append m ([⟨[I f.p, I f.n, vm, I N, gv], 2⟩] : Mem)
  have hQ1 := hQ _ hp0
  by_cases h1 : d < 1
  · rw [if_pos (.inl h1)] at hQ1
    simp [r60_0, r60_1, r60_2, r60_3, c60, hvc, hrc, h1]; exact hQ1
  by_cases h2 : (N : Int) + 1 < d
  · rw [if_pos (.inr h2)] at hQ1
    simp [r60_0, r60_1, r60_2, r60_3, c60, hvc, hrc, h1, h2, w1]; exact hQ1
  have w2 : IntKind.i64.wrap (d - 1) = d - 1 := wrap64_in (by omega) (by omega)
  rw [if_neg (by omega)] at hQ1
  simp [r60_0, r60_1, r60_2, r60_3, c60, hvc, hrc, h1, h2, w1, w2]; exact hQ1
theorem checkRank_wv {f : Fd} {cv setsv : V} {N : Nat} {gen sets : List (List Int)} {M w : Int} {m : Mem} {Q : V → Mem → Prop} (hc : CodeOk m cv f N gen) (hs : Rows m setsv sets) (hsl : sets.length ≤ 100000) (hssl : ∀ i, i < sets.length → (rw_ sets i).length ≤ 17592186044416)
    (hQ : ∀ m', Pre m m' → Q (I (if M < 0 ∨ (gen.length : Int) < M ∨ w < 0 ∨ (N : Int) < w then 6 else treeE f.F gen N M w.toNat sets)) m') : WV (DD 59 [cv, I M, I w, .agg [setsv]] m) Q := by
  have hc' := hc
  obtain ⟨g1, g2, g3, g4, g5, g6, vm, gv, rfl, g8, g9⟩ := hc
  have hvc := g8.cell
  have hrc := g9.cell
  have hsc := hs.cell
  rw [e59]
  refine WV_fin ?_
  have hp0 := List.prefix_append m ([⟨[I f.p, I f.n, vm, I N, gv], 2⟩, ⟨[setsv], 2⟩] : Mem)
  have hB : At (m ++ [⟨[I f.p, I f.n, vm, I N, gv], 2⟩, ⟨[setsv], 2⟩]) (m.length + 1) [setsv] 2 := by simp [At]
  simp [r59_0, r59_1, r59_2, r59_3, r59_4, c59, hvc, hrc, hsc]
  refine WR_bnd (erank_wv (hc'.pre hp0) (fun hbad m1 hp => ?_) fun hgood f' g vm' gv' m0 m1 pb hFF hp hg hgv hpb hp1 hP => ?_)
  · have hQ1 := hQ m1 (hp0.trans hp)
    rw [if_pos hbad] at hQ1
    simp
    exact hQ1
  · have hB1 : At m1 (m.length + 1) [setsv] 2 := Pre.at (hp.trans hp1) hB
    have hlb : la 1 m1 (m.length + 1) 0 = some (.agg [setsv]) := by rw [la, hB1]; simp
    obtain ⟨w', rfl⟩ : ∃ w' : Nat, w = w' := ⟨w.toNat, by omega⟩
    simp [hlb]
    refine WR_bnd (proves_wv hg hgv (hs.pre (hp0.trans hp)) (by rw [hFF]; exact g4) g5 g3 (by omega) hpb hsl hssl hp1 hP fun m2 hp2 => ?_)
    have hQ1 := hQ m2 (hp0.trans (hp.trans hp2))
    rw [if_neg hgood, Int.toNat_natCast, ← hFF] at hQ1
    simp
    exact hQ1
theorem checkDistance_wv {f : Fd} {cv setsv : V} {N : Nat} {gen sets : List (List Int)} {d : Int} {m : Mem} {Q : V → Mem → Prop} (hc : CodeOk m cv f N gen) (hs : Rows m setsv sets) (hd : -9223372036854775808 ≤ d ∧ d ≤ 9223372036854775807) (hsl : sets.length ≤ 100000) (hssl : ∀ i, i < sets.length → (rw_ sets i).length ≤ 17592186044416)
    (hQ : ∀ m', Pre m m' → Q (I (distE f.F gen N d sets)) m') : WV (DD 27 [cv, I d, .agg [setsv]] m) Q := by
  have hc' := hc
  obtain ⟨g1, g2, g3, g4, g5, g6, vm, gv, rfl, g8, g9⟩ := hc
  have hvc := g8.cell
  have hrc := g9.cell
  have hsc := hs.cell
  rw [e27]
  refine WV_fin ?_
  have hp0 := List.prefix_append m ([⟨[I f.p, I f.n, vm, I N, gv], 2⟩, ⟨[setsv], 2⟩] : Mem)
  have hA : At (m ++ [⟨[I f.p, I f.n, vm, I N, gv], 2⟩, ⟨[setsv], 2⟩]) m.length [I f.p, I f.n, vm, I N, gv] 2 := by simp [At]
  have hB : At (m ++ [⟨[I f.p, I f.n, vm, I N, gv], 2⟩, ⟨[setsv], 2⟩]) (m.length + 1) [setsv] 2 := by simp [At]
  have hgl := (g9.pre hp0).len
  simp [r27_0, r27_1, c27, hvc, hrc, hsc, hgl]
  refine WR_bnd (weight_wv (hc'.pre hp0) hd fun m1 hp1 => ?_)
  have hB1 : At m1 (m.length + 1) [setsv] 2 := Pre.at hp1 hB
  have hlb : la 1 m1 (m.length + 1) 0 = some (.agg [setsv]) := by rw [la, hB1]; simp
  simp [chkd_of hp1, hlb]
  refine WR_bnd (checkRank_wv ((hc'.pre hp0).pre hp1) ((hs.pre hp0).pre hp1) hsl hssl fun m2 hp2 => ?_)
  have hQ1 := hQ m2 (hp0.trans (hp1.trans hp2))
  simp
  by_cases hr : d < 1 ∨ (N : Int) + 1 < d
  · rw [distE, if_pos hr] at hQ1
    rw [if_pos (by rw [if_pos hr]; omega)]
    exact hQ1
  · rw [distE, if_neg hr] at hQ1
    rw [if_neg (by rw [if_neg hr]; omega), if_neg hr]
    exact hQ1
end Go.Proofs.YtefjnnghfloddaaGreat.Abs

/- Specifications: the reference's sets of positions. -/
namespace Go.Proofs.YtefjnnghfloddaaGreat.Abs
set_option linter.unusedVariables false
set_option linter.unusedSimpArgs false
set_option linter.unusedSectionVars false
open Ff
structure RinI (va : V) (x : Int) (l : List Int) (m : Mem) (k : Nat) (e : Env) (m' : Mem) : Prop where
  d : ∃ i : Nat, e 0 = va ∧ e 1 = I x ∧ e 5 = I i ∧ i ≤ l.length ∧ l.length - i = k ∧ ∀ j, j < i → l.getD j 0 ≠ x
  m : m' = m
theorem isin_wv {va : V} {x : Int} {l : List Int} {m : Mem} {Q : V → Mem → Prop} (ha : Ints m va l) (hl : l.length ≤ 1000000) (hQ : ∀ t : Bool, (t = true ↔ x ∈ l) → Q (.bool t) m) : WV (DD 175 [va, I x] m) Q := by
  rw [e175]
  refine WV_fin ?_
  simp [r175_0, r175_1, r175_2, r175_3, r175_4, r175_5, r175_7, c175]
  refine W_loop (RinI va x l m) ?_ l.length _ _ ⟨⟨0, by simp, by simp, by simp, by omega, by omega, fun j hj => by omega⟩, rfl⟩
  rintro k e m' ⟨⟨i, e0, e1, e5, hi, hk, hall⟩, rfl⟩
  have w1 : IntKind.i64.wrap ((i : Int) + 1) = i + 1 := wrap64_in (by omega) (by omega)
  by_cases hlt : i < l.length
  · obtain ⟨b1, o1, a1, a2⟩ := ha.at (ix := i) (by omega) (by omega)
    rw [Int.toNat_natCast] at a2
    by_cases he : l.getD i 0 = x
    · simp [l175_6, r175_0, r175_1, r175_2, r175_3, r175_4, r175_5, r175_7, c175, e0, e1, e5, ha.len, hlt, a1, a2, he, -List.getD_eq_getElem?_getD]
      exact hQ true (by simp; exact mem_getD.2 ⟨i, hlt, he⟩)
    · simp [l175_6, r175_0, r175_1, r175_2, r175_3, r175_4, r175_5, r175_7, c175, e0, e1, e5, ha.len, hlt, a1, a2, he, w1, -List.getD_eq_getElem?_getD]
      refine ⟨l.length - (i + 1), by omega, ⟨i + 1, by simp [e0], by simp [e1], by simp, by omega, rfl, fun j hj => ?_⟩, rfl⟩
      by_cases e : j = i
      · subst e; exact he
      · exact hall j (by omega)
  · have hil : i = l.length := by omega
    subst hil
    simp [l175_6, r175_0, r175_1, r175_2, r175_3, r175_4, r175_5, r175_7, c175, e0, e5, ha.len]
    refine hQ false ?_
    simp
    intro h
    obtain ⟨j, h3, h4⟩ := mem_getD.1 h
    exact hall j h3 h4
def Ris (N : Int) (set : List Int) : Prop := ∀ k, k < set.length → 0 ≤ set.getD k 0 ∧ set.getD k 0 < N ∧ (0 < k → set.getD (k - 1) 0 < set.getD k 0)
structure RisI (set : List Int) (N : Int) (stv : V) (m : Mem) (k : Nat) (e : Env) (m' : Mem) : Prop where
  d : ∃ i : Nat, e 0 = stv ∧ e 1 = I N ∧ e 5 = I i ∧ i ≤ set.length ∧ set.length - i = k ∧ ∀ k, k < i → 0 ≤ set.getD k 0 ∧ set.getD k 0 < N ∧ (0 < k → set.getD (k - 1) 0 < set.getD k 0)
  m : m' = m
theorem rising_wv {stv : V} {set : List Int} {N : Int} {m : Mem} {Q : V → Mem → Prop} (hst : Ints m stv set) (hsl2 : set.length ≤ 17592186044416) (hQ : ∀ b : Bool, (b = true ↔ Ris N set) → Q (.bool b) m) : WV (DD 174 [stv, I N] m) Q := by
  rw [e174]
  refine WV_fin ?_
  simp [r174_0, r174_1, r174_2, r174_3, r174_4, r174_5, r174_7, c174]
  refine W_loop (RisI set N stv m) ?_ set.length _ _ ⟨⟨0, by simp, by simp, by simp, by omega, by omega, fun k hk => by omega⟩, rfl⟩
  rintro k e m' ⟨⟨i, e0, e1, e5, hi, hk, hall⟩, rfl⟩
  have hlen := hst.len
  by_cases hlt : i < set.length
  · obtain ⟨b1, o1, a1, a2⟩ := hst.at (ix := i) (by omega) (by omega)
    rw [Int.toNat_natCast] at a2
    have w1 : IntKind.i64.wrap ((i : Int) + 1) = (i + 1 : Nat) := by rw [wrap64_in (by omega) (by omega)]; omega
    have wm : IntKind.i64.wrap ((i : Int) - 1) = i - 1 := wrap64_in (by omega) (by omega)
    have hno : ¬ (0 ≤ set.getD i 0 ∧ set.getD i 0 < N ∧ (0 < i → set.getD (i - 1) 0 < set.getD i 0)) → Q (.bool false) m' := fun h => hQ false (by simp; exact fun hr => h (hr i hlt))
    generalize hv : set.getD i 0 = v at *
    by_cases h1 : v < 0
    · simp [l174_6, r174_0, r174_1, r174_2, r174_3, r174_4, r174_5, r174_7, c174, e0, e1, e5, hlen, hlt, a1, a2, h1]
      exact hno fun h => by omega
    by_cases h2 : N ≤ v
    · simp [l174_6, r174_0, r174_1, r174_2, r174_3, r174_4, r174_5, r174_7, c174, e0, e1, e5, hlen, hlt, a1, a2, h1, h2]
      exact hno fun h => by omega
    have hnext : (0 < i → set.getD (i - 1) 0 < v) → ∀ e' : Env, e' 0 = stv → e' 1 = I N → e' 5 = I (i + 1 : Nat) → ∃ k', k' < k ∧ RisI set N stv m' k' e' m' := by
      intro hlt2 e' f0 f1 f5
      refine ⟨set.length - (i + 1), by omega, ⟨i + 1, f0, f1, f5, by omega, rfl, fun k hk => ?_⟩, rfl⟩
      by_cases e : k = i
      · subst e; rw [hv]; exact ⟨by omega, by omega, hlt2⟩
      · exact hall k (by omega)
    by_cases h0 : i = 0
    · subst h0
      have a1' : opIndexAddr T 22 stv (I 0) = some (.ptr b1 o1) := a1
      have w0 : IntKind.i64.wrap 1 = 1 := wrap64_in (by omega) (by omega)
      simp [l174_6, r174_0, r174_1, r174_2, r174_3, r174_4, r174_5, r174_7, c174, e0, e1, e5, hlen, hlt, a1', a2, h1, h2, w0]
      refine hnext (fun h => by omega) _ ?_ ?_ ?_
      · simp [e0]
      · simp [e1]
      · simp
    · have h0' : 0 < i := by omega
      obtain ⟨b2, o2, a3, a4⟩ := hst.at (ix := (i : Int) - 1) (by omega) (by omega)
      rw [show ((i : Int) - 1).toNat = i - 1 by omega] at a4
      by_cases h3 : v ≤ set.getD (i - 1) 0
      · simp [l174_6, r174_0, r174_1, r174_2, r174_3, r174_4, r174_5, r174_7, c174, e0, e1, e5, hlen, hlt, a1, a2, h1, h2, h0', wm, a3, a4, h3, -List.getD_eq_getElem?_getD]
        exact hno fun h => by have := h.2.2 h0'; omega
      · simp [l174_6, r174_0, r174_1, r174_2, r174_3, r174_4, r174_5, r174_7, c174, e0, e1, e5, hlen, hlt, a1, a2, h1, h2, h0', wm, a3, a4, h3, w1, -List.getD_eq_getElem?_getD, -Int.natCast_add]
        refine hnext (fun h => by omega) _ ?_ ?_ ?_
        · simp [e0]
        · simp [e1]
        · simp [-Int.natCast_add]
  · have hil : i = set.length := by omega
    subst hil
    simp [l174_6, r174_0, r174_1, r174_2, r174_3, r174_4, r174_5, r174_7, c174, e0, e5, hlen]
    exact hQ true (by simp; exact hall)
end Go.Proofs.YtefjnnghfloddaaGreat.Abs

/- Specifications: the reference's nodes. -/
namespace Go.Proofs.YtefjnnghfloddaaGreat.Abs
set_option linter.unusedVariables false
set_option linter.unusedSimpArgs false
set_option linter.unusedSectionVars false
open Ff
def pickL (v set : List Int) : List Int := set.map fun i => v.getD i.toNat 0
structure PkI (vv sv : V) (v set : List Int) (m : Mem) (k : Nat) (e : Env) (m' : Mem) : Prop where
  d : ∃ i : Nat, e 0 = vv ∧ e 1 = sv ∧ e 5 = .sl m.length 0 set.length set.length 1 true ∧ e 6 = I i ∧ i ≤ set.length ∧ set.length - i = k ∧ m' = m ++ [⟨(mapTo (List.replicate set.length 0) (fun j => v.getD (set.getD j 0).toNat 0) i).map I, 2⟩]
theorem pick_wv {vv sv : V} {v set : List Int} {m : Mem} {Q : V → Mem → Prop} (hv : Ints m vv v) (hs : Ints m sv set) (hin : ∀ j, j < set.length → 0 ≤ set.getD j 0 ∧ set.getD j 0 < v.length) (hl : set.length ≤ 100000) (hQ : Q (.sl m.length 0 set.length set.length 1 true) (m ++ [⟨(pickL v set).map I, 2⟩])) : WV (DD 85 [vv, sv] m) Q := by
  rw [e85]
  refine WV_fin ?_
  simp [r85_0, r85_1, r85_2, r85_3, r85_4, r85_5, r85_7, c85, hs.len, mk22 (l := set.length) (c := set.length) (by omega) (by omega) (by omega)]
  refine W_loop (PkI vv sv v set m) ?_ set.length _ _ ⟨⟨0, by simp, by simp, by simp, by simp, by omega, by omega, by rw [mapTo_0]; simp⟩⟩
  rintro k e m' ⟨⟨i, e0, e1, e5, e6, hi, hk, rfl⟩⟩
  have w1 : IntKind.i64.wrap ((i : Int) + 1) = i + 1 := wrap64_in (by omega) (by omega)
  generalize hL : mapTo (List.replicate set.length 0) (fun j => v.getD (set.getD j 0).toNat 0) i = L
  have hLl : L.length = set.length := by rw [← hL]; simp
  have hs' := hs.pre (List.prefix_append m ([⟨L.map I, 2⟩] : Mem))
  have hv' := hv.pre (List.prefix_append m ([⟨L.map I, 2⟩] : Mem))
  by_cases hlt : i < set.length
  · obtain ⟨b1, o1, a1, a2⟩ := hs'.at (ix := i) (by omega) (by omega)
    rw [Int.toNat_natCast] at a2
    obtain ⟨q1, q2⟩ := hin i hlt
    obtain ⟨b2, o2, a3, a4⟩ := hv'.at q1 q2
    have hix := ia22 (b := m.length) (o := 0) (n := set.length) (c := set.length) (ex := true) (ix := (i : Int)) (by omega) (by omega)
    simp only [Int.toNat_natCast, Nat.zero_add] at hix
    have hst := sc_ints (m := m ++ [⟨L.map I, 2⟩]) (b := m.length) (o := i) (x := v.getD (set.getD i 0).toNat 0) (At.new1 _ _ _) (by omega)
    simp [l85_6, r85_0, r85_1, r85_2, r85_3, r85_4, r85_5, r85_7, c85, e0, e1, e5, e6, hs'.len, hlt, a1, a2, a3, a4, hix, hst, w1, -List.getD_eq_getElem?_getD, -sc_app0]
    refine ⟨set.length - (i + 1), by omega, ⟨i + 1, by simp [e0], by simp [e1], by simp [e5], by simp, by omega, rfl, ?_⟩⟩
    rw [← List.map_set, ← hL, mapTo_set (List.replicate set.length 0) (fun j => v.getD (set.getD j 0).toNat 0) i (by simpa using hlt)]
  · have hil : i = set.length := by omega
    subst hil
    simp [l85_6, r85_0, r85_1, r85_2, r85_3, r85_4, r85_5, r85_7, c85, e1, e5, e6, hs'.len]
    have := mapTo_end (List.replicate set.length 0) (fun j => v.getD (set.getD j 0).toNat 0)
    rw [List.length_replicate, hL] at this
    have e : pickL v set = L := by
      rw [this]
      apply List.ext_getElem
      · simp [pickL]
      intro j h1 h2
      simp [pickL] at h1
      simp [pickL, h1]
    rw [← e]
    exact hQ
def keepL (gen : List (List Int)) (set : List Int) : List (List Int) := gen.map fun v => pickL v set
theorem keepL_rw (gen : List (List Int)) (set : List Int) (i : Nat) (h : i < gen.length) : rw_ (keepL gen set) i = pickL (rw_ gen i) set := by
  simp [rw_, keepL, h]
structure KpI (m : Mem) (gv sv : V) (gen : List (List Int)) (set : List Int) (k : Nat) (e : Env) (m' : Mem) : Prop where
  d : ∃ (i : Nat) (b : Nat → Nat) (out : V), e 0 = gv ∧ e 1 = sv ∧ e 5 = out ∧ e 6 = I i ∧ i ≤ gen.length ∧ gen.length - i = k ∧ Pre m m' ∧ FreshV m m' out ((List.range i).map (rsl (keepL gen set) b fun _ => true)) ∧ (∀ j, j < i → m.length ≤ b j ∧ Off out (b j) ∧ At m' (b j) ((rw_ (keepL gen set) j).map I) 2)
theorem keep_wv {gv sv : V} {gen : List (List Int)} {set : List Int} {t : Nat} {m : Mem} {Q : V → Mem → Prop} (hr : Rows m gv gen) (hs : Ints m sv set) (hlen : ∀ i, i < gen.length → (rw_ gen i).length = t) (hin : ∀ j, j < set.length → 0 ≤ set.getD j 0 ∧ set.getD j 0 < t) (hgl : gen.length ≤ 1000) (hl : set.length ≤ 100000) (hQ : ∀ v m', Pre m m' → Rows m' v (keepL gen set) → Q v m') : WV (DD 187 [gv, sv] m) Q := by
  rw [e187]
  refine WV_fin ?_
  simp [r187_0, r187_1, r187_2, r187_3, r187_4, r187_5, r187_7, c187]
  refine W_loop (KpI m gv sv gen set) ?_ gen.length _ _ ⟨⟨0, fun _ => 0, .nils, by simp, by simp, by simp, by simp, by omega, by omega, List.prefix_refl _, .inl ⟨rfl, rfl⟩, fun j hj => by omega⟩⟩
  rintro k e m' ⟨⟨i, b, out, e0, e1, e5, e6, hi, hk, hpre, hF, hrow⟩⟩
  have hglen := (hr.pre hpre).len
  by_cases hlt : i < gen.length
  · obtain ⟨b1, o1, u, a1, a2, a3⟩ := (hr.pre hpre).at (ix := i) (by omega) (by omega)
    rw [Int.toNat_natCast] at a3
    have w1 : IntKind.i64.wrap ((i : Int) + 1) = (i + 1 : Nat) := by rw [wrap64_in (by omega) (by omega)]; omega
    have hgi : gen.getD i [] = rw_ gen i := rfl
    rw [hgi] at a3
    simp [l187_6, r187_0, r187_1, r187_2, r187_3, r187_4, r187_5, r187_7, c187, e0, e1, e5, e6, hglen, hlt, a1, a2]
    refine WR_bnd (pick_wv a3 (hs.pre hpre) (by rw [hlen i hlt]; exact hin) hl ?_)
    rw [← keepL_rw gen set i hlt]
    have hkl : (rw_ (keepL gen set) i).length = set.length := by rw [keepL_rw gen set i hlt]; simp [pickL]
    have hp2 : Pre m' (m' ++ [⟨(rw_ (keepL gen set) i).map I, 2⟩]) := List.prefix_append _ _
    obtain ⟨v', m3, d1, d2, d3, d4, d5, d6⟩ := append25 (u := .sl m'.length 0 set.length set.length 1 true) (hF.pre hp2) (hpre.trans hp2) (by simp; omega)
    have hat : At (m' ++ [⟨(rw_ (keepL gen set) i).map I, 2⟩]) m'.length ((rw_ (keepL gen set) i).map I) 2 := At.new1 _ _ _
    have hoff : Off out m'.length := hF.off (Nat.le_refl _)
    have ll : (m' ++ [⟨(rw_ (keepL gen set) i).map I, 2⟩] : Mem).length = m'.length + 1 := by simp
    have d1' : opAppend T 25 25 out (.sl (m'.length + 1) 0 1 1 1 true) (m' ++ [⟨(rw_ (keepL gen set) i).map I, 2⟩, ⟨[.sl m'.length 0 set.length set.length 1 true], 2⟩]) = some (v', m3) := by
      rw [← d1, ll]; simp
    simp [lit25, d1', e5, e6, w1, -Int.natCast_add]
    refine ⟨gen.length - (i + 1), by omega, ⟨i + 1, fun j => if j = i then m'.length else b j, v', by simp [e0], by simp [e1], by simp, by simp [-Int.natCast_add], by omega, rfl, d3, ?_, fun j hj => ?_⟩⟩
    · have : (List.range (i + 1)).map (rsl (keepL gen set) (fun j => if j = i then m'.length else b j) fun _ => true) = (List.range i).map (rsl (keepL gen set) b fun _ => true) ++ [.sl m'.length 0 set.length set.length 1 true] := by
        rw [List.range_succ, List.map_append]
        congr 1
        · apply List.map_congr_left
          intro j hj
          have := List.mem_range.1 hj
          simp only [rsl]
          rw [if_neg (by omega)]
        · simp [rsl, hkl]
      rw [this]; exact d2
    · by_cases e : j = i
      · subst e
        simp only [if_true]
        exact ⟨hpre.len, d6 _ (At.lt hat) hoff, d5 _ _ hoff hat⟩
      · simp only [e, if_false]
        obtain ⟨g1, g2, g3⟩ := hrow j (by omega)
        have := Pre.at hp2 g3
        exact ⟨g1, d6 _ (At.lt this) g2, d5 _ _ g2 this⟩
  · have hil : i = gen.length := by omega
    subst hil
    simp [l187_6, r187_0, r187_1, r187_2, r187_3, r187_4, r187_5, r187_7, c187, e0, e5, e6, hglen]
    refine hQ out m' hpre ?_
    have hkl : (keepL gen set).length = gen.length := by simp [keepL]
    rcases hF with ⟨rfl, h⟩ | ⟨B, ex, rfl, hB0, hB⟩
    · refine .inl ⟨rfl, ?_⟩
      have := congrArg List.length h
      simp at this
      simp [keepL, this]
    · refine .inr (.inr ⟨B, 0, gen.length, ex, _, by simp [hkl], hB, by simp, by simp [hkl], fun j hj => ⟨rsl (keepL gen set) b (fun _ => true) j, ?_, ?_⟩⟩)
      · rw [Nat.zero_add, List.getElem?_map, List.getElem?_range (by omega)]; rfl
      · have := (hrow j (by omega)).2.2.ints (by omega) true
        rw [rw_, List.getD_eq_getElem?_getD, List.getElem?_eq_getElem hj] at this
        simpa [rsl, rw_, hj] using this
theorem pickL_get (v set : List Int) (j : Nat) (h : j < set.length) : (pickL v set).getD j 0 = v.getD (set.getD j 0).toNat 0 := by simp [pickL, h]
theorem keepL_Mat {F : Ff} (hF : F.Ok) {gen : List (List Int)} {set : List Int} {t : Nat} (hM : F.Mat gen t) : F.Mat (keepL gen set) set.length := by
  refine ⟨fun i hi => ?_, fun i j => ?_⟩
  · rw [keepL_rw gen set i (by simpa [keepL] using hi)]; simp [pickL]
  · by_cases hi : i < gen.length
    · rw [en, keepL_rw gen set i hi]
      by_cases hj : j < set.length
      · rw [pickL_get _ _ _ hj]; exact hM.el i _
      · rw [List.getD_eq_getElem?_getD, List.getElem?_eq_none (by simp [pickL]; omega)]; exact hF.zeroE
    · rw [en, rw_out (by simp [keepL]; omega)]; exact hF.zeroE
theorem keep_rank {F : Ff} (hF : F.Ok) {gen : List (List Int)} {set : List Int} {t : Nat} (hM : F.Mat gen t) : (F.elimGo set.length 0 (keepL gen set) []).2.length = set.length ↔ F.GrAll gen.length (fun v => v) (colsV gen set) := by
  rw [hF.rank_all (keepL_Mat hF hM)]
  have e1 : (keepL gen set).length = gen.length := by simp [keepL]
  have e2 : ((List.range set.length).map fun j r => en (keepL gen set) r j) = colsV gen set := by
    apply List.ext_getElem
    · simp [colsV]
    intro j h1 h2
    simp at h1
    have e3 : (colsV gen set)[j] = fun r => en gen r (set.getD j 0).toNat := by simp [colsV, h1]
    rw [e3]
    simp only [List.getElem_map, List.getElem_range]
    funext r
    by_cases hr : r < gen.length
    · rw [en, keepL_rw gen set r hr, pickL_get _ _ _ h1]; rfl
    · have q1 : en (keepL gen set) r j = 0 := by rw [en, rw_out (by simp [keepL]; omega)]; rfl
      have q2 : en gen r (set.getD j 0).toNat = 0 := by rw [en, rw_out (by omega)]; rfl
      rw [q1, q2]
  rw [e1, e2]
theorem of_wv {f : Fd} {fv gv sv : V} {gen : List (List Int)} {set : List Int} {t : Nat} {m : Mem} {Q : V → Mem → Prop} (hg : RF m fv f) (hr : Rows m gv gen) (hs : Ints m sv set) (hM : f.F.Mat gen t) (hin : ∀ j, j < set.length → 0 ≤ set.getD j 0 ∧ set.getD j 0 < t) (hgl : gen.length ≤ 256) (hl : set.length ≤ 256)
    (hQ : ∀ (r : Nat) m', Pre m m' → (r = set.length ↔ f.F.GrAll gen.length (fun v => v) (colsV gen set)) → Q (I r) m') : WV (DD 176 [fv, gv, sv] m) Q := by
  have hg' := hg
  obtain ⟨hf, vm, rfl, hv⟩ := hg
  rw [e176]
  refine WV_fin ?_
  have hp0 := List.prefix_append m ([⟨[I f.p, I f.n, vm], 2⟩] : Mem)
  simp [r176_0, r176_1, r176_2, c176, hv.cell]
  refine WR_bnd (keep_wv (hr.pre hp0) (hs.pre hp0) hM.len hin (by omega) (by omega) fun v m1 hp1 hv1 => ?_)
  have hp01 := hp0.trans hp1
  have hsl := (hs.pre hp01).len
  simp [chkd_of hp1, hsl]
  refine WR_bnd (rcanon_wv (hg'.pre hp01) hv1 (keepL_Mat hf.F hM) (by simp [keepL]; omega) hl fun v2 pv m2 hp2 hv2 hpv => ?_)
  simp [hpv.len]
  exact hQ _ m2 (hp01.trans hp2) (keep_rank hf.F hM)
abbrev ccells (p n : Int) (vm : V) (N : Int) (gv : V) (M w : Int) : List V := [I p, I n, vm, I N, gv, I M, I w, .nils, .bool false]
structure RrgI (s set : List Int) (sv stv : V) (mb : Nat) (M1 : Mem) (k : Nat) (e : Env) (m' : Mem) : Prop where
  d : ∃ i : Nat, e 1 = sv ∧ e 2 = stv ∧ e 3 = .ptr mb 0 ∧ e 7 = I i ∧ i ≤ set.length ∧ set.length - i = k ∧ ∀ k, k < i → set.getD k 0 ∉ s
  m : m' = M1
theorem box_la9 {m : Mem} {k : Nat} {p n N M w : Int} {vm gv : V} (h : At m k (ccells p n vm N gv M w) 2) : la 3 m k 0 = some (.agg [I p, I n, vm]) ∧ la 9 m k 0 = some (.agg (ccells p n vm N gv M w)) ∧ lc m k 3 = some (I N) ∧ lc m k 4 = some gv ∧ lc m k 5 = some (I M) ∧ lc m k 6 = some (I w) ∧ lc m k 8 = some (.bool false) := by
  refine ⟨by rw [la, h]; simp, by rw [la, h]; simp, ?_, ?_, ?_, ?_, ?_⟩ <;> rw [lc_at h (by omega)] <;> rfl
theorem rright_wv {f : Fd} {vm gv sv stv : V} {M w : Int} {t : Nat} {gen : List (List Int)} {s set : List Int} {m : Mem} {Q : V → Mem → Prop} (hf : f.Ok) (hv : Ints m vm f.mod) (hr : Rows m gv gen) (hM : f.F.Mat gen t) (hgl : gen.length ≤ 256) (ht : t ≤ 64) (hs : Ints m sv s) (hsl : s.length ≤ 1000) (hst : Ints m stv set) (hsl2 : set.length ≤ 17592186044416)
    (hQ : ∀ b m', Pre m m' → (b = true ↔ Rt f.F gen t M s set) → Q (.bool b) m') : WV (DD 156 [.agg (ccells f.p f.n vm (t : Int) gv M w), sv, stv] m) Q := by
  have hvc := hv.cell
  have hrc := hr.cell
  have hall : ((ccells f.p f.n vm (t : Int) gv M w).all V.isCell) = true := by simp [hvc, hrc]
  rw [e156]
  refine WV_fin ?_
  have hp0 := List.prefix_append m ([⟨ccells f.p f.n vm (t : Int) gv M w, 2⟩] : Mem)
  have hA := At.new1 m (ccells f.p f.n vm (t : Int) gv M w) 2
  obtain ⟨c0, c1, c2, c3, c4, c5, c6⟩ := box_la9 hA
  simp only [r156_0, r156_1, r156_2, r156_3, r156_4, r156_5, r156_6, r156_7, r156_9, r156_10, r156_11, r156_12, r156_13, r156_14, r156_15, r156_16, c156, box12 hall]
  simp [r156_0, r156_1, r156_2, r156_3, r156_4, r156_5, r156_6, r156_7, r156_9, r156_10, r156_11, r156_12, r156_13, r156_14, r156_15, r156_16, c156, box12 hall, hvc, hrc]
  refine WR_bnd (rising_wv (hst.pre hp0) hsl2 fun b hb => ?_)
  cases b with
  | false =>
    simp
    refine hQ false _ hp0 ?_
    simp
    intro h
    have := hb.2 fun k hk => ⟨(h.1 k hk).1, (h.1 k hk).2.1, (h.1 k hk).2.2.1⟩
    cases this
  | true =>
    have hR := hb.1 rfl
    have hle : set.length ≤ 64 := by
      by_cases h0 : 0 < set.length
      · have := rising_le (N := t) (Nat.le_refl set.length) hR h0
        omega
      · omega
    simp
    refine W_loop (RrgI s set sv stv m.length (m ++ [⟨ccells f.p f.n vm (t : Int) gv M w, 2⟩])) ?_ set.length _ _ ⟨⟨0, by simp, by simp, by simp, by simp, by omega, by omega, fun k hk => by omega⟩, rfl⟩
    rintro k e m' ⟨⟨i, e1, e2, e3, e7, hi, hk, hall2⟩, rfl⟩
    have hsl3 := (hst.pre hp0).len
    have w1 : IntKind.i64.wrap ((i : Int) + 1) = i + 1 := wrap64_in (by omega) (by omega)
    by_cases hlt : i < set.length
    · obtain ⟨b1, o1, a1, a2⟩ := (hst.pre hp0).at (ix := i) (by omega) (by omega)
      rw [Int.toNat_natCast] at a2
      simp [l156_8, r156_0, r156_1, r156_2, r156_3, r156_4, r156_5, r156_6, r156_7, r156_9, r156_10, r156_11, r156_12, r156_13, r156_14, r156_15, r156_16, c156, e1, e2, e3, e7, hsl3, hlt, a1, a2, -List.getD_eq_getElem?_getD]
      refine WR_bnd (isin_wv (hs.pre hp0) (by omega) fun q hq => ?_)
      cases q with
      | true =>
        simp
        refine hQ false _ hp0 ?_
        simp
        exact fun h => (h.1 i hlt).2.2.2 (hq.1 rfl)
      | false =>
        simp [e7, w1]
        refine ⟨set.length - (i + 1), by omega, ⟨i + 1, by simp [e1], by simp [e2], by simp [e3], by simp, by omega, rfl, fun k hk => ?_⟩, rfl⟩
        by_cases e : k = i
        · subst e; exact fun h => by have := hq.2 h; cases this
        · exact hall2 k (by omega)
    · have hil : i = set.length := by omega
      subst hil
      simp [l156_8, r156_0, r156_1, r156_2, r156_3, r156_4, r156_5, r156_6, r156_7, r156_9, r156_10, r156_11, r156_12, r156_13, r156_14, r156_15, r156_16, c156, e1, e2, e3, e7, hsl3]
      refine WR_bnd (of_wv (f := f) ⟨hf, vm, rfl, hv.pre hp0⟩ (hr.pre hp0) (hst.pre hp0) hM (fun j hj => ⟨(hR j hj).1, (hR j hj).2.1⟩) hgl (by omega) fun r m2 hp2 hiff => ?_)
      have hA2 := Pre.at hp2 hA
      obtain ⟨d0, d1, d2, d3, d4, d5, d6⟩ := box_la9 hA2
      have hsl4 := ((hst.pre hp0).pre hp2).len
      by_cases hG : f.F.GrAll gen.length (fun v => v) (colsV gen set)
      · have hr2 := hiff.2 hG
        subst hr2
        simp [e2, e3, hsl4, d4, d6]
        refine hQ _ m2 (hp0.trans hp2) ?_
        simp [Rt, hG]
        exact fun _ k hk => by have := hR k hk; have h2 := hall2 k hk; simp at this h2 ⊢; exact ⟨this.1, this.2.1, this.2.2, h2⟩
      · have hr2 : ¬ ((r : Int) = set.length) := fun h => hG (hiff.1 (by omega))
        simp [e2, e3, hsl4, hr2]
        exact hQ false m2 (hp0.trans hp2) (by simp [Rt, hG])
end Go.Proofs.YtefjnnghfloddaaGreat.Abs

/- Specifications: the reference follows a tree. -/
namespace Go.Proofs.YtefjnnghfloddaaGreat.Abs
set_option linter.unusedVariables false
set_option linter.unusedSimpArgs false
set_option linter.unusedSectionVars false
open Ff
theorem with_wv {a b : V} {l k : List Int} {m : Mem} {Q : V → Mem → Prop} (ha : Ints m a l) (hb : Ints m b k) (hl : l.length ≤ 100000) (hk : k.length ≤ 100000) (hQ : ∀ v m', Pre m m' → FreshA m m' v (l ++ k) → Q v m') : WV (DD 158 [a, b] m) Q := by
  rw [e158]
  refine WV_fin ?_
  obtain ⟨v1, m1, a1, a2, a3, a4, a5⟩ := append_lit ha (by omega)
  obtain ⟨v2, m2, b1, b2, b3, b4, b5, b6⟩ := append22l (m0 := m) a2 (hb.pre a3) a3 (by omega)
  simp [r158_0, r158_1, c158, a1, b1]
  exact hQ v2 m2 b3 b2
structure KdI (p n : Int) (vm : V) (N : Int) (gv : V) (M : Int) (w : Nat) (s z set : List Int) (sv zv stv : V) (m : Mem) (k : Nat) (e : Env) (m' : Mem) : Prop where
  d : ∃ (i : Nat) (out : List Int) (outv : V), e 1 = sv ∧ e 2 = zv ∧ e 3 = stv ∧ e 4 = .ptr m.length 0 ∧ e 9 = outv ∧ e 10 = I i ∧ i ≤ set.length ∧ set.length - i = k ∧ Pre m m' ∧ At m' m.length (ccells p n vm N gv M w) 2 ∧ FreshA m m' outv out ∧ Off outv m.length ∧ out.length ≤ i ∧ (s.length < w → out = (set.take i).filter fun x => decide (x ∉ z)) ∧ (¬ s.length < w → out = [])
theorem kids_wv {p n N M : Int} {vm gv sv zv stv : V} {w : Nat} {s z set : List Int} {m : Mem} {Q : V → Mem → Prop} (hvc : vm.isCell = true) (hrc : gv.isCell = true) (hs : Ints m sv s) (hz : Ints m zv z) (hst : Ints m stv set) (hsl : s.length ≤ 100000) (hzl : z.length ≤ 100000) (hl : set.length ≤ 100000)
    (hQ : ∀ v m', Pre m m' → FreshA m m' v (kidsL w s z set) → Q v m') : WV (DD 157 [.agg (ccells p n vm N gv M w), sv, zv, stv] m) Q := by
  have hall : ((ccells p n vm N gv M w).all V.isCell) = true := by simp [hvc, hrc]
  rw [e157]
  refine WV_fin ?_
  simp [r157_0, r157_1, r157_2, r157_3, r157_4, r157_5, r157_6, r157_8, c157, box12 hall, hvc, hrc]
  refine W_loop (KdI p n vm N gv M w s z set sv zv stv m) ?_ set.length _ _ ⟨⟨0, [], .nils, by simp, by simp, by simp, by simp, by simp, by simp, by omega, by omega, List.prefix_append _ _, At.new1 _ _ _, .inl ⟨rfl, rfl⟩, Off.nils _, by simp, fun _ => by simp, fun _ => rfl⟩⟩
  rintro k e m' ⟨⟨i, out, outv, e1, e2, e3, e4, e9, e10, hi, hk, hpre, hA, hout, hoff, hol, ho1, ho2⟩⟩
  have w1 : IntKind.i64.wrap ((i : Int) + 1) = (i + 1 : Nat) := by rw [wrap64_in (by omega) (by omega)]; omega
  have hslen := (hs.pre hpre).len
  have hstl := (hst.pre hpre).len
  obtain ⟨_, _, _, _, _, c5, _⟩ := box_la9 hA
  by_cases hlt : i < set.length
  · by_cases hsw : s.length < w
    · obtain ⟨b1, o1, a1, a2⟩ := (hst.pre hpre).at (ix := i) (by omega) (by omega)
      rw [Int.toNat_natCast] at a2
      have htake : set.take (i + 1) = set.take i ++ [set.getD i 0] := by
        rw [List.take_add_one, List.getElem?_eq_getElem hlt, getElem_D hlt]; rfl
      simp [l157_7, r157_0, r157_1, r157_2, r157_3, r157_4, r157_5, r157_6, r157_8, c157, e1, e2, e3, e4, e9, e10, hstl, hlt, hslen, c5, hsw, a1, a2, -List.getD_eq_getElem?_getD]
      refine WR_bnd (isin_wv (hz.pre hpre) (by omega) fun q hq => ?_)
      cases q with
      | true =>
        simp [e10, w1, -Int.natCast_add]
        refine ⟨set.length - (i + 1), by omega, ⟨i + 1, out, outv, by simp [e1], by simp [e2], by simp [e3], by simp [e4], by simp [e9], by simp [-Int.natCast_add], by omega, rfl, hpre, hA, hout, hoff, by omega, fun _ => ?_, ho2⟩⟩
        rw [htake, List.filter_append, ← ho1 hsw, List.filter_cons_of_neg (by simp [-List.getD_eq_getElem?_getD]; exact hq.1 rfl)]; simp
      | false =>
        obtain ⟨v', m3, d1, d2, d3, d4, d5, d6⟩ := append22 (x := set.getD i 0) hout hpre (by omega)
        simp [e3, e9, e10, a1, a2, lit22, d1, w1, -Int.natCast_add, -List.getD_eq_getElem?_getD]
        refine ⟨set.length - (i + 1), by omega, ⟨i + 1, out ++ [set.getD i 0], v', by simp [e1], by simp [e2], by simp [e3], by simp [e4], by simp, by simp [-Int.natCast_add], by omega, rfl, d3, d5 _ _ hoff hA, d2, d6 _ (At.lt hA) hoff, by simp; omega, fun _ => ?_, fun h => (h hsw).elim⟩⟩
        have hnz : set.getD i 0 ∉ z := fun h => by have := hq.2 h; cases this
        rw [htake, List.filter_append, ← ho1 hsw, List.filter_cons_of_pos (by simpa [-List.getD_eq_getElem?_getD] using hnz)]; simp
    · simp [l157_7, r157_0, r157_1, r157_2, r157_3, r157_4, r157_5, r157_6, r157_8, c157, e1, e3, e4, e9, e10, hstl, hlt, hslen, c5, hsw]
      have : kidsL w s z set = out := by rw [kidsL, if_neg hsw, ho2 hsw]
      rw [this] at hQ
      exact hQ outv m' hpre hout
  · have hil : i = set.length := by omega
    subst hil
    simp [l157_7, r157_0, r157_1, r157_2, r157_3, r157_4, r157_5, r157_6, r157_8, c157, e1, e3, e4, e9, e10, hstl]
    have : kidsL w s z set = out := by
      rw [kidsL]
      by_cases hsw : s.length < w
      · rw [if_pos hsw, ho1 hsw, List.take_length]
      · rw [if_neg hsw, ho2 hsw]
    rw [this] at hQ
    exact hQ outv m' hpre hout
theorem kidsL_len (w : Nat) (s z set : List Int) : (kidsL w s z set).length ≤ set.length := by
  rw [kidsL]; split
  · exact List.length_filter_le _ _
  · simp
theorem Rows.tail {m : Mem} {v : V} {a : List Int} {l : List (List Int)} (h : Rows m v (a :: l)) : ∃ v', opSlice T 25 v (some (I 1)) none none = some v' ∧ Rows m v' l := by
  rcases h with ⟨_, h⟩ | ⟨_, h⟩ | ⟨b, o, c, ex, k, rfl, hb, h3, h4, h5⟩
  · cases h
  · cases h
  · simp only [List.length_cons] at h4 h5
    have e1 : (((l.length + 1 : Nat) : Int) - 1).toNat = l.length := by omega
    have e2 : ((c : Int) - 1).toNat = c - 1 := by omega
    refine ⟨.sl b (o + 1) l.length (c - 1) 1 ex, ?_, .inr (.inr ⟨b, o + 1, c - 1, ex, k, rfl, hb, h3, by omega, fun i hi => ?_⟩)⟩
    · have q1 : (0:Int) ≤ 1 := by omega
      have q2 : (1:Int) ≤ ((l.length + 1 : Nat) : Int) := by omega
      have q3 : ((l.length + 1 : Nat) : Int) ≤ c := by omega
      simp only [List.length_cons]
      simp [opSlice, T25, T22, optInt, q1, q2, q3, e1, e2, -Int.natCast_add]
    · obtain ⟨u, hu, hr⟩ := h5 (i + 1) (by omega)
      exact ⟨u, by rw [show o + 1 + i = o + (i + 1) by omega]; exact hu, by simpa using hr⟩
theorem Ints.take {m : Mem} {v : V} {l : List Int} {j : Nat} (h : Ints m v l) (hj : j < l.length) : ∃ v', opSlice T 22 v none (some (I j)) none = some v' ∧ Ints m v' (l.take j) := by
  rcases h with ⟨_, rfl⟩ | ⟨_, rfl⟩ | ⟨b, o, c, ex, k, rfl, hb, h3, h4, h5⟩
  · simp at hj
  · simp at hj
  · have hlt : (l.take j).length = j := by simp; omega
    refine ⟨.sl b o j c 1 ex, ?_, .inr (.inr ⟨b, o, c, ex, k, by rw [hlt], hb, h3, by omega, fun i hi => ?_⟩)⟩
    · have := slice22_hi (b := b) (o := o) (n := l.length) (c := c) (ex := ex) (a := (j : Int)) (by omega) (by omega)
      simpa using this
    · rw [hlt] at hi
      obtain ⟨u, hu, hr⟩ := h5 i (by omega)
      exact ⟨u, hu, by simpa using hr⟩
theorem loopK_suf {g : List Int → List Int → List (List Int) → Option (List (List Int))} {s : List Int} : ∀ (ks z : List Int) (rest r : List (List Int)), (∀ s z rest r, g s z rest = some r → r <:+ rest) → loopK g s z ks rest = some r → r <:+ rest
  | [], z, rest, r, hg, h => by simp only [loopK, Option.some.injEq] at h; subst h; exact List.suffix_refl _
  | k :: ks, z, rest, r, hg, h => by
    rw [loopK] at h
    cases e : g (s ++ [k]) z rest with
    | none => rw [e] at h; cases h
    | some r' =>
      rw [e] at h
      exact (loopK_suf ks _ r' r hg h).trans (hg _ _ _ _ e)
theorem foll_suf {F : Ff} {gen : List (List Int)} {N M : Int} {w : Nat} : ∀ (fu : Nat) (s z : List Int) (sets r : List (List Int)), foll F gen N M w fu s z sets = some r → r <:+ sets
  | 0, _, _, _, _, h => by cases h
  | fu + 1, s, z, [], r, h => by cases h
  | fu + 1, s, z, set :: rest, r, h => by
    unfold foll at h
    split at h
    · exact (loopK_suf _ _ _ _ (fun s z rest r h => foll_suf fu s z rest r h) h).trans (List.suffix_cons _ _)
    · cases h
theorem suf_rows {a b : List (List Int)} {n : Nat} (h : a <:+ b) (hb : ∀ i, i < b.length → (rw_ b i).length ≤ n) : ∀ i, i < a.length → (rw_ a i).length ≤ n := by
  obtain ⟨g, rfl⟩ := h
  intro i hi
  have := hb (g.length + i) (by simp; omega)
  have e : rw_ (g ++ a) (g.length + i) = rw_ a i := by
    rw [rw_, rw_, List.getD_eq_getElem?_getD, List.getD_eq_getElem?_getD, List.getElem?_append_right (by omega), Nat.add_sub_cancel_left]
  rwa [e] at this
structure FlI (f : Fd) (vm gv : V) (t : Nat) (gen : List (List Int)) (M : Int) (w fu : Nat) (s z kids : List Int) (sv zv kv : V) (L : List (List Int)) (m3 : Mem) (m : Mem) (R : Option (List (List Int))) (k : Nat) (e : Env) (m' : Mem) : Prop where
  d : ∃ (j : Nat) (rest : Option (List (List Int))) (rv : V) (ok : Bool), e 1 = sv ∧ e 2 = zv ∧ e 4 = .ptr m.length 0 ∧ e 10 = kv ∧ e 11 = rv ∧ e 12 = .bool ok ∧ e 13 = I j ∧ j ≤ kids.length ∧ kids.length - j = k ∧ Pre m m' ∧ Pre m3 m' ∧ At m' m.length (ccells f.p f.n vm t gv M w) 2 ∧
    ((ok = false ∧ rest = none ∧ R = none) ∨ ∃ r, ok = true ∧ rest = some r ∧ Rows m' rv r ∧ r <:+ L ∧ loopK (foll f.F gen t M w fu) s (z ++ kids.take j) (kids.drop j) r = R)
theorem follow_wv {f : Fd} {vm gv : V} {M : Int} {t w : Nat} {gen : List (List Int)} (hf : f.Ok) (hM : f.F.Mat gen t) (hgl : gen.length ≤ 256) (ht : t ≤ 64) (hw : w ≤ 64) : ∀ (fu : Nat) (s z : List Int) (sets : List (List Int)) (sv zv setsv : V) (m : Mem) (Q : V → Mem → Prop),
    Ints m vm f.mod → Rows m gv gen → Rows m setsv sets → Ints m sv s → Ints m zv z → s.length ≤ w → z.length ≤ 64 * s.length → sets.length < fu → (∀ i, i < sets.length → (rw_ sets i).length ≤ 17592186044416) →
    (∀ v m', Pre m m' → foll f.F gen t M w fu s z sets = none → Q (.tup [v, .bool false]) m') → (∀ v r m', Pre m m' → Rows m' v r → foll f.F gen t M w fu s z sets = some r → Q (.tup [v, .bool true]) m') →
    WV (DD 133 [.agg (ccells f.p f.n vm (t : Int) gv M w), sv, zv, setsv] m) Q
  | 0, s, z, sets, sv, zv, setsv, m, Q, hv, hr, hss, hs, hz, hsl, hzl, hfu, hssl, h1, h2 => by omega
  | fu + 1, s, z, sets, sv, zv, setsv, m, Q, hv, hr, hss, hs, hz, hsl, hzl, hfu, hssl, h1, h2 => by
    have hv0 := hv
    have hvc := hv.cell
    have hrc := hr.cell
    have hall : ((ccells f.p f.n vm (t : Int) gv M w).all V.isCell) = true := by simp [hvc, hrc]
    rw [e133]
    refine WV_fin ?_
    have hp0 := List.prefix_append m ([⟨ccells f.p f.n vm (t : Int) gv M w, 2⟩] : Mem)
    have hA := At.new1 m (ccells f.p f.n vm (t : Int) gv M w) 2
    obtain ⟨c0, c1, c2, c3, c4, c5, c6⟩ := box_la9 hA
    have hlen := (hss.pre hp0).len
    match sets, hss, hfu, hssl, h1, h2, hlen with
    | [], hss, hfu, hssl, h1, h2, hlen =>
      simp at hlen
      simp [r133_0, r133_1, r133_2, r133_3, r133_4, r133_5, r133_6, r133_7, r133_8, r133_9, r133_11, c133, box12 hall, hvc, hrc, hlen, packV]
      exact h1 _ _ hp0 rfl
    | set :: rest, hss, hfu, hssl, h1, h2, hlen =>
      simp at hlen hfu
      obtain ⟨b1, o1, u, a1, a2, a3⟩ := (hss.pre hp0).at (ix := 0) (by omega) (by simp)
      have a3 : Ints (m ++ [⟨ccells f.p f.n vm (t : Int) gv M w, 2⟩]) u set := a3
      have hsetl := hssl 0 (by simp)
      have hsetl : set.length ≤ 17592186044416 := hsetl
      have hne : ¬ ((rest.length : Int) + 1 = 0) := by omega
      simp [r133_0, r133_1, r133_2, r133_3, r133_4, r133_5, r133_6, r133_7, r133_8, r133_9, r133_11, c133, box12 hall, hvc, hrc, hlen, hne, a1, a2]
      refine WR_bnd (rright_wv hf (hv.pre hp0) (hr.pre hp0) hM hgl ht (hs.pre hp0) (by omega) a3 hsetl fun b m2 hp2 hb => ?_)
      have hA2 := Pre.at hp2 hA
      obtain ⟨d0, d1, d2, d3, d4, d5, d6⟩ := box_la9 hA2
      cases b with
      | false =>
        simp [packV]
        refine h1 _ m2 (hp0.trans hp2) ?_
        exact if_neg (fun h => by have := hb.2 h; cases this)
      | true =>
        have hRt := hb.1 rfl
        have hfo : foll f.F gen t M w (fu + 1) s z (set :: rest) = loopK (foll f.F gen t M w fu) s z (kidsL w s z set) rest := if_pos hRt
        have hset64 : set.length ≤ 64 := by have := hRt.len (by omega); omega
        have a2' : lc m2 b1 o1 = some u := by
          obtain ⟨gg, rfl⟩ := hp2
          exact lc_up a2 gg
        simp [d1, a1, a2']
        refine WR_bnd (kids_wv hvc hrc ((hs.pre hp0).pre hp2) ((hz.pre hp0).pre hp2) (a3.pre hp2) (by omega) (by omega) (by omega) fun kv m3 hp3 hk3 => ?_)
        obtain ⟨tv, t1, t2⟩ := ((hss.pre hp0).pre (hp2.trans hp3)).tail
        have hkl := kidsL_len w s z set
        generalize hkids : kidsL w s z set = kids at *
        have hp03 : Pre m m3 := hp0.trans (hp2.trans hp3)
        have hA3 := Pre.at hp3 hA2
        simp [t1]
        refine W_loop (FlI f vm gv t gen M w fu s z kids sv zv kv rest m3 m (foll f.F gen t M w (fu + 1) s z (set :: rest))) ?_ kids.length _ _ ⟨⟨0, some rest, tv, true, by simp, by simp, by simp, by simp, by simp, by simp, by simp, by omega, by omega, hp03, List.prefix_refl _, hA3, .inr ⟨rest, rfl, rfl, t2, List.suffix_refl _, by rw [hfo]; simp⟩⟩⟩
        have hkI3 := hk3.ints
        have hkw : kids ≠ [] → s.length < w := by
          intro h
          rw [← hkids, kidsL] at h
          by_cases hh : s.length < w
          · exact hh
          · rw [if_neg hh] at h; exact (h rfl).elim
        have hssl' : ∀ i, i < rest.length → (rw_ rest i).length ≤ 17592186044416 := suf_rows (List.suffix_cons set rest) hssl
        clear hssl hlen a1 a2 a2' a3 hA hA2 hA3 hp0 hp2 hp3 hk3 t1 t2
        clear d0 d1 d2 d3 d4 d5 d6 c0 c1 c2 c3 c4 c5 c6
        rintro kq e m' ⟨⟨j, orest, rv, ok, e1, e2, e4, e10, e11, e12, e13, hj, hkq, hpre, hpre3, hA', hst⟩⟩
        have hkl64 : kids.length ≤ 64 := by omega
        have w1 : IntKind.i64.wrap ((j : Int) + 1) = (j + 1 : Nat) := by rw [wrap64_in (by omega) (by omega)]; omega
        have hkI := hkI3.pre hpre3
        have hklen := hkI.len
        rcases hst with ⟨rfl, rfl, hR⟩ | ⟨r, rfl, rfl, hrr, hrs, hR⟩
        · by_cases hlt : j < kids.length
          · simp [l133_10, r133_0, r133_1, r133_2, r133_3, r133_4, r133_5, r133_6, r133_7, r133_8, r133_9, r133_11, c133, e10, e11, e12, e13, hklen, hlt, packV]
            exact h1 rv m' hpre hR
          · simp [l133_10, r133_0, r133_1, r133_2, r133_3, r133_4, r133_5, r133_6, r133_7, r133_8, r133_9, r133_11, c133, e10, e11, e12, e13, hklen, hlt, packV]
            exact h1 rv m' hpre hR
        by_cases hlt : j < kids.length
        · obtain ⟨d0, d1, _, _, _, _, _⟩ := box_la9 hA'
          obtain ⟨b1, o1, a1, a2⟩ := hkI.at (ix := j) (by omega) (by omega)
          rw [Int.toNat_natCast] at a2
          have hdrop : kids.drop j = kids.getD j 0 :: kids.drop (j + 1) := by
            rw [List.drop_eq_getElem_cons hlt, getElem_D hlt]
          have htake : kids.take (j + 1) = kids.take j ++ [kids.getD j 0] := by
            rw [List.take_add_one, List.getElem?_eq_getElem hlt, getElem_D hlt]; rfl
          have hsw := hkw (fun h => by rw [h] at hlt; simp at hlt)
          generalize hv : kids.getD j 0 = v at *
          rw [hdrop, loopK] at hR
          simp [l133_10, r133_0, r133_1, r133_2, r133_3, r133_4, r133_5, r133_6, r133_7, r133_8, r133_9, r133_11, c133, e1, e2, e4, e10, e11, e12, e13, hklen, hlt, a1, a2, d1, lit22]
          have hpl := List.prefix_append m' ([⟨[I v], 2⟩] : Mem)
          have hlit : Ints (m' ++ [⟨[I v], 2⟩]) (.sl m'.length 0 1 1 1 true) [v] := FreshA.ints (m0 := m') (.inr ⟨m'.length, true, rfl, Nat.le_refl _, At.new1 _ _ _⟩)
          refine WR_bnd (with_wv (((hs.pre hpre)).pre hpl) hlit (by omega) (by simp) fun v4 m4 hp4 hk4 => ?_)
          obtain ⟨tkv, tk1, tk2⟩ := (hkI.pre (hpl.trans hp4)).take (j := j) hlt
          simp [chkd_of hp4, tk1]
          refine WR_bnd (with_wv ((hz.pre hpre).pre (hpl.trans hp4)) tk2 (by omega) (by simp; omega) fun v5 m5 hp5 hk5 => ?_)
          have hp5' : Pre m' m5 := hpl.trans (hp4.trans hp5)
          simp [chkd_of hp5]
          refine WR_bnd (follow_wv hf hM hgl ht hw fu (s ++ [v]) (z ++ kids.take j) r v4 v5 rv m5 _ ((hv0.pre hpre).pre hp5') ((hr.pre hpre).pre hp5') (hrr.pre hp5') (hk4.ints.pre hp5) hk5.ints (by simp; omega) (by simp; omega) (by have := hrs.length_le; omega) (suf_rows hrs hssl') (fun v6 m6 hp6 hnone => ?_) fun v6 r6 m6 hp6 hr6 hsome => ?_)
          · rw [hnone] at hR
            simp [e13, w1, -Int.natCast_add]
            exact ⟨kids.length - (j + 1), by omega, ⟨j + 1, none, v6, false, by simp [e1], by simp [e2], by simp [e4], by simp [e10], by simp, by simp, by simp [-Int.natCast_add], by omega, rfl, hpre.trans (hp5'.trans hp6), hpre3.trans (hp5'.trans hp6), Pre.at (hp5'.trans hp6) hA', .inl ⟨rfl, rfl, hR.symm⟩⟩⟩
          · rw [hsome] at hR
            simp [e13, w1, -Int.natCast_add]
            exact ⟨kids.length - (j + 1), by omega, ⟨j + 1, some r6, v6, true, by simp [e1], by simp [e2], by simp [e4], by simp [e10], by simp, by simp, by simp [-Int.natCast_add], by omega, rfl, hpre.trans (hp5'.trans hp6), hpre3.trans (hp5'.trans hp6), Pre.at (hp5'.trans hp6) hA', .inr ⟨r6, rfl, rfl, hr6, (foll_suf _ _ _ _ _ hsome).trans hrs, by rw [htake, ← List.append_assoc]; exact hR⟩⟩⟩
        · have hil : j = kids.length := by omega
          subst hil
          rw [List.drop_eq_nil_of_le (Nat.le_refl _), loopK] at hR
          simp [l133_10, r133_0, r133_1, r133_2, r133_3, r133_4, r133_5, r133_6, r133_7, r133_8, r133_9, r133_11, c133, e10, e11, e12, e13, hklen, packV]
          exact h2 rv r m' hpre hrr hR.symm
end Go.Proofs.YtefjnnghfloddaaGreat.Abs

/- Specifications: a proof of a distance is checked by the reference. -/
namespace Go.Proofs.YtefjnnghfloddaaGreat.Abs
set_option linter.unusedVariables false
set_option linter.unusedSimpArgs false
set_option linter.unusedSectionVars false
open Ff
theorem build130 {p n vm N gv M w : V} (h : ([p, n, vm, N, gv, M, w].all V.isCell) = true) : opBuild T 130 [(0, .agg [p, n, vm, N, gv]), (1, M), (2, w)] = some (.agg [p, n, vm, N, gv, M, w, .nils, .bool false]) := by
  simp at h
  obtain ⟨h1, h2, h3, h4, h5, h6, h7⟩ := h
  have hc : ∀ v : V, v.isCell = true → v.cells = [v] := fun v hv => by cases v <;> simp [V.cells, V.isCell] at hv ⊢
  have h0 : (V.agg [p, n, vm, N, gv]).cells = [p, n, vm, N, gv] := rfl
  simp [opBuild, T130, T27, T22, T4, T3, T25, placeOf, fillA, put, h0, hc _ h6, hc _ h7, h1, h2, h3, h4, h5, h6, h7]
theorem rproves_wv {f : Fd} {vm gv setsv : V} {M : Int} {t w : Nat} {gen sets : List (List Int)} {m : Mem} {Q : V → Mem → Prop} (hf : f.Ok) (hM : f.F.Mat gen t) (hgl : gen.length ≤ 256) (ht : t ≤ 64) (hw : w ≤ 64) (hv : Ints m vm f.mod) (hr : Rows m gv gen) (hs : Rows m setsv sets) (hssl : ∀ i, i < sets.length → (rw_ sets i).length ≤ 17592186044416)
    (hQ : ∀ m', Pre m m' → Q (I (treeE f.F gen t M w sets)) m') : WV (DD 100 [.agg (ccells f.p f.n vm (t : Int) gv M w), .agg [setsv]] m) Q := by
  have hvc := hv.cell
  have hrc := hr.cell
  have hsc := hs.cell
  have hall : ((ccells f.p f.n vm (t : Int) gv M w).all V.isCell) = true := by simp [hvc, hrc]
  rw [e100]
  refine WV_fin ?_
  have hp0 := List.prefix_append m ([⟨ccells f.p f.n vm (t : Int) gv M w, 2⟩, ⟨[setsv], 2⟩] : Mem)
  have hA : At (m ++ [⟨ccells f.p f.n vm (t : Int) gv M w, 2⟩, ⟨[setsv], 2⟩]) m.length (ccells f.p f.n vm (t : Int) gv M w) 2 := by simp [At]
  have hB : At (m ++ [⟨ccells f.p f.n vm (t : Int) gv M w, 2⟩, ⟨[setsv], 2⟩]) (m.length + 1) [setsv] 2 := by simp [At]
  obtain ⟨c0, c1, c2, c3, c4, c5, c6⟩ := box_la9 hA
  have hlb : lc (m ++ [⟨ccells f.p f.n vm (t : Int) gv M w, 2⟩, ⟨[setsv], 2⟩]) (m.length + 1) 0 = some setsv := by rw [lc_at hB (by omega)]; rfl
  simp [r100_0, r100_1, r100_2, r100_3, r100_4, c100, box12 hall, hvc, hrc, hsc, c1, hlb, -lc_app, -lc_app0]
  refine WR_bnd (follow_wv hf hM hgl ht hw (sets.length + 1) [] [] sets .nils .nils setsv _ _ (hv.pre hp0) (hr.pre hp0) (hs.pre hp0) (.inl ⟨rfl, rfl⟩) (.inl ⟨rfl, rfl⟩) (by simp) (by simp) (by omega) hssl (fun v m' hp hnone => ?_) fun v r m' hp hrr hsome => ?_)
  · have hE : treeE f.F gen t M w sets = 13 := by rw [treeE, if_neg (by rw [hnone]; simp)]
    have hQ1 := hQ m' (hp0.trans hp)
    rw [hE] at hQ1
    simp
    exact hQ1
  · have hQ1 := hQ m' (hp0.trans hp)
    have hlr := hrr.len
    by_cases hr0 : r = []
    · subst hr0
      rw [treeE, if_pos hsome] at hQ1
      simp at hlr
      simp [hlr]
      exact hQ1
    · rw [treeE, if_neg (by rw [hsome]; simpa using hr0)] at hQ1
      have : 0 < r.length := List.length_pos_iff.2 hr0
      simp [hlr, this]
      exact hQ1
theorem rrank_wv {f : Fd} {cv : V} {N : Nat} {gen : List (List Int)} {M w : Int} {m : Mem} {Q : V → Mem → Prop} (hc : CodeOk m cv f N gen)
    (hQ : ∀ m', Pre m m' → Q (I (if M < 0 ∨ (gen.length : Int) < M ∨ w < 0 ∨ (N : Int) < w then 6 else 0)) m') : WV (DD 99 [cv, I M, I w] m) Q := by
  obtain ⟨g1, g2, g3, g4, g5, g6, vm, gv, rfl, g8, g9⟩ := hc
  have hvc := g8.cell
  have hrc := g9.cell
  rw [e99]
  refine WV_fin ?_
  have hp0 := List.prefix_append m ([⟨[I f.p, I f.n, vm, I N, gv], 2⟩] : Mem)
  have hA := At.new1 m [I f.p, I f.n, vm, I N, gv] 2
  obtain ⟨c0, c1, c2, c3⟩ := box_la5 hA
  simp [r99_0, r99_1, r99_2, r99_3, r99_4, c99, hvc, hrc, c1]
  refine WR_bnd (rcodeCheck_wv (g8.pre hp0) (g9.pre hp0) fun m1 hp1 => ?_)
  have hA1 := Pre.at hp1 hA
  obtain ⟨d0, d1, d2, d3⟩ := box_la5 hA1
  have hgl := ((g9.pre hp0).pre hp1).len
  have hQ1 := hQ m1 (hp0.trans hp1)
  rw [g6]
  by_cases q1 : M < 0
  · rw [if_pos (.inl q1)] at hQ1
    simp [q1]; exact hQ1
  by_cases q2 : (gen.length : Int) < M
  · rw [if_pos (.inr (.inl q2))] at hQ1
    simp [q1, q2, d3, hgl]; exact hQ1
  by_cases q3 : w < 0
  · rw [if_pos (.inr (.inr (.inl q3)))] at hQ1
    simp [q1, q2, q3, d3, hgl]; exact hQ1
  by_cases q4 : (N : Int) < w
  · rw [if_pos (.inr (.inr (.inr q4)))] at hQ1
    simp [q1, q2, q3, q4, d2, d3, hgl]; exact hQ1
  rw [if_neg (by omega)] at hQ1
  simp [q1, q2, q3, q4, d2, d3, hgl]; exact hQ1
theorem rcheckRank_wv {f : Fd} {cv setsv : V} {N : Nat} {gen sets : List (List Int)} {M w : Int} {m : Mem} {Q : V → Mem → Prop} (hc : CodeOk m cv f N gen) (hs : Rows m setsv sets) (hssl : ∀ i, i < sets.length → (rw_ sets i).length ≤ 17592186044416)
    (hQ : ∀ m', Pre m m' → Q (I (if M < 0 ∨ (gen.length : Int) < M ∨ w < 0 ∨ (N : Int) < w then 6 else treeE f.F gen N M w.toNat sets)) m') : WV (DD 64 [cv, I M, I w, .agg [setsv]] m) Q := by
  have hc' := hc
  obtain ⟨g1, g2, g3, g4, g5, g6, vm, gv, rfl, g8, g9⟩ := hc
  have hvc := g8.cell
  have hrc := g9.cell
  have hsc := hs.cell
  rw [e64]
  refine WV_fin ?_
  have hp0 := List.prefix_append m ([⟨[I f.p, I f.n, vm, I N, gv], 2⟩, ⟨[setsv], 2⟩] : Mem)
  have hA : At (m ++ [⟨[I f.p, I f.n, vm, I N, gv], 2⟩, ⟨[setsv], 2⟩]) m.length [I f.p, I f.n, vm, I N, gv] 2 := by simp [At]
  have hB : At (m ++ [⟨[I f.p, I f.n, vm, I N, gv], 2⟩, ⟨[setsv], 2⟩]) (m.length + 1) [setsv] 2 := by simp [At]
  simp [r64_0, r64_1, r64_2, r64_3, r64_4, c64, hvc, hrc, hsc]
  refine WR_bnd (rrank_wv (hc'.pre hp0) fun m1 hp1 => ?_)
  have hQ1 := fun m2 (hp2 : Pre m1 m2) => hQ m2 (hp0.trans (hp1.trans hp2))
  by_cases hbad : M < 0 ∨ (gen.length : Int) < M ∨ w < 0 ∨ (N : Int) < w
  · rw [if_pos hbad] at hQ1
    rw [if_pos hbad]
    simp
    exact hQ1 m1 (List.prefix_refl _)
  · rw [if_neg hbad] at hQ1
    rw [if_neg hbad]
    have hB1 : At m1 (m.length + 1) [setsv] 2 := Pre.at hp1 hB
    have hlb : la 1 m1 (m.length + 1) 0 = some (.agg [setsv]) := by rw [la, hB1]; simp
    obtain ⟨d0, d1, d2, d3⟩ := box_la5 (Pre.at hp1 hA)
    have hall : ([I f.p, I f.n, vm, I N, gv, I M, I w].all V.isCell) = true := by simp [hvc, hrc]
    obtain ⟨w', rfl⟩ : ∃ w' : Nat, w = w' := ⟨w.toNat, by omega⟩
    simp [hlb, d1, build130 hall]
    refine WR_bnd (rproves_wv g1 g4 g5 g3 (by omega) ((g8.pre hp0).pre hp1) ((g9.pre hp0).pre hp1) ((hs.pre hp0).pre hp1) hssl fun m2 hp2 => ?_)
    simp
    exact hQ1 m2 hp2
theorem rcheckDistance_wv {f : Fd} {cv setsv : V} {N : Nat} {gen sets : List (List Int)} {d : Int} {m : Mem} {Q : V → Mem → Prop} (hc : CodeOk m cv f N gen) (hs : Rows m setsv sets) (hd : -9223372036854775808 ≤ d ∧ d ≤ 9223372036854775807) (hssl : ∀ i, i < sets.length → (rw_ sets i).length ≤ 17592186044416)
    (hQ : ∀ m', Pre m m' → Q (I (distE f.F gen N d sets)) m') : WV (DD 31 [cv, I d, .agg [setsv]] m) Q := by
  have hc' := hc
  obtain ⟨g1, g2, g3, g4, g5, g6, vm, gv, rfl, g8, g9⟩ := hc
  have hvc := g8.cell
  have hrc := g9.cell
  have hsc := hs.cell
  rw [e31]
  refine WV_fin ?_
  have hp0 := List.prefix_append m ([⟨[I f.p, I f.n, vm, I N, gv], 2⟩, ⟨[setsv], 2⟩] : Mem)
  have hA : At (m ++ [⟨[I f.p, I f.n, vm, I N, gv], 2⟩, ⟨[setsv], 2⟩]) m.length [I f.p, I f.n, vm, I N, gv] 2 := by simp [At]
  have hB : At (m ++ [⟨[I f.p, I f.n, vm, I N, gv], 2⟩, ⟨[setsv], 2⟩]) (m.length + 1) [setsv] 2 := by simp [At]
  simp [r31_0, r31_1, r31_2, r31_3, r31_4, r31_5, r31_6, c31, hvc, hrc, hsc]
  refine WR_bnd (rcodeCheck_wv (g8.pre hp0) (g9.pre hp0) fun m1 hp1 => ?_)
  rw [g6]
  have hB1 : At m1 (m.length + 1) [setsv] 2 := Pre.at hp1 hB
  have hlb : la 1 m1 (m.length + 1) 0 = some (.agg [setsv]) := by rw [la, hB1]; simp
  obtain ⟨d0, d1, d2, d3⟩ := box_la5 (Pre.at hp1 hA)
  have hgl := ((g9.pre hp0).pre hp1).len
  have w1 : IntKind.i64.wrap ((N : Int) + 1) = N + 1 := wrap64_in (by omega) (by omega)
  have hQ1 := fun m2 (hp2 : Pre m1 m2) => hQ m2 (hp0.trans (hp1.trans hp2))
  have hQ2 := hQ1 m1 (List.prefix_refl _)
  by_cases h1 : d < 1
  · rw [distE, if_pos (.inl h1)] at hQ2
    simp [h1]; exact hQ2
  by_cases h2 : (N : Int) + 1 < d
  · rw [distE, if_pos (.inr h2)] at hQ2
    simp [h1, h2, w1, d2]; exact hQ2
  have w2 : IntKind.i64.wrap (d - 1) = d - 1 := wrap64_in (by omega) (by omega)
  simp [h1, h2, w1, w2, d1, d2, d3, hgl, hlb]
  refine WR_bnd (rcheckRank_wv ((hc'.pre hp0).pre hp1) ((hs.pre hp0).pre hp1) hssl fun m2 hp2 => ?_)
  have hQ3 := hQ1 m2 hp2
  rw [distE, if_neg (by omega), show (d - 1).toNat = d.toNat - 1 by omega] at hQ3
  rw [if_neg (by omega)]
  simp
  exact hQ3
end Go.Proofs.YtefjnnghfloddaaGreat.Abs
