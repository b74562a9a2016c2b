/- A part of a proof of a law of the store, without conditions: its texts are: Sa Sb Sc Sd. -/
import Derived.Test.YtefjnnghfloddaaGreatGj
/- The ring of the nodes, in plain Lean. -/
namespace Go.Proofs.YtefjnnghfloddaaGreat.Abs
set_option linter.unusedVariables false
set_option linter.unusedSimpArgs false
set_option linter.unusedSectionVars false
structure RkOk (racks : List Int) : Prop where
  l1 : 1 ≤ racks.length
  l2 : racks.length ≤ 64
  pos : ∀ i, i < racks.length → 1 ≤ racks.getD i 0
  sum : ∀ i, i ≤ racks.length → psum racks i ≤ 256
theorem cfgE_ok {p n : Int} {mod : List Int} {N : Int} {gen : List (List Int)} {d : Int} {sets : List (List Int)} {racks : List Int} {wd : Int} (h : cfgE p n mod N gen d sets racks wd = 0) :
    codeE p n mod N gen = 0 ∧ gen.length ≠ 0 ∧ distE ⟨p, n.toNat, mod⟩ gen N d sets = 0 ∧ 1 ≤ wd ∧ wd ≤ 16 ∧ RkOk racks ∧ N ≤ psum racks racks.length := by
  unfold cfgE at h
  split at h
  · rename_i h0; exact (h0 h).elim
  rename_i h0
  split at h
  · omega
  rename_i h1
  split at h
  · rename_i h2; exact (h2 h).elim
  rename_i h2
  split at h
  · omega
  split at h
  · omega
  rename_i h4
  split at h
  · omega
  rename_i h5
  split at h
  · omega
  rename_i h6
  simp only [not_or, not_exists, not_and] at h4 h5
  obtain ⟨a1, a2, a3, a4, a5⟩ := h4
  have hpos : ∀ i, i < racks.length → 1 ≤ racks.getD i 0 := fun i hi => by have := a5 i hi; omega
  refine ⟨Classical.byContradiction h0, h1, Classical.byContradiction h2, by omega, by omega, ⟨by omega, by omega, hpos, fun i hi => ?_⟩, by omega⟩
  cases i with
  | zero => have : psum racks 0 = 0 := rfl
            omega
  | succ i => have := h5 i (by omega)
              omega
end Go.Proofs.YtefjnnghfloddaaGreat.Abs

/- Specifications: Max, the program's ring, at. -/
namespace Go.Proofs.YtefjnnghfloddaaGreat.Abs
set_option linter.unusedVariables false
set_option linter.unusedSimpArgs false
set_option linter.unusedSectionVars false
def c2 (l : List (Int × Int)) : List V := l.flatMap fun x => [I x.1, I x.2]
end Go.Proofs.YtefjnnghfloddaaGreat.Abs

/- Specifications: the reference's ring; Place. -/
namespace Go.Proofs.YtefjnnghfloddaaGreat.Abs
set_option linter.unusedVariables false
set_option linter.unusedSimpArgs false
set_option linter.unusedSectionVars false
theorem codeN {p n N : Int} {mod : List Int} {gen : List (List Int)} (h : codeE p n mod N gen = 0) : 1 ≤ N ∧ N ≤ 64 := by
  unfold codeE at h
  split at h
  · omega
  split at h
  · omega
  omega
end Go.Proofs.YtefjnnghfloddaaGreat.Abs

/- Specifications: the law StorePlaces. -/
namespace Go.Proofs.YtefjnnghfloddaaGreat.Abs
set_option linter.unusedVariables false
set_option linter.unusedSimpArgs false
set_option linter.unusedSectionVars false
theorem fit_wv {p n N d wd : Int} {vm gv sv rv : V} {L : Nat} {m : Mem} {Q : V → Mem → Prop} (h : ([vm, gv, sv, rv].all V.isCell) = true) (hl : opLen T 25 sv = some (I L)) (hQ : ∀ m', Pre m m' → Q (.bool (decide (L ≤ 300 ∧ N ≤ 8))) m') : WV (DD 12 [.agg (gcells p n vm N gv d sv rv wd)] m) Q := by
  simp at h
  obtain ⟨h1, h2, h3, h4⟩ := h
  have hall : ((gcells p n vm N gv d sv rv wd).all V.isCell) = true := by simp [h1, h2, h3, h4]
  rw [e12]
  refine WV_fin ?_
  have hp0 := List.prefix_append m ([⟨gcells p n vm N gv d sv rv wd, 2⟩] : Mem)
  have hA := At.new1 m (gcells p n vm N gv d sv rv wd) 2
  have hQ1 := hQ _ hp0
  obtain ⟨d0, d1, d2, d3, d4, d5, d6, d7, d8⟩ := box_la9g hA
  simp only [r12_0, r12_1, c12, box12 hall]
  simp [r12_0, r12_1, c12, box12 hall, h1, h2, h3, h4]
  generalize hm : m ++ [⟨gcells p n vm N gv d sv rv wd, 2⟩] = m0 at *
  by_cases hL : (L : Int) ≤ 300
  · have hL' : L ≤ 300 := by omega
    by_cases hN : N ≤ 8
    · simp [hl, hL, d2, hN]; simpa [hL', hN] using hQ1
    · simp [hl, hL, d2, hN]; simpa [hL', hN] using hQ1
  · have hL' : ¬ L ≤ 300 := by omega
    simp [hl, hL]
    simpa [hL'] using hQ1
end Go.Proofs.YtefjnnghfloddaaGreat.Abs
