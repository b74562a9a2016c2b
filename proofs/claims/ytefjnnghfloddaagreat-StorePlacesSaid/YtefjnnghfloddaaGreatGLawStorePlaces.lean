/- Proved: the statement StorePlacesSaid: whatever configuration, stripe and block it is given, the law StorePlaces returns true and leaves its arguments as they were. Conditions: none. -/
import Derived.Test.YtefjnnghfloddaaGreatRows
import Derived.Test.YtefjnnghfloddaaGreatGk
import Derived.Test.YtefjnnghfloddaaGreatGj
import Derived.WalkKit
import Derived.ProofKit
import Derived.OpenShut
import Derived.ShutString
import Derived.ChangeOld
import Derived.Below
import Derived.Carry
import Derived.SizedLaws
namespace Go.Proofs.YtefjnnghfloddaaGreat.storePlaces
open Go.ChangeShapes Go.WideShapes Go.ChangeAt Go.RowKit
open Go.Proofs.YtefjnnghfloddaaGreat.Abs (WV DD Ld Lds lds_cfg Sized gcells storePlaces_wv calls_of CfgAt RelL Rel belL Rng)
set_option linter.unusedVariables false
set_option linter.unusedSimpArgs false

theorem own : ownKnob Tryz.prog.godebug = none := by kernel_rfl
theorem laidOut : laidOutB Tryz.prog = true := by kernel_rfl
theorem walk {H : Type} {enc : TypeId × Value → H} {W : World} {cs : Array Value} {fuel : Nat} {d : DataW H} {p : List MemPlace} {s b : Int} (h : DataW.trod enc Tryz.prog W 0 (fun _ => true) true fuel 31 cs.toList = some (d, p)) (hs : Sized 31 d) (hw1 : (Lit.int .i64 s).wf = true) (hw2 : (Lit.int .i64 b).wf = true) :
    Calls Tryz.prog 4 #[.agg cs, .int .i64 s, .int .i64 b] W fun e w' => e = .returned (.bool true) ∧ Below W.heap.size W w' := by
  obtain ⟨pp, n, mod, N, gen, dd, sets, racks, wd, hd, hN, hb, hl⟩ := lds_cfg h
  obtain ⟨hb1, hb2⟩ := hb hs
  obtain ⟨ρ, m, vs, _, _, hL, hR, hbel, hcell, vm, gv, sv, rv, rfl, hvm, hgv, hsv, hrv⟩ := hl _ _ (Ld.empty W)
  simp only [List.all_cons, List.all_nil, Bool.and_true, Bool.and_eq_true] at hcell
  have hs2 : s ≤ 9223372036854775807 := by simp [Lit.wf] at hw1; exact hw1.2
  refine calls_of (vs := [.agg (gcells pp n vm N gv dd sv rv wd), .int .i64 s, .int .i64 b]) hL ?_ ?_ (storePlaces_wv (mod := mod) (gen := gen) (racks := racks) ?_ hsv.len (fun hs3 => ⟨hvm, hgv, hsv, hrv, hd, by omega, hb2⟩) hs2 fun m' hp => rfl)
  · simp only [RelL, Rel]
    exact ⟨_, _, rfl, ⟨cs, rfl, hR⟩, _, _, rfl, rfl, _, _, rfl, rfl, rfl⟩
  · simp only [belL, Go.Proofs.YtefjnnghfloddaaGreat.Abs.V.bel]
    exact ⟨hbel, trivial, trivial, trivial⟩
  · simp [hvm.cell, hgv.cell, hsv.cell, hrv.cell]

set_option maxRecDepth 100000 in
theorem lifted (os : Os) (started : os.Started) (H : Type) (enc : TypeId × Value → H) :
    ReturnsInHanded {} Tryz.checked os 4 .any (Rows.storePlacesSpec.pre6 enc Tryz.prog Tryz.f4 Rows.storePlacesRow.domain false) (Rows.storePlacesSpec.post enc Tryz.prog Tryz.f4 false true false false) := by
  refine returnsInHanded_of_change_sized (C := Tryz.checked) own started (by kernel_rfl) Tryz.func4
    (ChangeSpec.witness6 (enc := enc) (C := Tryz.checked) false ⟨#[], #[.agg #[.int .i64 0, .int .i64 0, .slice none 0 0, .int .i64 0, .slice none 0 0, .int .i64 0, .slice none 0 0, .slice none 0 0, .int .i64 0], .int .i64 0, .int .i64 0], []⟩ 8 (by kernel_rfl) (by kernel_rfl) (by kernel_rfl) (by kernel_rfl)) ?_
  intro W base args ds gs before hval0 hW hcnd hsz0 _
  have hsz : (DataW.weightsEach Tryz.prog (Tryz.f4.params.toList ++ Rows.storePlacesSpec.plain.varTypes Tryz.prog) (ds ++ gs)).all (· ≤ reachBytes) = true := hsz0
  have hval : ∀ (j : Nat) t v, Tryz.f4.params[j]? = some t → args[j]? = some v → Value.okWide Tryz.prog W .any base t v := hval0
  have hW' := hW
  obtain ⟨p, q, hA0, hV, rfl, hfz, hnd⟩ := hW
  have hA : DataW.TrodAll enc Tryz.prog W 0 (fun _ => true) true Tryz.f4.params.toList args.toList ds p := hA0
  rw [Tryz.params4] at hA hval hsz
  obtain ⟨v0, vs0, d0, ds0, p0, q0, hargs, rfl, rfl, h0, r0⟩ := trodAll_cons hA
  obtain ⟨v1, vs1, d1, ds1, p1, q1, rfl, rfl, rfl, h1, r1⟩ := trodAll_cons r0
  obtain ⟨v2, vs2, d2, ds2, p2, q2, rfl, rfl, rfl, h2, r2⟩ := trodAll_cons r1
  obtain ⟨rfl, rfl, rfl⟩ := trodAll_nil r2
  obtain rfl : args = #[v0, v1, v2] := by cases args; simp_all
  obtain ⟨rfl, rfl⟩ := trodVars_none hV
  obtain ⟨cs0, rfl, _⟩ := okWide_struct Tryz.underlying31 (hval 0 31 v0 rfl rfl)
  obtain ⟨a1, rfl, rfl, rfl, w1⟩ := open_int Tryz.underlying3 (hval 1 3 v1 rfl rfl) h1
  obtain ⟨a2, rfl, rfl, rfl, w2⟩ := open_int Tryz.underlying3 (hval 2 3 v2 rfl rfl) h2
  have k0 := h0
  have lt0 : ∀ x ∈ p0, x.block < W.heap.size := by obtain ⟨m, hm⟩ := k0; exact DataW.trod_lt m _ _ _ hm
  obtain ⟨fuel, hf⟩ := h0
  have s0 : Sized 31 d0 := by
    simp only [List.cons_append, List.nil_append, DataW.weightsEach, List.all_append, Bool.and_eq_true] at hsz
    exact hsz.1
  clear hA0 hval0 hsz0 hsz
  refine (walk hf s0 w1 w2).mono fun e W' ⟨he, bel⟩ => ?_
  subst he
  exact ⟨_, rfl, _, _, _, [], _, [], hW', trodAll_mk1 (shut_bool Tryz.underlying4 _), (trodAll_cons_mk (Below.trod laidOut (by kernel_rfl) (of_decide_eq_true (by kernel_rfl)) k0 bel lt0) (trodAll_cons_mk (shut_int Tryz.underlying3 w1) (trodAll_cons_mk (shut_int Tryz.underlying3 w2) trodAll_mk0))), rfl, bel.frame _, fun h => by cases h⟩
theorem over : Rows.storePlacesRow.holds Tryz.pinned (OpenSpec.ofChange Rows.storePlacesSpec) :=
  OpenClaim.holds_of_wide 4 Tryz.f4 rfl rfl rfl rfl rfl rfl rfl ⟨rfl, rfl, rfl, rfl, rfl⟩ rfl rfl rfl rfl rfl (by kernel_rfl) Tryz.func4 (by kernel_rfl)
    (of_decide_eq_true (by kernel_rfl)) (by unfold Func.isWrapper; first | (rw [if_pos (by decide +kernel)]; kernel_rfl) | (rw [if_neg (by decide +kernel)]; exact ⟨rfl, rfl⟩))
    (fun os started H enc _ => lifted os started H enc)
theorem proved : Rows.StorePlacesSaid := over
#print axioms proved
end Go.Proofs.YtefjnnghfloddaaGreat.storePlaces
namespace Go.Proofs.YtefjnnghfloddaaGreat
/-- The row, under a short name, for the claim. -/
theorem storePlaces_holds : Rows.StorePlacesSaid := storePlaces.proved
end Go.Proofs.YtefjnnghfloddaaGreat
