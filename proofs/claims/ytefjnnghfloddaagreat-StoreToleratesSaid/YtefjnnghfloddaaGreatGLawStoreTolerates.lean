/- Proved: the statement StoreToleratesSaid: whatever configuration it is given, the law StoreTolerates returns true and leaves its argument as it was. Conditions: none. -/
import Derived.Test.YtefjnnghfloddaaGreatRows
import Derived.Test.YtefjnnghfloddaaGreatGl
import Derived.Test.YtefjnnghfloddaaGreatGj
import Derived.WalkKit
import Derived.ProofKit
import Derived.OpenShut
import Derived.ShutString
import Derived.ChangeOld
import Derived.Below
import Derived.Carry
import Derived.SizedLaws
namespace Go.Proofs.YtefjnnghfloddaaGreat.storeTolerates
open Go.ChangeShapes Go.WideShapes Go.ChangeAt Go.RowKit
open Go.Proofs.YtefjnnghfloddaaGreat.Abs (WV DD Ld Lds lds_cfg Sized gcells storeTolerates_wv calls_of CfgAt RelL Rel belL Rng)
set_option linter.unusedVariables false
set_option linter.unusedSimpArgs false
theorem own : ownKnob Tryz.prog.godebug = none := by kernel_rfl
theorem laidOut : laidOutB Tryz.prog = true := by kernel_rfl
theorem walk {H : Type} {enc : TypeId × Value → H} {W : World} {cs : Array Value} {fuel : Nat} {d : DataW H} {p : List MemPlace} (h : DataW.trod enc Tryz.prog W 0 (fun _ => true) true fuel 31 cs.toList = some (d, p)) (hs : Sized 31 d) :
    Calls Tryz.prog 5 #[.agg cs] W fun e w' => e = .returned (.bool true) ∧ Below W.heap.size W w' := by
  obtain ⟨pp, n, mod, N, gen, dd, sets, racks, wd, hd, hN, hb, hl⟩ := lds_cfg h
  obtain ⟨hb1, hb2⟩ := hb hs
  obtain ⟨ρ, m, vs, _, _, hL, hR, hbel, hcell, vm, gv, sv, rv, rfl, hvm, hgv, hsv, hrv⟩ := hl _ _ (Ld.empty W)
  simp only [List.all_cons, List.all_nil, Bool.and_true, Bool.and_eq_true] at hcell
  refine calls_of (vs := [.agg (gcells pp n vm N gv dd sv rv wd)]) hL ?_ ?_ (storeTolerates_wv (mod := mod) (gen := gen) (racks := racks) ?_ hsv.len (fun hs3 => ⟨hvm, hgv, hsv, hrv, hd, by omega, hb2⟩) fun m' hp => rfl)
  · simp only [RelL, Rel]
    exact ⟨_, _, rfl, ⟨cs, rfl, hR⟩, rfl⟩
  · simp only [belL, Go.Proofs.YtefjnnghfloddaaGreat.Abs.V.bel]
    exact ⟨hbel, trivial⟩
  · simp [hvm.cell, hgv.cell, hsv.cell, hrv.cell]
set_option maxRecDepth 100000 in
theorem lifted (os : Os) (started : os.Started) (H : Type) (enc : TypeId × Value → H) :
    ReturnsInHanded {} Tryz.checked os 5 .any (Rows.storeToleratesSpec.pre6 enc Tryz.prog Tryz.f5 Rows.storeToleratesRow.domain false) (Rows.storeToleratesSpec.post enc Tryz.prog Tryz.f5 false true false false) := by
  refine returnsInHanded_of_change_sized (C := Tryz.checked) own started (by kernel_rfl) Tryz.func5
    (ChangeSpec.witness6 (enc := enc) (C := Tryz.checked) false ⟨#[], #[.agg #[.int .i64 0, .int .i64 0, .slice none 0 0, .int .i64 0, .slice none 0 0, .int .i64 0, .slice none 0 0, .slice none 0 0, .int .i64 0]], []⟩ 8 (by kernel_rfl) (by kernel_rfl) (by kernel_rfl) (by kernel_rfl)) ?_
  intro W base args ds gs before hval0 hW hcnd hsz0 _
  have hsz : (DataW.weightsEach Tryz.prog (Tryz.f5.params.toList ++ Rows.storeToleratesSpec.plain.varTypes Tryz.prog) (ds ++ gs)).all (· ≤ reachBytes) = true := hsz0
  have hval : ∀ (j : Nat) t v, Tryz.f5.params[j]? = some t → args[j]? = some v → Value.okWide Tryz.prog W .any base t v := hval0
  have hW' := hW
  obtain ⟨p, q, hA0, hV, rfl, hfz, hnd⟩ := hW
  have hA : DataW.TrodAll enc Tryz.prog W 0 (fun _ => true) true Tryz.f5.params.toList args.toList ds p := hA0
  rw [Tryz.params5] at hA hval hsz
  obtain ⟨v0, vs0, d0, ds0, p0, q0, hargs, rfl, rfl, h0, r0⟩ := trodAll_cons hA
  obtain ⟨rfl, rfl, rfl⟩ := trodAll_nil r0
  obtain rfl : args = #[v0] := by cases args; simp_all
  obtain ⟨rfl, rfl⟩ := trodVars_none hV
  obtain ⟨cs0, rfl, _⟩ := okWide_struct Tryz.underlying31 (hval 0 31 v0 rfl rfl)
  have k0 := h0
  have lt0 : ∀ x ∈ p0, x.block < W.heap.size := by obtain ⟨m, hm⟩ := k0; exact DataW.trod_lt m _ _ _ hm
  obtain ⟨fuel, hf⟩ := h0
  have s0 : Sized 31 d0 := by
    simp only [List.cons_append, List.nil_append, DataW.weightsEach, List.all_append, Bool.and_eq_true] at hsz
    exact hsz.1
  clear hA0 hval0 hsz0 hsz
  refine (walk hf s0).mono fun e W' ⟨he, bel⟩ => ?_
  subst he
  exact ⟨_, rfl, _, _, _, [], _, [], hW', trodAll_mk1 (shut_bool Tryz.underlying4 _), (trodAll_cons_mk (Below.trod laidOut (by kernel_rfl) (of_decide_eq_true (by kernel_rfl)) k0 bel lt0) trodAll_mk0), rfl, bel.frame _, fun h => by cases h⟩
theorem over : Rows.storeToleratesRow.holds Tryz.pinned (OpenSpec.ofChange Rows.storeToleratesSpec) :=
  OpenClaim.holds_of_wide 5 Tryz.f5 rfl rfl rfl rfl rfl rfl rfl ⟨rfl, rfl, rfl, rfl, rfl⟩ rfl rfl rfl rfl rfl (by kernel_rfl) Tryz.func5 (by kernel_rfl)
    (of_decide_eq_true (by kernel_rfl)) (by unfold Func.isWrapper; first | (rw [if_pos (by decide +kernel)]; kernel_rfl) | (rw [if_neg (by decide +kernel)]; exact ⟨rfl, rfl⟩))
    (fun os started H enc _ => lifted os started H enc)
theorem proved : Rows.StoreToleratesSaid := over
#print axioms proved
end Go.Proofs.YtefjnnghfloddaaGreat.storeTolerates
namespace Go.Proofs.YtefjnnghfloddaaGreat
theorem storeTolerates_holds : Rows.StoreToleratesSaid := storeTolerates.proved
end Go.Proofs.YtefjnnghfloddaaGreat
