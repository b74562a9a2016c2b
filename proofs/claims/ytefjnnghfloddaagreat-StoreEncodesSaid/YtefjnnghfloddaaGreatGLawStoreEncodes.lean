/- Proved: the statement StoreEncodesSaid: whatever configuration and data it is given, the law StoreEncodes returns true and leaves its arguments as they were. Conditions: none. -/
import Derived.Test.YtefjnnghfloddaaGreatRows
import Derived.Test.YtefjnnghfloddaaGreatGm
import Derived.Test.YtefjnnghfloddaaGreatGj
import Derived.WalkKit
import Derived.ProofKit
import Derived.OpenShut
import Derived.ShutString
import Derived.ChangeOld
import Derived.Below
import Derived.Carry
import Derived.SizedLaws
namespace Go.Proofs.YtefjnnghfloddaaGreat.storeEncodes
open Go.ChangeShapes Go.WideShapes Go.ChangeAt Go.RowKit
open Go.Proofs.YtefjnnghfloddaaGreat.Abs (WV DD Ld Lds lds_cfg Sized gcells storeEncodes_wv calls_of CfgAt RelL RelL.le Rel belL belL_mono Pre.len Rng lds_ints)
set_option linter.unusedVariables false
set_option linter.unusedSimpArgs false
theorem own : ownKnob Tryz.prog.godebug = none := by kernel_rfl
theorem laidOut : laidOutB Tryz.prog = true := by kernel_rfl
theorem walk {H : Type} {enc : TypeId × Value → H} {W : World} {cs : Array Value} {c2 : Value} {fuel fuel2 : Nat} {d d2 : DataW H} {p p2 : List MemPlace} (h : DataW.trod enc Tryz.prog W 0 (fun _ => true) true fuel 31 cs.toList = some (d, p)) (hs : Sized 31 d)
    (h2 : DataW.trod enc Tryz.prog W 0 (fun _ => true) true fuel2 22 [c2] = some (d2, p2)) :
    Calls Tryz.prog 6 #[.agg cs, c2] W fun e w' => e = .returned (.bool true) ∧ Below W.heap.size W w' := by
  obtain ⟨pp, n, mod, N, gen, dd, sets, racks, wd, hd, hN, hb, hl⟩ := lds_cfg h
  obtain ⟨hb1, hb2⟩ := hb hs
  obtain ⟨ρ, m, vs, _, _, hL, hR, hbel, hcell, vm, gv, sv, rv, rfl, hvm, hgv, hsv, hrv⟩ := hl _ _ (Ld.empty W)
  obtain ⟨data, _, _, hl2⟩ := lds_ints h2
  obtain ⟨ρ2, m2, ws, hle, hpre, hL2, hR2, hbel2, hcell2, dv, rfl, hdv⟩ := hl2 _ _ hL
  simp only [List.all_cons, List.all_nil, Bool.and_true, Bool.and_eq_true] at hcell
  refine calls_of (vs := [.agg (gcells pp n vm N gv dd sv rv wd), dv]) hL2 ?_ ?_ (storeEncodes_wv (mod := mod) (gen := gen) (racks := racks) (data := data) ?_ (hsv.pre hpre).len (fun hs3 => ⟨hvm.pre hpre, hgv.pre hpre, hsv.pre hpre, hrv.pre hpre, hd, by omega, hb2⟩) hdv fun m' hp => rfl)
  · simp only [RelL, Rel] at hR2 ⊢
    obtain ⟨y, ys, e1, r1, r2⟩ := hR2
    exact ⟨_, _, rfl, ⟨cs, rfl, RelL.le hR hle⟩, y, ys, e1, r1, r2⟩
  · simp only [belL, Go.Proofs.YtefjnnghfloddaaGreat.Abs.V.bel] at hbel2 ⊢
    exact ⟨belL_mono (Pre.len hpre) _ hbel, hbel2⟩
  · simp [hvm.cell, hgv.cell, hsv.cell, hrv.cell]
set_option maxRecDepth 100000 in
theorem lifted (os : Os) (started : os.Started) (H : Type) (enc : TypeId × Value → H) :
    ReturnsInHanded {} Tryz.checked os 6 .any (Rows.storeEncodesSpec.pre6 enc Tryz.prog Tryz.f6 Rows.storeEncodesRow.domain false) (Rows.storeEncodesSpec.post enc Tryz.prog Tryz.f6 false true false false) := by
  refine returnsInHanded_of_change_sized (C := Tryz.checked) own started (by kernel_rfl) Tryz.func6
    (ChangeSpec.witness6 (enc := enc) (C := Tryz.checked) false ⟨#[], #[.agg #[.int .i64 0, .int .i64 0, .slice none 0 0, .int .i64 0, .slice none 0 0, .int .i64 0, .slice none 0 0, .slice none 0 0, .int .i64 0], .slice none 0 0], []⟩ 8 (by kernel_rfl) (by kernel_rfl) (by kernel_rfl) (by kernel_rfl)) ?_
  intro W base args ds gs before hval0 hW hcnd hsz0 _
  have hsz : (DataW.weightsEach Tryz.prog (Tryz.f6.params.toList ++ Rows.storeEncodesSpec.plain.varTypes Tryz.prog) (ds ++ gs)).all (· ≤ reachBytes) = true := hsz0
  have hval : ∀ (j : Nat) t v, Tryz.f6.params[j]? = some t → args[j]? = some v → Value.okWide Tryz.prog W .any base t v := hval0
  have hW' := hW
  obtain ⟨p, q, hA0, hV, rfl, hfz, hnd⟩ := hW
  have hA : DataW.TrodAll enc Tryz.prog W 0 (fun _ => true) true Tryz.f6.params.toList args.toList ds p := hA0
  rw [Tryz.params6] at hA hval hsz
  obtain ⟨v0, vs0, d0, ds0, p0, q0, hargs, rfl, rfl, h0, r0⟩ := trodAll_cons hA
  obtain ⟨v1, vs1, d1, ds1, p1, q1, rfl, rfl, rfl, h1, r1⟩ := trodAll_cons r0
  obtain ⟨rfl, rfl, rfl⟩ := trodAll_nil r1
  obtain rfl : args = #[v0, v1] := by cases args; simp_all
  obtain ⟨rfl, rfl⟩ := trodVars_none hV
  obtain ⟨cs0, rfl, _⟩ := okWide_struct Tryz.underlying31 (hval 0 31 v0 rfl rfl)
  obtain ⟨a1, len1, cap1, rfl⟩ := okWide_slice Tryz.underlying22 (hval 1 22 v1 rfl rfl)
  have k0 := h0
  have lt0 : ∀ x ∈ p0, x.block < W.heap.size := by obtain ⟨m, hm⟩ := k0; exact DataW.trod_lt m _ _ _ hm
  have k1 := h1
  have lt1 : ∀ x ∈ p1, x.block < W.heap.size := by obtain ⟨m, hm⟩ := k1; exact DataW.trod_lt m _ _ _ hm
  obtain ⟨fuel, hf⟩ := h0
  obtain ⟨fuel2, hf2⟩ := h1
  have s0 : Sized 31 d0 := by
    simp only [List.cons_append, List.nil_append, DataW.weightsEach, List.all_append, Bool.and_eq_true] at hsz
    exact hsz.1
  clear hA0 hval0 hsz0 hsz
  refine (walk hf s0 hf2).mono fun e W' ⟨he, bel⟩ => ?_
  subst he
  exact ⟨_, rfl, _, _, _, [], _, [], hW', trodAll_mk1 (shut_bool Tryz.underlying4 _), (trodAll_cons_mk (Below.trod laidOut (by kernel_rfl) (of_decide_eq_true (by kernel_rfl)) k0 bel lt0) (trodAll_cons_mk (Below.trod laidOut (by kernel_rfl) (of_decide_eq_true (by kernel_rfl)) k1 bel lt1) trodAll_mk0)), rfl, bel.frame _, fun h => by cases h⟩
theorem over : Rows.storeEncodesRow.holds Tryz.pinned (OpenSpec.ofChange Rows.storeEncodesSpec) :=
  OpenClaim.holds_of_wide 6 Tryz.f6 rfl rfl rfl rfl rfl rfl rfl ⟨rfl, rfl, rfl, rfl, rfl⟩ rfl rfl rfl rfl rfl (by kernel_rfl) Tryz.func6 (by kernel_rfl)
    (of_decide_eq_true (by kernel_rfl)) (by unfold Func.isWrapper; first | (rw [if_pos (by decide +kernel)]; kernel_rfl) | (rw [if_neg (by decide +kernel)]; exact ⟨rfl, rfl⟩))
    (fun os started H enc _ => lifted os started H enc)
theorem proved : Rows.StoreEncodesSaid := over
#print axioms proved
end Go.Proofs.YtefjnnghfloddaaGreat.storeEncodes
namespace Go.Proofs.YtefjnnghfloddaaGreat
theorem storeEncodes_holds : Rows.StoreEncodesSaid := storeEncodes.proved
end Go.Proofs.YtefjnnghfloddaaGreat
