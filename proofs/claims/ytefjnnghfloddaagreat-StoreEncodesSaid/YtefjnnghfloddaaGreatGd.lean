/- A part of a proof of a law of the store, without conditions: its texts are: Ft Fv Fx Xc Fu. -/
import Derived.Test.YtefjnnghfloddaaGreatGb
import Derived.Test.YtefjnnghfloddaaGreatProg
import Derived.KernelRfl
import Derived.Test.YtefjnnghfloddaaGreatGc
import Derived.WalkKit
import Derived.OwnWalkIn
import Derived.TacticsInMore
import Derived.LoopNIn
import Derived.LoopIn
import Derived.RegionIn
import Derived.BigRegionIn
import Derived.Shelf.Abstract
/- The types of the program. -/
namespace Go.Proofs.YtefjnnghfloddaaGreat.Abs
open Go.Proofs
set_option linter.unusedVariables false
set_option linter.unusedSimpArgs false
def ttab : List (Nat × TI) := [
  (2, ⟨.int .i64, 1, [.int .i64 0], 8⟩),
  (3, ⟨.int .i64, 1, [.int .i64 0], 8⟩),
  (4, ⟨.bool, 1, [.bool false], 1⟩),
  (5, ⟨.int .u8, 1, [.int .u8 0], 1⟩),
  (6, ⟨.int .u8, 1, [.int .u8 0], 1⟩),
  (7, ⟨.struct [(0, 2), (1, 3), (2, 4), (3, 6)], 4, [.int .i64 0, .int .i64 0, .bool false, .int .u8 0], 24⟩),
  (8, ⟨.struct [(0, 2), (1, 3), (2, 4), (3, 6)], 4, [.int .i64 0, .int .i64 0, .bool false, .int .u8 0], 24⟩),
  (9, ⟨.string, 1, [.str ⟨#[]⟩], 16⟩),
  (10, ⟨.string, 1, [.str ⟨#[]⟩], 16⟩),
  (11, ⟨.string, 1, [.str ⟨#[]⟩], 16⟩),
  (12, ⟨.int .u64, 1, [.int .u64 0], 8⟩),
  (13, ⟨.struct [(0, 9), (1, 12)], 2, [.str ⟨#[]⟩, .int .u64 0], 24⟩),
  (14, ⟨.struct [(0, 9), (1, 12)], 2, [.str ⟨#[]⟩, .int .u64 0], 24⟩),
  (15, ⟨.ptr 206, 1, [.nilp], 8⟩),
  (16, ⟨.ptr 209, 1, [.nilp], 8⟩),
  (17, ⟨.ptr 218, 1, [.nilp], 8⟩),
  (18, ⟨.struct [(0, 17)], 1, [.nilp], 8⟩),
  (19, ⟨.struct [(0, 17)], 1, [.nilp], 8⟩),
  (21, ⟨.int .i32, 1, [.int .i32 0], 4⟩),
  (22, ⟨.slice 3, 1, [.nils], 24⟩),
  (23, ⟨.struct [(0, 3), (1, 3), (2, 22)], 3, [.int .i64 0, .int .i64 0, .nils], 40⟩),
  (24, ⟨.struct [(0, 3), (1, 3), (2, 22)], 3, [.int .i64 0, .int .i64 0, .nils], 40⟩),
  (25, ⟨.slice 22, 1, [.nils], 24⟩),
  (26, ⟨.struct [(0, 24), (3, 3), (4, 25)], 5, [.int .i64 0, .int .i64 0, .nils, .int .i64 0, .nils], 72⟩),
  (27, ⟨.struct [(0, 24), (3, 3), (4, 25)], 5, [.int .i64 0, .int .i64 0, .nils, .int .i64 0, .nils], 72⟩),
  (28, ⟨.struct [(0, 25)], 1, [.nils], 24⟩),
  (29, ⟨.struct [(0, 25)], 1, [.nils], 24⟩),
  (30, ⟨.struct [(0, 27), (5, 3), (6, 29), (7, 22), (8, 3)], 9, [.int .i64 0, .int .i64 0, .nils, .int .i64 0, .nils, .int .i64 0, .nils, .nils, .int .i64 0], 136⟩),
  (31, ⟨.struct [(0, 27), (5, 3), (6, 29), (7, 22), (8, 3)], 9, [.int .i64 0, .int .i64 0, .nils, .int .i64 0, .nils, .int .i64 0, .nils, .nils, .int .i64 0], 136⟩),
  (33, ⟨.int .i64, 1, [.int .i64 0], 8⟩),
  (40, ⟨.slice 25, 1, [.nils], 24⟩),
  (50, ⟨.slice 52, 1, [.nils], 24⟩),
  (51, ⟨.struct [(0, 3), (1, 4), (2, 22)], 3, [.int .i64 0, .bool false, .nils], 40⟩),
  (52, ⟨.struct [(0, 3), (1, 4), (2, 22)], 3, [.int .i64 0, .bool false, .nils], 40⟩),
  (64, ⟨.struct [(0, 3), (1, 3)], 2, [.int .i64 0, .int .i64 0], 16⟩),
  (65, ⟨.struct [(0, 3), (1, 3)], 2, [.int .i64 0, .int .i64 0], 16⟩),
  (67, ⟨.slice 65, 1, [.nils], 24⟩),
  (76, ⟨.ptr 107, 1, [.nilp], 8⟩),
  (87, ⟨.struct [(0, 3), (1, 25)], 2, [.int .i64 0, .nils], 32⟩),
  (88, ⟨.struct [(0, 3), (1, 25)], 2, [.int .i64 0, .nils], 32⟩),
  (95, ⟨.int .u64, 1, [.int .u64 0], 8⟩),
  (106, ⟨.struct [(0, 24), (3, 3), (4, 22), (5, 22)], 6, [.int .i64 0, .int .i64 0, .nils, .int .i64 0, .nils, .nils], 96⟩),
  (107, ⟨.struct [(0, 24), (3, 3), (4, 22), (5, 22)], 6, [.int .i64 0, .int .i64 0, .nils, .int .i64 0, .nils, .nils], 96⟩),
  (117, ⟨.struct [(0, 76), (1, 88), (3, 22)], 4, [.nilp, .int .i64 0, .nils, .nils], 64⟩),
  (118, ⟨.struct [(0, 76), (1, 88), (3, 22)], 4, [.nilp, .int .i64 0, .nils, .nils], 64⟩),
  (121, ⟨.ptr 157, 1, [.nilp], 8⟩),
  (129, ⟨.struct [(0, 27), (5, 3), (6, 3), (7, 22), (8, 4)], 9, [.int .i64 0, .int .i64 0, .nils, .int .i64 0, .nils, .int .i64 0, .int .i64 0, .nils, .bool false], 120⟩),
  (130, ⟨.struct [(0, 27), (5, 3), (6, 3), (7, 22), (8, 4)], 9, [.int .i64 0, .int .i64 0, .nils, .int .i64 0, .nils, .int .i64 0, .int .i64 0, .nils, .bool false], 120⟩),
  (132, ⟨.int .i64, 1, [.int .i64 0], 8⟩),
  (141, ⟨.int .u32, 1, [.int .u32 0], 4⟩),
  (143, ⟨.int .u64, 1, [.int .u64 0], 8⟩),
  (156, ⟨.struct [(0, 76), (1, 27), (6, 22), (7, 4), (8, 3), (9, 3), (10, 25), (11, 3)], 12, [.nilp, .int .i64 0, .int .i64 0, .nils, .int .i64 0, .nils, .nils, .bool false, .int .i64 0, .int .i64 0, .nils, .int .i64 0], 160⟩),
  (157, ⟨.struct [(0, 76), (1, 27), (6, 22), (7, 4), (8, 3), (9, 3), (10, 25), (11, 3)], 12, [.nilp, .int .i64 0, .int .i64 0, .nils, .int .i64 0, .nils, .nils, .bool false, .int .i64 0, .int .i64 0, .nils, .int .i64 0], 160⟩),
  (161, ⟨.int .u64, 1, [.int .u64 0], 8⟩),
  (165, ⟨.ptr 3, 1, [.nilp], 8⟩),
  (170, ⟨.slice 4, 1, [.nils], 24⟩),
  (179, ⟨.ptr 161, 1, [.nilp], 8⟩),
  (181, ⟨.slice 88, 1, [.nils], 24⟩),
  (193, ⟨.ptr 195, 1, [.nilp], 8⟩),
  (194, ⟨.struct [(0, 76), (1, 25), (2, 22)], 3, [.nilp, .nils, .nils], 56⟩),
  (195, ⟨.struct [(0, 76), (1, 25), (2, 22)], 3, [.nilp, .nils, .nils], 56⟩),
  (205, ⟨.struct [(0, 17), (1, 17), (2, 17), (3, 9)], 4, [.nilp, .nilp, .nilp, .str ⟨#[]⟩], 40⟩),
  (206, ⟨.struct [(0, 17), (1, 17), (2, 17), (3, 9)], 4, [.nilp, .nilp, .nilp, .str ⟨#[]⟩], 40⟩),
  (211, ⟨.int .u8, 1, [.int .u8 0], 1⟩),
  (212, ⟨.int .u8, 1, [.int .u8 0], 1⟩),
  (214, ⟨.ptr 5, 1, [.nilp], 8⟩),
  (215, ⟨.int .i32, 1, [.int .i32 0], 4⟩),
  (216, ⟨.int .i32, 1, [.int .i32 0], 4⟩),
  (217, ⟨.struct [(0, 12), (1, 12), (2, 141), (3, 211), (4, 5), (5, 5), (6, 212), (7, 213), (8, 214), (9, 215), (10, 216)], 11, [.int .u64 0, .int .u64 0, .int .u32 0, .int .u8 0, .int .u8 0, .int .u8 0, .int .u8 0, .nilf, .nilp, .int .i32 0, .int .i32 0], 48⟩),
  (218, ⟨.struct [(0, 12), (1, 12), (2, 141), (3, 211), (4, 5), (5, 5), (6, 212), (7, 213), (8, 214), (9, 215), (10, 216)], 11, [.int .u64 0, .int .u64 0, .int .u32 0, .int .u8 0, .int .u8 0, .int .u8 0, .int .u8 0, .nilf, .nilp, .int .i32 0, .int .i32 0], 48⟩)]
def T : TT := fun t => (ttab.find? (fun q => q.1 == t)).map (·.2)
theorem mkTI {P : Program} {t : TypeId} {i : TI} {z : Value} {d : TypeDesc} (h1 : (P.info? t).map (fun f => (f.size, f.bytes, f.zero)) = some (i.size, i.bytes, some z)) (h2 : P.underlying t = some d) (h3 : i.k.fits d := by first | exact rfl | exact ⟨_, rfl, rfl⟩)
    (h4 : ∀ ρ, RelL ρ i.zero z.cells.toList := by intro ρ; simp [RelL, Rel, Value.cells]) (h5 : i.zero.length = i.size := by rfl) (h6 : i.zero.all V.isCell = true := by rfl) : TIok P t i := by
  refine ⟨?_, ⟨d, h2, h3⟩, h5, fun v hv => (List.all_eq_true.1 h6) v hv⟩
  cases hf : P.info? t with
  | none => rw [hf] at h1; cases h1
  | some f =>
    rw [hf] at h1
    simp only [Option.map_some, Option.some.injEq, Prod.mk.injEq] at h1
    exact ⟨f, z, rfl, h1.1, h1.2.1, h1.2.2, h4⟩
theorem ti2 : TIok Tryz.prog 2 ⟨.int .i64, 1, [.int .i64 0], 8⟩ := mkTI (z := (.int .i64 0)) (by kernel_rfl) Tryz.underlying2
theorem ti3 : TIok Tryz.prog 3 ⟨.int .i64, 1, [.int .i64 0], 8⟩ := mkTI (z := (.int .i64 0)) (by kernel_rfl) Tryz.underlying3
theorem ti4 : TIok Tryz.prog 4 ⟨.bool, 1, [.bool false], 1⟩ := mkTI (z := (.bool false)) (by kernel_rfl) Tryz.underlying4
theorem ti5 : TIok Tryz.prog 5 ⟨.int .u8, 1, [.int .u8 0], 1⟩ := mkTI (z := (.int .u8 0)) (by kernel_rfl) Tryz.underlying5
theorem ti6 : TIok Tryz.prog 6 ⟨.int .u8, 1, [.int .u8 0], 1⟩ := mkTI (z := (.int .u8 0)) (by kernel_rfl) Tryz.underlying6
theorem ti7 : TIok Tryz.prog 7 ⟨.struct [(0, 2), (1, 3), (2, 4), (3, 6)], 4, [.int .i64 0, .int .i64 0, .bool false, .int .u8 0], 24⟩ := mkTI (z := (.agg #[.int .i64 0, .int .i64 0, .bool false, .int .u8 0])) (by kernel_rfl) Tryz.underlying7
theorem ti8 : TIok Tryz.prog 8 ⟨.struct [(0, 2), (1, 3), (2, 4), (3, 6)], 4, [.int .i64 0, .int .i64 0, .bool false, .int .u8 0], 24⟩ := mkTI (z := (.agg #[.int .i64 0, .int .i64 0, .bool false, .int .u8 0])) (by kernel_rfl) Tryz.underlying8
theorem ti9 : TIok Tryz.prog 9 ⟨.string, 1, [.str ⟨#[]⟩], 16⟩ := mkTI (z := (.string ⟨#[]⟩)) (by kernel_rfl) Tryz.underlying9
theorem ti10 : TIok Tryz.prog 10 ⟨.string, 1, [.str ⟨#[]⟩], 16⟩ := mkTI (z := (.string ⟨#[]⟩)) (by kernel_rfl) Tryz.underlying10
theorem ti11 : TIok Tryz.prog 11 ⟨.string, 1, [.str ⟨#[]⟩], 16⟩ := mkTI (z := (.string ⟨#[]⟩)) (by kernel_rfl) Tryz.underlying11
theorem ti12 : TIok Tryz.prog 12 ⟨.int .u64, 1, [.int .u64 0], 8⟩ := mkTI (z := (.int .u64 0)) (by kernel_rfl) Tryz.underlying12
theorem ti13 : TIok Tryz.prog 13 ⟨.struct [(0, 9), (1, 12)], 2, [.str ⟨#[]⟩, .int .u64 0], 24⟩ := mkTI (z := (.agg #[.string ⟨#[]⟩, .int .u64 0])) (by kernel_rfl) Tryz.underlying13
theorem ti14 : TIok Tryz.prog 14 ⟨.struct [(0, 9), (1, 12)], 2, [.str ⟨#[]⟩, .int .u64 0], 24⟩ := mkTI (z := (.agg #[.string ⟨#[]⟩, .int .u64 0])) (by kernel_rfl) Tryz.underlying14
theorem ti15 : TIok Tryz.prog 15 ⟨.ptr 206, 1, [.nilp], 8⟩ := mkTI (z := (.pointer none)) (by kernel_rfl) Tryz.underlying15
theorem ti16 : TIok Tryz.prog 16 ⟨.ptr 209, 1, [.nilp], 8⟩ := mkTI (z := (.pointer none)) (by kernel_rfl) Tryz.underlying16
theorem ti17 : TIok Tryz.prog 17 ⟨.ptr 218, 1, [.nilp], 8⟩ := mkTI (z := (.pointer none)) (by kernel_rfl) Tryz.underlying17
theorem ti18 : TIok Tryz.prog 18 ⟨.struct [(0, 17)], 1, [.nilp], 8⟩ := mkTI (z := (.agg #[.pointer none])) (by kernel_rfl) Tryz.underlying18
theorem ti19 : TIok Tryz.prog 19 ⟨.struct [(0, 17)], 1, [.nilp], 8⟩ := mkTI (z := (.agg #[.pointer none])) (by kernel_rfl) Tryz.underlying19
theorem ti21 : TIok Tryz.prog 21 ⟨.int .i32, 1, [.int .i32 0], 4⟩ := mkTI (z := (.int .i32 0)) (by kernel_rfl) Tryz.underlying21
theorem ti22 : TIok Tryz.prog 22 ⟨.slice 3, 1, [.nils], 24⟩ := mkTI (z := (.slice none 0 0)) (by kernel_rfl) Tryz.underlying22
theorem ti23 : TIok Tryz.prog 23 ⟨.struct [(0, 3), (1, 3), (2, 22)], 3, [.int .i64 0, .int .i64 0, .nils], 40⟩ := mkTI (z := (.agg #[.int .i64 0, .int .i64 0, .slice none 0 0])) (by kernel_rfl) Tryz.underlying23
theorem ti24 : TIok Tryz.prog 24 ⟨.struct [(0, 3), (1, 3), (2, 22)], 3, [.int .i64 0, .int .i64 0, .nils], 40⟩ := mkTI (z := (.agg #[.int .i64 0, .int .i64 0, .slice none 0 0])) (by kernel_rfl) Tryz.underlying24
theorem ti25 : TIok Tryz.prog 25 ⟨.slice 22, 1, [.nils], 24⟩ := mkTI (z := (.slice none 0 0)) (by kernel_rfl) Tryz.underlying25
theorem ti26 : TIok Tryz.prog 26 ⟨.struct [(0, 24), (3, 3), (4, 25)], 5, [.int .i64 0, .int .i64 0, .nils, .int .i64 0, .nils], 72⟩ := mkTI (z := (.agg #[.int .i64 0, .int .i64 0, .slice none 0 0, .int .i64 0, .slice none 0 0])) (by kernel_rfl) Tryz.underlying26
theorem ti27 : TIok Tryz.prog 27 ⟨.struct [(0, 24), (3, 3), (4, 25)], 5, [.int .i64 0, .int .i64 0, .nils, .int .i64 0, .nils], 72⟩ := mkTI (z := (.agg #[.int .i64 0, .int .i64 0, .slice none 0 0, .int .i64 0, .slice none 0 0])) (by kernel_rfl) Tryz.underlying27
theorem ti28 : TIok Tryz.prog 28 ⟨.struct [(0, 25)], 1, [.nils], 24⟩ := mkTI (z := (.agg #[.slice none 0 0])) (by kernel_rfl) Tryz.underlying28
theorem ti29 : TIok Tryz.prog 29 ⟨.struct [(0, 25)], 1, [.nils], 24⟩ := mkTI (z := (.agg #[.slice none 0 0])) (by kernel_rfl) Tryz.underlying29
theorem ti30 : TIok Tryz.prog 30 ⟨.struct [(0, 27), (5, 3), (6, 29), (7, 22), (8, 3)], 9, [.int .i64 0, .int .i64 0, .nils, .int .i64 0, .nils, .int .i64 0, .nils, .nils, .int .i64 0], 136⟩ := mkTI (z := (.agg #[.int .i64 0, .int .i64 0, .slice none 0 0, .int .i64 0, .slice none 0 0, .int .i64 0, .slice none 0 0, .slice none 0 0, .int .i64 0])) (by kernel_rfl) Tryz.underlying30
theorem ti31 : TIok Tryz.prog 31 ⟨.struct [(0, 27), (5, 3), (6, 29), (7, 22), (8, 3)], 9, [.int .i64 0, .int .i64 0, .nils, .int .i64 0, .nils, .int .i64 0, .nils, .nils, .int .i64 0], 136⟩ := mkTI (z := (.agg #[.int .i64 0, .int .i64 0, .slice none 0 0, .int .i64 0, .slice none 0 0, .int .i64 0, .slice none 0 0, .slice none 0 0, .int .i64 0])) (by kernel_rfl) Tryz.underlying31
theorem ti33 : TIok Tryz.prog 33 ⟨.int .i64, 1, [.int .i64 0], 8⟩ := mkTI (z := (.int .i64 0)) (by kernel_rfl) Tryz.underlying33
theorem ti40 : TIok Tryz.prog 40 ⟨.slice 25, 1, [.nils], 24⟩ := mkTI (z := (.slice none 0 0)) (by kernel_rfl) Tryz.underlying40
theorem ti50 : TIok Tryz.prog 50 ⟨.slice 52, 1, [.nils], 24⟩ := mkTI (z := (.slice none 0 0)) (by kernel_rfl) Tryz.underlying50
theorem ti51 : TIok Tryz.prog 51 ⟨.struct [(0, 3), (1, 4), (2, 22)], 3, [.int .i64 0, .bool false, .nils], 40⟩ := mkTI (z := (.agg #[.int .i64 0, .bool false, .slice none 0 0])) (by kernel_rfl) Tryz.underlying51
theorem ti52 : TIok Tryz.prog 52 ⟨.struct [(0, 3), (1, 4), (2, 22)], 3, [.int .i64 0, .bool false, .nils], 40⟩ := mkTI (z := (.agg #[.int .i64 0, .bool false, .slice none 0 0])) (by kernel_rfl) Tryz.underlying52
theorem ti64 : TIok Tryz.prog 64 ⟨.struct [(0, 3), (1, 3)], 2, [.int .i64 0, .int .i64 0], 16⟩ := mkTI (z := (.agg #[.int .i64 0, .int .i64 0])) (by kernel_rfl) Tryz.underlying64
theorem ti65 : TIok Tryz.prog 65 ⟨.struct [(0, 3), (1, 3)], 2, [.int .i64 0, .int .i64 0], 16⟩ := mkTI (z := (.agg #[.int .i64 0, .int .i64 0])) (by kernel_rfl) Tryz.underlying65
theorem ti67 : TIok Tryz.prog 67 ⟨.slice 65, 1, [.nils], 24⟩ := mkTI (z := (.slice none 0 0)) (by kernel_rfl) Tryz.underlying67
theorem ti76 : TIok Tryz.prog 76 ⟨.ptr 107, 1, [.nilp], 8⟩ := mkTI (z := (.pointer none)) (by kernel_rfl) Tryz.underlying76
theorem ti87 : TIok Tryz.prog 87 ⟨.struct [(0, 3), (1, 25)], 2, [.int .i64 0, .nils], 32⟩ := mkTI (z := (.agg #[.int .i64 0, .slice none 0 0])) (by kernel_rfl) Tryz.underlying87
theorem ti88 : TIok Tryz.prog 88 ⟨.struct [(0, 3), (1, 25)], 2, [.int .i64 0, .nils], 32⟩ := mkTI (z := (.agg #[.int .i64 0, .slice none 0 0])) (by kernel_rfl) Tryz.underlying88
theorem ti95 : TIok Tryz.prog 95 ⟨.int .u64, 1, [.int .u64 0], 8⟩ := mkTI (z := (.int .u64 0)) (by kernel_rfl) Tryz.underlying95
theorem ti106 : TIok Tryz.prog 106 ⟨.struct [(0, 24), (3, 3), (4, 22), (5, 22)], 6, [.int .i64 0, .int .i64 0, .nils, .int .i64 0, .nils, .nils], 96⟩ := mkTI (z := (.agg #[.int .i64 0, .int .i64 0, .slice none 0 0, .int .i64 0, .slice none 0 0, .slice none 0 0])) (by kernel_rfl) Tryz.underlying106
theorem ti107 : TIok Tryz.prog 107 ⟨.struct [(0, 24), (3, 3), (4, 22), (5, 22)], 6, [.int .i64 0, .int .i64 0, .nils, .int .i64 0, .nils, .nils], 96⟩ := mkTI (z := (.agg #[.int .i64 0, .int .i64 0, .slice none 0 0, .int .i64 0, .slice none 0 0, .slice none 0 0])) (by kernel_rfl) Tryz.underlying107
theorem ti117 : TIok Tryz.prog 117 ⟨.struct [(0, 76), (1, 88), (3, 22)], 4, [.nilp, .int .i64 0, .nils, .nils], 64⟩ := mkTI (z := (.agg #[.pointer none, .int .i64 0, .slice none 0 0, .slice none 0 0])) (by kernel_rfl) Tryz.underlying117
theorem ti118 : TIok Tryz.prog 118 ⟨.struct [(0, 76), (1, 88), (3, 22)], 4, [.nilp, .int .i64 0, .nils, .nils], 64⟩ := mkTI (z := (.agg #[.pointer none, .int .i64 0, .slice none 0 0, .slice none 0 0])) (by kernel_rfl) Tryz.underlying118
theorem ti121 : TIok Tryz.prog 121 ⟨.ptr 157, 1, [.nilp], 8⟩ := mkTI (z := (.pointer none)) (by kernel_rfl) Tryz.underlying121
theorem ti129 : TIok Tryz.prog 129 ⟨.struct [(0, 27), (5, 3), (6, 3), (7, 22), (8, 4)], 9, [.int .i64 0, .int .i64 0, .nils, .int .i64 0, .nils, .int .i64 0, .int .i64 0, .nils, .bool false], 120⟩ := mkTI (z := (.agg #[.int .i64 0, .int .i64 0, .slice none 0 0, .int .i64 0, .slice none 0 0, .int .i64 0, .int .i64 0, .slice none 0 0, .bool false])) (by kernel_rfl) Tryz.underlying129
theorem ti130 : TIok Tryz.prog 130 ⟨.struct [(0, 27), (5, 3), (6, 3), (7, 22), (8, 4)], 9, [.int .i64 0, .int .i64 0, .nils, .int .i64 0, .nils, .int .i64 0, .int .i64 0, .nils, .bool false], 120⟩ := mkTI (z := (.agg #[.int .i64 0, .int .i64 0, .slice none 0 0, .int .i64 0, .slice none 0 0, .int .i64 0, .int .i64 0, .slice none 0 0, .bool false])) (by kernel_rfl) Tryz.underlying130
theorem ti132 : TIok Tryz.prog 132 ⟨.int .i64, 1, [.int .i64 0], 8⟩ := mkTI (z := (.int .i64 0)) (by kernel_rfl) Tryz.underlying132
theorem ti141 : TIok Tryz.prog 141 ⟨.int .u32, 1, [.int .u32 0], 4⟩ := mkTI (z := (.int .u32 0)) (by kernel_rfl) Tryz.underlying141
theorem ti143 : TIok Tryz.prog 143 ⟨.int .u64, 1, [.int .u64 0], 8⟩ := mkTI (z := (.int .u64 0)) (by kernel_rfl) Tryz.underlying143
theorem ti156 : TIok Tryz.prog 156 ⟨.struct [(0, 76), (1, 27), (6, 22), (7, 4), (8, 3), (9, 3), (10, 25), (11, 3)], 12, [.nilp, .int .i64 0, .int .i64 0, .nils, .int .i64 0, .nils, .nils, .bool false, .int .i64 0, .int .i64 0, .nils, .int .i64 0], 160⟩ := mkTI (z := (.agg #[.pointer none, .int .i64 0, .int .i64 0, .slice none 0 0, .int .i64 0, .slice none 0 0, .slice none 0 0, .bool false, .int .i64 0, .int .i64 0, .slice none 0 0, .int .i64 0])) (by kernel_rfl) Tryz.underlying156
theorem ti157 : TIok Tryz.prog 157 ⟨.struct [(0, 76), (1, 27), (6, 22), (7, 4), (8, 3), (9, 3), (10, 25), (11, 3)], 12, [.nilp, .int .i64 0, .int .i64 0, .nils, .int .i64 0, .nils, .nils, .bool false, .int .i64 0, .int .i64 0, .nils, .int .i64 0], 160⟩ := mkTI (z := (.agg #[.pointer none, .int .i64 0, .int .i64 0, .slice none 0 0, .int .i64 0, .slice none 0 0, .slice none 0 0, .bool false, .int .i64 0, .int .i64 0, .slice none 0 0, .int .i64 0])) (by kernel_rfl) Tryz.underlying157
theorem ti161 : TIok Tryz.prog 161 ⟨.int .u64, 1, [.int .u64 0], 8⟩ := mkTI (z := (.int .u64 0)) (by kernel_rfl) Tryz.underlying161
theorem ti165 : TIok Tryz.prog 165 ⟨.ptr 3, 1, [.nilp], 8⟩ := mkTI (z := (.pointer none)) (by kernel_rfl) Tryz.underlying165
theorem ti170 : TIok Tryz.prog 170 ⟨.slice 4, 1, [.nils], 24⟩ := mkTI (z := (.slice none 0 0)) (by kernel_rfl) Tryz.underlying170
theorem ti179 : TIok Tryz.prog 179 ⟨.ptr 161, 1, [.nilp], 8⟩ := mkTI (z := (.pointer none)) (by kernel_rfl) Tryz.underlying179
theorem ti181 : TIok Tryz.prog 181 ⟨.slice 88, 1, [.nils], 24⟩ := mkTI (z := (.slice none 0 0)) (by kernel_rfl) Tryz.underlying181
theorem ti193 : TIok Tryz.prog 193 ⟨.ptr 195, 1, [.nilp], 8⟩ := mkTI (z := (.pointer none)) (by kernel_rfl) Tryz.underlying193
theorem ti194 : TIok Tryz.prog 194 ⟨.struct [(0, 76), (1, 25), (2, 22)], 3, [.nilp, .nils, .nils], 56⟩ := mkTI (z := (.agg #[.pointer none, .slice none 0 0, .slice none 0 0])) (by kernel_rfl) Tryz.underlying194
theorem ti195 : TIok Tryz.prog 195 ⟨.struct [(0, 76), (1, 25), (2, 22)], 3, [.nilp, .nils, .nils], 56⟩ := mkTI (z := (.agg #[.pointer none, .slice none 0 0, .slice none 0 0])) (by kernel_rfl) Tryz.underlying195
theorem ti205 : TIok Tryz.prog 205 ⟨.struct [(0, 17), (1, 17), (2, 17), (3, 9)], 4, [.nilp, .nilp, .nilp, .str ⟨#[]⟩], 40⟩ := mkTI (z := (.agg #[.pointer none, .pointer none, .pointer none, .string ⟨#[]⟩])) (by kernel_rfl) Tryz.underlying205
theorem ti206 : TIok Tryz.prog 206 ⟨.struct [(0, 17), (1, 17), (2, 17), (3, 9)], 4, [.nilp, .nilp, .nilp, .str ⟨#[]⟩], 40⟩ := mkTI (z := (.agg #[.pointer none, .pointer none, .pointer none, .string ⟨#[]⟩])) (by kernel_rfl) Tryz.underlying206
theorem ti211 : TIok Tryz.prog 211 ⟨.int .u8, 1, [.int .u8 0], 1⟩ := mkTI (z := (.int .u8 0)) (by kernel_rfl) Tryz.underlying211
theorem ti212 : TIok Tryz.prog 212 ⟨.int .u8, 1, [.int .u8 0], 1⟩ := mkTI (z := (.int .u8 0)) (by kernel_rfl) Tryz.underlying212
theorem ti214 : TIok Tryz.prog 214 ⟨.ptr 5, 1, [.nilp], 8⟩ := mkTI (z := (.pointer none)) (by kernel_rfl) Tryz.underlying214
theorem ti215 : TIok Tryz.prog 215 ⟨.int .i32, 1, [.int .i32 0], 4⟩ := mkTI (z := (.int .i32 0)) (by kernel_rfl) Tryz.underlying215
theorem ti216 : TIok Tryz.prog 216 ⟨.int .i32, 1, [.int .i32 0], 4⟩ := mkTI (z := (.int .i32 0)) (by kernel_rfl) Tryz.underlying216
theorem ti217 : TIok Tryz.prog 217 ⟨.struct [(0, 12), (1, 12), (2, 141), (3, 211), (4, 5), (5, 5), (6, 212), (7, 213), (8, 214), (9, 215), (10, 216)], 11, [.int .u64 0, .int .u64 0, .int .u32 0, .int .u8 0, .int .u8 0, .int .u8 0, .int .u8 0, .nilf, .nilp, .int .i32 0, .int .i32 0], 48⟩ := mkTI (z := (.agg #[.int .u64 0, .int .u64 0, .int .u32 0, .int .u8 0, .int .u8 0, .int .u8 0, .int .u8 0, .nilFunc, .pointer none, .int .i32 0, .int .i32 0])) (by kernel_rfl) Tryz.underlying217
theorem ti218 : TIok Tryz.prog 218 ⟨.struct [(0, 12), (1, 12), (2, 141), (3, 211), (4, 5), (5, 5), (6, 212), (7, 213), (8, 214), (9, 215), (10, 216)], 11, [.int .u64 0, .int .u64 0, .int .u32 0, .int .u8 0, .int .u8 0, .int .u8 0, .int .u8 0, .nilf, .nilp, .int .i32 0, .int .i32 0], 48⟩ := mkTI (z := (.agg #[.int .u64 0, .int .u64 0, .int .u32 0, .int .u8 0, .int .u8 0, .int .u8 0, .int .u8 0, .nilFunc, .pointer none, .int .i32 0, .int .i32 0])) (by kernel_rfl) Tryz.underlying218
theorem ttab_ok : ∀ q ∈ ttab, TIok Tryz.prog q.1 q.2 := by
  unfold ttab
  simp only [List.forall_mem_cons, List.not_mem_nil, false_imp_iff, implies_true, and_true]
  exact ⟨ti2, ti3, ti4, ti5, ti6, ti7, ti8, ti9, ti10, ti11, ti12, ti13, ti14, ti15, ti16, ti17, ti18, ti19, ti21, ti22, ti23, ti24, ti25, ti26, ti27, ti28, ti29, ti30, ti31, ti33, ti40, ti50, ti51, ti52, ti64, ti65, ti67, ti76, ti87, ti88, ti95, ti106, ti107, ti117, ti118, ti121, ti129, ti130, ti132, ti141, ti143, ti156, ti157, ti161, ti165, ti170, ti179, ti181, ti193, ti194, ti195, ti205, ti206, ti211, ti212, ti214, ti215, ti216, ti217, ti218⟩
theorem T_ok : TOk Tryz.prog T := by
  intro t i h
  unfold T at h
  simp only [Option.map_eq_some_iff] at h
  obtain ⟨q, hq, rfl⟩ := h
  have h1 := List.find?_some hq
  have h2 := ttab_ok q (List.mem_of_find?_eq_some hq)
  have h3 : q.1 = t := by simpa using h1
  rw [← h3]
  exact h2
theorem T2 : T 2 = some ⟨.int .i64, 1, [.int .i64 0], 8⟩ := by kernel_rfl
theorem T3 : T 3 = some ⟨.int .i64, 1, [.int .i64 0], 8⟩ := by kernel_rfl
theorem T4 : T 4 = some ⟨.bool, 1, [.bool false], 1⟩ := by kernel_rfl
theorem T22 : T 22 = some ⟨.slice 3, 1, [.nils], 24⟩ := by kernel_rfl
theorem T24 : T 24 = some ⟨.struct [(0, 3), (1, 3), (2, 22)], 3, [.int .i64 0, .int .i64 0, .nils], 40⟩ := by kernel_rfl
theorem T25 : T 25 = some ⟨.slice 22, 1, [.nils], 24⟩ := by kernel_rfl
theorem T27 : T 27 = some ⟨.struct [(0, 24), (3, 3), (4, 25)], 5, [.int .i64 0, .int .i64 0, .nils, .int .i64 0, .nils], 72⟩ := by kernel_rfl
theorem T29 : T 29 = some ⟨.struct [(0, 25)], 1, [.nils], 24⟩ := by kernel_rfl
theorem T31 : T 31 = some ⟨.struct [(0, 27), (5, 3), (6, 29), (7, 22), (8, 3)], 9, [.int .i64 0, .int .i64 0, .nils, .int .i64 0, .nils, .int .i64 0, .nils, .nils, .int .i64 0], 136⟩ := by kernel_rfl
theorem T40 : T 40 = some ⟨.slice 25, 1, [.nils], 24⟩ := by kernel_rfl
theorem T76 : T 76 = some ⟨.ptr 107, 1, [.nilp], 8⟩ := by kernel_rfl
theorem T88 : T 88 = some ⟨.struct [(0, 3), (1, 25)], 2, [.int .i64 0, .nils], 32⟩ := by kernel_rfl
theorem T107 : T 107 = some ⟨.struct [(0, 24), (3, 3), (4, 22), (5, 22)], 6, [.int .i64 0, .int .i64 0, .nils, .int .i64 0, .nils, .nils], 96⟩ := by kernel_rfl
theorem T118 : T 118 = some ⟨.struct [(0, 76), (1, 88), (3, 22)], 4, [.nilp, .int .i64 0, .nils, .nils], 64⟩ := by kernel_rfl
theorem T130 : T 130 = some ⟨.struct [(0, 27), (5, 3), (6, 3), (7, 22), (8, 4)], 9, [.int .i64 0, .int .i64 0, .nils, .int .i64 0, .nils, .int .i64 0, .int .i64 0, .nils, .bool false], 120⟩ := by kernel_rfl
theorem T157 : T 157 = some ⟨.struct [(0, 76), (1, 27), (6, 22), (7, 4), (8, 3), (9, 3), (10, 25), (11, 3)], 12, [.nilp, .int .i64 0, .int .i64 0, .nils, .int .i64 0, .nils, .nils, .bool false, .int .i64 0, .int .i64 0, .nils, .int .i64 0], 160⟩ := by kernel_rfl
theorem T170 : T 170 = some ⟨.slice 4, 1, [.nils], 24⟩ := by kernel_rfl
theorem T181 : T 181 = some ⟨.slice 88, 1, [.nils], 24⟩ := by kernel_rfl
theorem T195 : T 195 = some ⟨.struct [(0, 76), (1, 25), (2, 22)], 3, [.nilp, .nils, .nils], 56⟩ := by kernel_rfl
def lcb (o : Nat) : Option Blk → Option V
  | some k => if k.st = 0 then none else k.cells[o]?
  | none => none
def lc (m : Mem) (b o : Nat) : Option V := lcb o m[b]?
def lab (z o : Nat) : Option Blk → Option V
  | some k => if k.st = 0 then none else if o + z ≤ k.cells.length then some (.agg ((k.cells.drop o).take z)) else none
  | none => none
def la (z : Nat) (m : Mem) (b o : Nat) : Option V := lab z o m[b]?
def scb (o : Nat) (u : V) : Option Blk → Option Blk
  | some k => if k.st = 2 ∧ u.isCell = true ∧ o < k.cells.length then some ⟨k.cells.set o u, 2⟩ else none
  | none => none
def sc (m : Mem) (b o : Nat) (u : V) : Option Mem := (scb o u m[b]?).map fun k => m.set b k
@[simp] theorem lcb_some (o : Nat) (c : List V) (st : Nat) (h : st ≠ 0) : lcb o (some ⟨c, st⟩) = c[o]? := by simp [lcb, h]
@[simp] theorem lab_some (z o : Nat) (c : List V) (st : Nat) (h : st ≠ 0) : lab z o (some ⟨c, st⟩) = if o + z ≤ c.length then some (.agg ((c.drop o).take z)) else none := by simp [lab, h]
@[simp] theorem scb_some (o : Nat) (u : V) (c : List V) : scb o u (some ⟨c, 2⟩) = if u.isCell = true ∧ o < c.length then some ⟨c.set o u, 2⟩ else none := by simp [scb]
theorem ld_of {T : TT} {t : TypeId} {i : TI} (h : T t = some i) (ha : i.agg = false) (b o : Nat) (m : Mem) : opLoad T t (.ptr b o) m = lc m b o := by
  simp only [opLoad, h, lc, ha]; cases m[b]? <;> rfl
theorem la_of {T : TT} {t : TypeId} {i : TI} (h : T t = some i) (ha : i.agg = true) (b o : Nat) (m : Mem) : opLoad T t (.ptr b o) m = la i.size m b o := by
  simp only [opLoad, h, la, ha]; cases m[b]? <;> rfl
theorem st_of {T : TT} {t : TypeId} {i : TI} (h : T t = some i) (hz : i.size = 1) (b o : Nat) (u : V) (m : Mem) (hu : u.isCell = true) : opStore T t (.ptr b o) u m = sc m b o u := by
  have hc : u.cells = [u] := by cases u <;> simp [V.cells, V.isCell] at hu ⊢
  simp only [opStore, h, sc, hc, hz, hu, List.length_cons, List.length_nil, List.all_cons, List.all_nil, put_one, Bool.and_true, true_and]
  cases hm : m[b]? with
  | none => rfl
  | some k =>
    simp only [scb, hu, true_and, Nat.lt_iff_add_one_le]
    split <;> rfl
theorem st2 (b o : Nat) (u : V) (m : Mem) (hu : u.isCell = true) : opStore T 2 (.ptr b o) u m = sc m b o u := st_of T2 rfl b o u m hu
@[simp] theorem ld3 (b o : Nat) (m : Mem) : opLoad T 3 (.ptr b o) m = lc m b o := ld_of T3 rfl b o m
theorem st3 (b o : Nat) (u : V) (m : Mem) (hu : u.isCell = true) : opStore T 3 (.ptr b o) u m = sc m b o u := st_of T3 rfl b o u m hu
@[simp] theorem ld4 (b o : Nat) (m : Mem) : opLoad T 4 (.ptr b o) m = lc m b o := ld_of T4 rfl b o m
theorem st4 (b o : Nat) (u : V) (m : Mem) (hu : u.isCell = true) : opStore T 4 (.ptr b o) u m = sc m b o u := st_of T4 rfl b o u m hu
@[simp] theorem ld22 (b o : Nat) (m : Mem) : opLoad T 22 (.ptr b o) m = lc m b o := ld_of T22 rfl b o m
theorem st22 (b o : Nat) (u : V) (m : Mem) (hu : u.isCell = true) : opStore T 22 (.ptr b o) u m = sc m b o u := st_of T22 rfl b o u m hu
@[simp] theorem ld24 (b o : Nat) (m : Mem) : opLoad T 24 (.ptr b o) m = la 3 m b o := la_of T24 rfl b o m
@[simp] theorem fa24_0 (b o : Nat) : opFieldAddr T 24 (.ptr b o) 0 = some (.ptr b (o + 0)) := by simp [opFieldAddr, T24, T3]
@[simp] theorem fa24_1 (b o : Nat) : opFieldAddr T 24 (.ptr b o) 1 = some (.ptr b (o + 1)) := by simp [opFieldAddr, T24, T3]
@[simp] theorem fa24_2 (b o : Nat) : opFieldAddr T 24 (.ptr b o) 2 = some (.ptr b (o + 2)) := by simp [opFieldAddr, T24, T22]
@[simp] theorem ld25 (b o : Nat) (m : Mem) : opLoad T 25 (.ptr b o) m = lc m b o := ld_of T25 rfl b o m
theorem st25 (b o : Nat) (u : V) (m : Mem) (hu : u.isCell = true) : opStore T 25 (.ptr b o) u m = sc m b o u := st_of T25 rfl b o u m hu
@[simp] theorem ld27 (b o : Nat) (m : Mem) : opLoad T 27 (.ptr b o) m = la 5 m b o := la_of T27 rfl b o m
@[simp] theorem fa27_0 (b o : Nat) : opFieldAddr T 27 (.ptr b o) 0 = some (.ptr b (o + 0)) := by simp [opFieldAddr, T27, T24]
@[simp] theorem fa27_1 (b o : Nat) : opFieldAddr T 27 (.ptr b o) 1 = some (.ptr b (o + 3)) := by simp [opFieldAddr, T27, T3]
@[simp] theorem fa27_2 (b o : Nat) : opFieldAddr T 27 (.ptr b o) 2 = some (.ptr b (o + 4)) := by simp [opFieldAddr, T27, T25]
@[simp] theorem ld29 (b o : Nat) (m : Mem) : opLoad T 29 (.ptr b o) m = la 1 m b o := la_of T29 rfl b o m
@[simp] theorem fa29_0 (b o : Nat) : opFieldAddr T 29 (.ptr b o) 0 = some (.ptr b (o + 0)) := by simp [opFieldAddr, T29, T25]
@[simp] theorem ld31 (b o : Nat) (m : Mem) : opLoad T 31 (.ptr b o) m = la 9 m b o := la_of T31 rfl b o m
@[simp] theorem fa31_0 (b o : Nat) : opFieldAddr T 31 (.ptr b o) 0 = some (.ptr b (o + 0)) := by simp [opFieldAddr, T31, T27]
@[simp] theorem fa31_1 (b o : Nat) : opFieldAddr T 31 (.ptr b o) 1 = some (.ptr b (o + 5)) := by simp [opFieldAddr, T31, T3]
@[simp] theorem fa31_2 (b o : Nat) : opFieldAddr T 31 (.ptr b o) 2 = some (.ptr b (o + 6)) := by simp [opFieldAddr, T31, T29]
@[simp] theorem fa31_3 (b o : Nat) : opFieldAddr T 31 (.ptr b o) 3 = some (.ptr b (o + 7)) := by simp [opFieldAddr, T31, T22]
@[simp] theorem fa31_4 (b o : Nat) : opFieldAddr T 31 (.ptr b o) 4 = some (.ptr b (o + 8)) := by simp [opFieldAddr, T31, T3]
@[simp] theorem ld40 (b o : Nat) (m : Mem) : opLoad T 40 (.ptr b o) m = lc m b o := ld_of T40 rfl b o m
theorem st40 (b o : Nat) (u : V) (m : Mem) (hu : u.isCell = true) : opStore T 40 (.ptr b o) u m = sc m b o u := st_of T40 rfl b o u m hu
@[simp] theorem ld76 (b o : Nat) (m : Mem) : opLoad T 76 (.ptr b o) m = lc m b o := ld_of T76 rfl b o m
theorem st76 (b o : Nat) (u : V) (m : Mem) (hu : u.isCell = true) : opStore T 76 (.ptr b o) u m = sc m b o u := st_of T76 rfl b o u m hu
@[simp] theorem ld88 (b o : Nat) (m : Mem) : opLoad T 88 (.ptr b o) m = la 2 m b o := la_of T88 rfl b o m
@[simp] theorem fa88_0 (b o : Nat) : opFieldAddr T 88 (.ptr b o) 0 = some (.ptr b (o + 0)) := by simp [opFieldAddr, T88, T3]
@[simp] theorem fa88_1 (b o : Nat) : opFieldAddr T 88 (.ptr b o) 1 = some (.ptr b (o + 1)) := by simp [opFieldAddr, T88, T25]
@[simp] theorem fa107_0 (b o : Nat) : opFieldAddr T 107 (.ptr b o) 0 = some (.ptr b (o + 0)) := by simp [opFieldAddr, T107, T24]
@[simp] theorem fa107_1 (b o : Nat) : opFieldAddr T 107 (.ptr b o) 1 = some (.ptr b (o + 3)) := by simp [opFieldAddr, T107, T3]
@[simp] theorem fa107_2 (b o : Nat) : opFieldAddr T 107 (.ptr b o) 2 = some (.ptr b (o + 4)) := by simp [opFieldAddr, T107, T22]
@[simp] theorem fa107_3 (b o : Nat) : opFieldAddr T 107 (.ptr b o) 3 = some (.ptr b (o + 5)) := by simp [opFieldAddr, T107, T22]
@[simp] theorem ld118 (b o : Nat) (m : Mem) : opLoad T 118 (.ptr b o) m = la 4 m b o := la_of T118 rfl b o m
@[simp] theorem ld130 (b o : Nat) (m : Mem) : opLoad T 130 (.ptr b o) m = la 9 m b o := la_of T130 rfl b o m
@[simp] theorem fa130_0 (b o : Nat) : opFieldAddr T 130 (.ptr b o) 0 = some (.ptr b (o + 0)) := by simp [opFieldAddr, T130, T27]
@[simp] theorem fa130_1 (b o : Nat) : opFieldAddr T 130 (.ptr b o) 1 = some (.ptr b (o + 5)) := by simp [opFieldAddr, T130, T3]
@[simp] theorem fa130_2 (b o : Nat) : opFieldAddr T 130 (.ptr b o) 2 = some (.ptr b (o + 6)) := by simp [opFieldAddr, T130, T3]
@[simp] theorem fa130_4 (b o : Nat) : opFieldAddr T 130 (.ptr b o) 4 = some (.ptr b (o + 8)) := by simp [opFieldAddr, T130, T4]
@[simp] theorem fa157_0 (b o : Nat) : opFieldAddr T 157 (.ptr b o) 0 = some (.ptr b (o + 0)) := by simp [opFieldAddr, T157, T76]
@[simp] theorem fa157_1 (b o : Nat) : opFieldAddr T 157 (.ptr b o) 1 = some (.ptr b (o + 1)) := by simp [opFieldAddr, T157, T27]
@[simp] theorem fa157_3 (b o : Nat) : opFieldAddr T 157 (.ptr b o) 3 = some (.ptr b (o + 7)) := by simp [opFieldAddr, T157, T4]
@[simp] theorem fa157_4 (b o : Nat) : opFieldAddr T 157 (.ptr b o) 4 = some (.ptr b (o + 8)) := by simp [opFieldAddr, T157, T3]
@[simp] theorem fa157_5 (b o : Nat) : opFieldAddr T 157 (.ptr b o) 5 = some (.ptr b (o + 9)) := by simp [opFieldAddr, T157, T3]
@[simp] theorem fa157_6 (b o : Nat) : opFieldAddr T 157 (.ptr b o) 6 = some (.ptr b (o + 10)) := by simp [opFieldAddr, T157, T25]
@[simp] theorem fa157_7 (b o : Nat) : opFieldAddr T 157 (.ptr b o) 7 = some (.ptr b (o + 11)) := by simp [opFieldAddr, T157, T3]
@[simp] theorem fa195_0 (b o : Nat) : opFieldAddr T 195 (.ptr b o) 0 = some (.ptr b (o + 0)) := by simp [opFieldAddr, T195, T76]
@[simp] theorem fa195_1 (b o : Nat) : opFieldAddr T 195 (.ptr b o) 1 = some (.ptr b (o + 1)) := by simp [opFieldAddr, T195, T25]
@[simp] theorem fa195_2 (b o : Nat) : opFieldAddr T 195 (.ptr b o) 2 = some (.ptr b (o + 2)) := by simp [opFieldAddr, T195, T22]
end Go.Proofs.YtefjnnghfloddaaGreat.Abs

/- The rules by which a run is followed. -/
namespace Go.Proofs.YtefjnnghfloddaaGreat.Abs
set_option linter.unusedVariables false
set_option linter.unusedSimpArgs false
variable {e : Env} {m : Mem} {Q : Ex → Env → Mem → Prop} {A B : Run}
attribute [simp] W_sq W_blk W_rg WR_some bp_some bnd_some lft_some bg_bool pickV_bool nilChk_ptr extV_tup callV_fn ups_nil ups_cons upd_get chkd_app chkd_self
@[simp] theorem nx_normal : nx B Q .normal e m = W (B e m) Q := nr rfl
@[simp] theorem nx_ret : nx B Q .ret e m = Q .ret e m := nr rfl
@[simp] theorem nx_exit (j : Nat) : nx B Q (.exit j) e m = Q (.exit j) e m := nr rfl
@[simp] theorem inB_normal (id : Nat) : inB id Q .normal e m = Q .normal e m := nr rfl
@[simp] theorem inB_ret (id : Nat) : inB id Q .ret e m = Q .ret e m := nr rfl
@[simp] theorem inB_exit (id j : Nat) : inB id Q (.exit j) e m = if j = id then Q .normal e m else Q (.exit j) e m := nr rfl
@[simp] theorem W_sk' : W (sk e m) Q ↔ Q .normal e m := by
  constructor
  · rintro ⟨x, e', m', h, hq⟩; obtain ⟨rfl, h2⟩ := Prod.mk.inj (Option.some.inj h); obtain ⟨rfl, rfl⟩ := Prod.mk.inj h2; exact hq
  · exact W_sk
@[simp] theorem W_rt' : W (rt e m) Q ↔ Q .ret e m := by
  constructor
  · rintro ⟨x, e', m', h, hq⟩; obtain ⟨rfl, h2⟩ := Prod.mk.inj (Option.some.inj h); obtain ⟨rfl, rfl⟩ := Prod.mk.inj h2; exact hq
  · exact W_rt
@[simp] theorem W_exi' (id : Nat) : W (exi id e m) Q ↔ Q (.exit id) e m := by
  constructor
  · rintro ⟨x, e', m', h, hq⟩; obtain ⟨rfl, h2⟩ := Prod.mk.inj (Option.some.inj h); obtain ⟨rfl, rfl⟩ := Prod.mk.inj h2; exact hq
  · exact W_exi
def tst (v : V) (a b : Prop) : Prop := match v with
  | .bool t => if t then a else b
  | _ => False
@[simp] theorem tst_bool (t : Bool) (a b : Prop) : tst (.bool t) a b = if t then a else b := nr rfl
@[simp] theorem W_cnd' (c : Env → V) : W (cnd (fun e => some (c e)) A B e m) Q ↔ tst (c e) (W (A e m) Q) (W (B e m) Q) := by
  constructor
  · rintro ⟨x, e', m', h, hq⟩
    unfold cnd at h
    simp only at h
    cases hc : c e <;> rw [hc] at h <;> simp only at h
    case bool t =>
      simp only [tst_bool]
      cases t
      · exact ⟨_, _, _, h, hq⟩
      · exact ⟨_, _, _, h, hq⟩
    all_goals cases h
  · intro h
    cases hc : c e <;> rw [hc] at h <;> simp only [tst] at h
    case bool t =>
      refine W_cnd t (by simp [hc]) ?_ ?_
      · rintro rfl; exact h
      · rintro rfl; exact h
abbrev I (n : Int) : V := .int .i64 n
section
variable (t : TypeId) (a b : Int) (T : TT)
@[simp] theorem bin_add : opBin T .add t (.int .i64 a) (.int .i64 b) = some (.int .i64 (IntKind.i64.wrap (a + b))) := nr rfl
@[simp] theorem bin_sub : opBin T .sub t (.int .i64 a) (.int .i64 b) = some (.int .i64 (IntKind.i64.wrap (a - b))) := nr rfl
@[simp] theorem bin_mul : opBin T .mul t (.int .i64 a) (.int .i64 b) = some (.int .i64 (IntKind.i64.wrap (a * b))) := nr rfl
@[simp] theorem bin_lss : opBin T .lss t (.int .i64 a) (.int .i64 b) = some (.bool (decide (a < b))) := nr rfl
@[simp] theorem bin_leq : opBin T .leq t (.int .i64 a) (.int .i64 b) = some (.bool (decide (a ≤ b))) := nr rfl
@[simp] theorem bin_gtr : opBin T .gtr t (.int .i64 a) (.int .i64 b) = some (.bool (decide (a > b))) := nr rfl
@[simp] theorem bin_geq : opBin T .geq t (.int .i64 a) (.int .i64 b) = some (.bool (decide (a ≥ b))) := nr rfl
@[simp] theorem bin_eql : opBin T .eql t (.int .i64 a) (.int .i64 b) = some (.bool (a == b)) := nr rfl
@[simp] theorem bin_neq : opBin T .neq t (.int .i64 a) (.int .i64 b) = some (.bool (a != b)) := nr rfl
theorem bin_quo (h : b ≠ 0) : opBin T .quo t (.int .i64 a) (.int .i64 b) = some (.int .i64 (IntKind.i64.wrap (a.tdiv b))) := by simp [opBin, arInt, h]
theorem bin_rem (h : b ≠ 0) : opBin T .rem t (.int .i64 a) (.int .i64 b) = some (.int .i64 (a.tmod b)) := by simp [opBin, arInt, h]
@[simp] theorem bin_xor : opBin T .xor t (.int .i64 a) (.int .i64 b) = some (.int .i64 (IntKind.i64.wrap (BitVec.ofInt 64 a ^^^ BitVec.ofInt 64 b).toNat)) := nr rfl
@[simp] theorem un_not (b : Bool) : opUn .not (.bool b) = some (.bool !b) := nr rfl
@[simp] theorem min_two : opMin [.int .i64 a, .int .i64 b] = some (.int .i64 (if b < a then b else a)) := nr rfl
end
theorem tdiv_pos {a b : Int} (h : 0 ≤ a) : a.tdiv b = a / b := Int.tdiv_eq_ediv_of_nonneg h
theorem tmod_pos {a b : Int} (h : 0 ≤ a) : a.tmod b = a % b := Int.tmod_eq_emod_of_nonneg h
@[simp] theorem packV_one (v : V) : packV [v] = v := nr rfl
@[simp] theorem env0_get (l : List V) (t : Nat) : env0 l t = (l[t]?).getD V.undef := by simp [env0, List.getD_eq_getElem?_getD]
abbrev At (m : Mem) (b : Nat) (l : List V) (st : Nat) : Prop := m[b]? = some ⟨l, st⟩
theorem At.lt {m : Mem} {b : Nat} {l : List V} {st : Nat} (h : At m b l st) : b < m.length := by
  rcases Nat.lt_or_ge b m.length with h1 | h1
  · exact h1
  · rw [At, List.getElem?_eq_none h1] at h; cases h
theorem At.app {m : Mem} {b : Nat} {l : List V} {st : Nat} (h : At m b l st) (g : Mem) : At (m ++ g) b l st := by
  rw [At, List.getElem?_append_left h.lt]; exact h
theorem At.set_ne {m : Mem} {b b' : Nat} {l : List V} {st : Nat} {k : Blk} (h : At m b l st) (hne : b' ≠ b) : At (m.set b' k) b l st := by
  rw [At, List.getElem?_set_ne hne]; exact h
theorem At.set_self {m : Mem} {b : Nat} {l l' : List V} {st st' : Nat} (h : At m b l st) : At (m.set b ⟨l', st'⟩) b l' st' := by
  rw [At, List.getElem?_set_self h.lt]
theorem At.new (m : Mem) (l : List V) (st : Nat) (g : Mem) : At (m ++ ⟨l, st⟩ :: g) m.length l st := by simp [At]
theorem At.new1 (m : Mem) (l : List V) (st : Nat) : At (m ++ [⟨l, st⟩]) m.length l st := by simp [At]
theorem load_cell {T : TT} {t : TypeId} {i : TI} (ht : T t = some i) (ha : i.agg = false) {m : Mem} {b o : Nat} {l : List V} {st : Nat} (h : At m b l st) (hs : st ≠ 0) {v : V} (hv : l[o]? = some v) : opLoad T t (.ptr b o) m = some v := by
  simp [opLoad, ht, h, hs, ha, hv]
theorem index_sl {T : TT} {t e : TypeId} {i j : TI} (ht : T t = some i) (hk : i.k = .slice e) (he : T e = some j) {b o n c z : Nat} {ex : Bool} {k : IntKind} {ix : Int} (hz : z = j.size) (h0 : 0 ≤ ix) (h1 : ix < n) :
    opIndexAddr T t (.sl b o n c z ex) (.int k ix) = some (.ptr b (o + ix.toNat * z)) := by
  obtain ⟨k', s', z', b'⟩ := i
  simp only at hk
  subst hk
  simp [opIndexAddr, ht, he, hz, h0, h1]
@[simp] theorem len22_sl (b o n c z : Nat) (ex : Bool) : opLen T 22 (.sl b o n c z ex) = some (I n) := by simp [opLen, T22]
@[simp] theorem len22_nil : opLen T 22 .nils = some (I 0) := by simp [opLen, T22]
@[simp] theorem len25_sl (b o n c z : Nat) (ex : Bool) : opLen T 25 (.sl b o n c z ex) = some (I n) := by simp [opLen, T25]
@[simp] theorem len25_nil : opLen T 25 .nils = some (I 0) := by simp [opLen, T25]
theorem ia22 {b o n c : Nat} {ex : Bool} {ix : Int} (h0 : 0 ≤ ix) (h1 : ix < n) : opIndexAddr T 22 (.sl b o n c 1 ex) (I ix) = some (.ptr b (o + ix.toNat)) := by
  rw [index_sl T22 rfl T3 rfl h0 h1, Nat.mul_one]
theorem ia25 {b o n c : Nat} {ex : Bool} {ix : Int} (h0 : 0 ≤ ix) (h1 : ix < n) : opIndexAddr T 25 (.sl b o n c 1 ex) (I ix) = some (.ptr b (o + ix.toNat)) := by
  rw [index_sl T25 rfl T22 rfl h0 h1, Nat.mul_one]
theorem mk22 {l c : Int} (h0 : 0 ≤ l) (h1 : l ≤ c) (h2 : c ≤ 17592186044416) (m : Mem) : opMakeSlice T 22 (I l) (I c) m = some (.sl m.length 0 l.toNat c.toNat 1 true, m ++ [⟨List.replicate c.toNat (I 0), 2⟩]) := by
  have : 0 ≤ l ∧ l ≤ c ∧ c * 8 ≤ 140737488355328 ∧ c ≤ 4611686018427387904 := by omega
  simp [opMakeSlice, T22, T3, this, zeros_one]
end Go.Proofs.YtefjnnghfloddaaGreat.Abs

/- What the executor does at functions that it does not go into: their contracts. -/
namespace Go.Proofs.YtefjnnghfloddaaGreat.Abs
set_option linter.unusedVariables false
def intsOf : List V → Option (List Int)
  | [] => some []
  | .int .i64 n :: l => (intsOf l).map (n :: ·)
  | _ => none
def sortX (args : List V) (m : Mem) : Option (V × Mem) :=
  match args with
  | [.sl b 0 n c 1 ex] =>
    match m[b]? with
    | some k => if k.st = 2 ∧ k.cells.length = n ∧ 0 < n ∧ n < 4611686018427387904 then (intsOf k.cells).map fun l => (.tup [], m.set b ⟨(l.mergeSort fun x y => decide (x ≤ y)).map (.int .i64 ·), 2⟩) else none
    | none => none
  | _ => none
noncomputable def X : CallT := fun f args m => if f = 37 then sortX args m else none
end Go.Proofs.YtefjnnghfloddaaGreat.Abs

/- What slices.Chunk's iterator hands out. -/
namespace Go.Proofs.YtefjnnghfloddaaGreat.Abs
open Go.Proofs Go.RowKit
set_option linter.unusedVariables false
set_option linter.unusedSimpArgs false
def realParts (B k : Nat) : Nat → Nat → Nat → List Value
  | 0, _, _ => []
  | f + 1, o, n => if n = 0 then [] else .slice (some ⟨B, o, none⟩) (min k n) (min k n) :: realParts B k f (o + min k n) (n - min k n)
theorem parts_rel {ρ : Rho} {b : Nat} {p : Pl} (hp : ρ b = some p) {k : Nat} : ∀ (f o n Q : Nat), (0 < n → Q = p.O + o) → p.O ≤ Q → (p.rw = true → Q + n ≤ p.O + p.L) → RelL ρ (partsOf b k f o n) (realParts p.B k f Q n)
  | 0, o, n, Q, _, _, _ => by simp [partsOf, realParts, RelL]
  | f + 1, o, n, Q, h1, h2, h3 => by
    simp only [partsOf, realParts]
    by_cases h : n = 0
    · simp [h, RelL]
    · simp only [h, if_false, RelL]
      have hQ := h1 (by omega)
      refine ⟨_, _, rfl, ?_, parts_rel hp f _ _ _ (fun _ => by omega) (by omega) (fun h => by have := h3 h; omega)⟩
      simp only [Rel]
      exact ⟨p, Q, _, hp, rfl, Nat.le_refl _, Nat.le_refl _, fun _ => rfl, fun _ => hQ, h2, fun h => by have := h3 h; omega⟩
theorem parts_bel {L b k : Nat} (hb : b < L) : ∀ (f o n : Nat), belL L (partsOf b k f o n)
  | 0, o, n => by simp [partsOf, belL]
  | f + 1, o, n => by
    simp only [partsOf]
    by_cases h : n = 0
    · simp [h, belL]
    · simp only [h, if_false, belL]
      exact ⟨by simpa [V.bel] using hb, parts_bel hb f _ _⟩
theorem realParts_get {B k : Nat} (hk : 1 ≤ k) : ∀ (f o n j : Nat), n ≤ f → j * k < n → (realParts B k f o n)[j]? = some (.slice (some ⟨B, o + j * k, none⟩) (min k (n - j * k)) (min k (n - j * k)))
  | 0, o, n, j, h, h2 => by omega
  | f + 1, o, n, j, h, h2 => by
    have hn : n ≠ 0 := by omega
    simp only [realParts, hn, if_false]
    cases j with
    | zero => simp
    | succ j =>
      have e : (j + 1) * k = j * k + k := Nat.succ_mul j k
      have hkn : min k n = k := by omega
      rw [hkn, List.getElem?_cons_succ, realParts_get hk f (o + k) (n - k) j (by omega) (by omega)]
      rw [show o + k + j * k = o + (j + 1) * k by omega, show n - k - j * k = n - (j + 1) * k by omega]
theorem realParts_len {B k : Nat} (hk : 1 ≤ k) : ∀ (f o n j : Nat), n ≤ f → (j < (realParts B k f o n).length ↔ j * k < n)
  | 0, o, n, j, h => by simp [realParts]; omega
  | f + 1, o, n, j, h => by
    simp only [realParts]
    by_cases hn : n = 0
    · simp [hn]
    · simp only [hn, if_false, List.length_cons]
      cases j with
      | zero => simp; omega
      | succ j =>
        have e : (j + 1) * k = j * k + k := Nat.succ_mul j k
        have := realParts_len hk f (o + min k n) (n - min k n) j (by omega) (B := B)
        rw [Nat.add_lt_add_iff_right, this]
        omega
section
attribute [local go_sem] Oper.semAt_some
set_option maxRecDepth 100000 in
set_option maxHeartbeats 2000000 in
theorem chunk_calls (k n : Nat) (hk : 1 ≤ k) (hkb : k ≤ 17592186044416) (hn : n ≤ 17592186044416) (B Q B1 O1 B2 O2 : Nat) (xs : List Value)
    (hxs : ∀ j, j * k < n → xs[j]? = some (.slice (some ⟨B, Q + j * k, none⟩) (min k (n - j * k)) (min k (n - j * k)))) (hlen : ∀ j, j < xs.length ↔ j * k < n) (l : Nat) (J : Nat → World → Prop) (W : World)
    (hread : ∀ i W1, J i W1 → (∃ sp c', W1.cell? ⟨B1, O1, none⟩ = some (.slice sp n c') ∧ n ≤ c' ∧ (0 < n → sp = some ⟨B, Q, none⟩)) ∧ W1.cell? ⟨B2, O2, none⟩ = some (.int .i64 k))
    (hA : AbidesFrom W.heap.size J) (h0 : J 0 W)
    (hY : ∀ i x W1, J i W1 → xs[i]? = some x → YieldAt Fence.wide 1 Tryz.prog l #[x] W1 fun e W' => e = .returned (.bool true) ∧ J (i + 1) W') :
    CallsIn Fence.wide 2 Tryz.prog 112 #[.func (.yield l) #[] #[], .pointer (some ⟨B1, O1, none⟩), .pointer (some ⟨B2, O2, none⟩)] W fun e W' => (∃ v, e = .returned v) ∧ J xs.length W' := by
  refine callsIn_of_wp Tryz.func112 rfl trivial ?_ rfl
  simp only [Tryz.ntmps112, List.size_toArray, List.length_cons, List.length_nil, Nat.reduceAdd, Nat.reduceSub, Array.replicate_succ, Array.replicate_zero, List.push_toArray, List.append_toArray, List.nil_append, List.cons_append]
  gi_wp2
  gi_loopw [4] (fun i wr => ∃ j : Nat, i = .int .i64 (j * k : Nat) ∧ (j = 0 ∨ (j - 1) * k < n) ∧ J j wr) (fun i _ => n + k - (intOf i).toNat)
  case atStart => exact ⟨0, by simp, .inl rfl, h0⟩
  case round =>
    obtain ⟨j, rfl, hj, hJ⟩ := hrel
    obtain ⟨⟨sp, c', hc1, hcc, hsp⟩, hc2⟩ := hread j wr hJ
    by_cases hlt : j * k < n
    · obtain rfl := hsp (by omega)
      have hJd : J j wr.drew := hA j wr _ none hJ ⟨rfl, rfl, rfl, Nat.le_refl _, fun _ _ _ => rfl⟩ (fun r e => by cases e)
      have hc1' : wr.drew.cell? ⟨B1, O1, none⟩ = some (.slice (some ⟨B, Q, none⟩) n c') := hc1
      obtain ⟨fn, tmps, assign, body, hy, hR⟩ := hY j _ _ hJd (hxs j hlt)
      have hif : (if n - j * k < k then ((n - j * k : Nat) : Int) else (k : Int)) = ((min k (n - j * k) : Nat) : Int) := by
        split <;> omega
      obtain ⟨mn, hmn⟩ : ∃ mn, min k (n - j * k) = mn := ⟨_, rfl⟩
      have hmn1 : mn ≤ n - j * k := by omega
      have hmn2 : 0 < mn := by omega
      have hmn3 : mn = k ∨ j * k + mn = n := by omega
      obtain ⟨jk, hjk⟩ : ∃ jk, j * k = jk := ⟨_, rfl⟩
      have hjk' : (j : Int) * k = (jk : Nat) := by rw [← hjk]; simp
      rw [hmn] at hif hy
      rw [hjk] at hif hy hmn1 hmn3 hmn
      have hjn : jk < n := by omega
      gi_wp2
      gi_region
      simp only [hif, hjk'] at *
      gi_wp2
      refine hR.mono ?_
      rintro e W3 ⟨rfl, hJ3⟩
      obtain ⟨⟨sp3, c3, hd1, hd3, hd4⟩, hd2⟩ := hread _ W3 hJ3
      gi_wp2
      go_roundw
      case rel => exact ⟨j + 1, by rw [Nat.succ_mul, hjk]; simp, .inr (by simpa [hjk] using hjn), hJ3⟩
      case measure => rw [hjk]; simp [intOf]; omega
    · gi_wp2
      go_end0
      refine ⟨⟨_, rfl⟩, ?_⟩
      have h1 := hlen j
      have h2 := hlen (j - 1)
      have : j = xs.length := by
        rcases hj with rfl | hj
        · have : ¬ 0 < xs.length := fun h => hlt (h1.1 h)
          omega
        · have : ¬ j < xs.length := fun h => hlt (h1.1 h)
          have := h2.2 hj
          omega
      exact this ▸ hJ
end
theorem boxAt_rel {ρ : Rho} {m : Mem} {w : World} (S : Sim ρ m w) {p v : V} {x : Value} (h : boxAt m p = some v) (r : Rel ρ p x) : ∃ B O y, x = .pointer (some ⟨B, O, none⟩) ∧ w.cell? ⟨B, O, none⟩ = some y ∧ Rel ρ v y := by
  cases p <;> simp only [boxAt] at h <;> try cases h
  rename_i q o
  split at h
  case h_2 => cases h
  rename_i k hk
  split at h
  · cases h
  rename_i hst
  simp only [Rel] at r
  obtain ⟨l, hl, rfl⟩ := r
  obtain ⟨_, y, hy, ry⟩ := S.cell q l k hl hk hst o v h
  exact ⟨_, _, y, rfl, hy, ry⟩
theorem boxAt_bel {m : Mem} (hs : Sc m) {p v : V} (h : boxAt m p = some v) : v.bel m.length := by
  cases p <;> simp only [boxAt] at h <;> try cases h
  rename_i q o
  split at h
  case h_2 => cases h
  rename_i k hk
  split at h
  · cases h
  exact hs.get hk (List.mem_of_getElem? h)
theorem chunk_iter : IterSound Tryz.prog := by
  intro g caps m vs h hs hb
  unfold IT at h
  split at h
  case isFalse => cases h
  rename_i hg
  subst hg
  split at h
  case h_2 => cases h
  rename_i p q
  have enter : ∀ args w, (callFunc chunkNo args).run Tryz.prog w = .ok (.enter chunkNo args) w := by
    intro args w
    have h1 : Tryz.prog.funcs[chunkNo]? = some Tryz.f112 := Tryz.func112
    have h3 : ¬ Tryz.f112.name = "runtime.NumGoroutine" := by decide
    have h4 : Tryz.f112.body.isSome = true := rfl
    obtain ⟨c, hc⟩ := Option.isSome_iff_exists.1 h4
    simp [callFunc, h1, h3, hc]
  have boxes : ∀ {ρ : Rho} {w : World} {lb : Array Value} {s : V} {kk : Int}, boxAt m p = some s → boxAt m q = some (.int .i64 kk) → RelL ρ [p, q] lb.toList → Sim ρ m w →
      ∃ B1 O1 B2 O2, lb = #[.pointer (some ⟨B1, O1, none⟩), .pointer (some ⟨B2, O2, none⟩)] ∧ ∀ ρ' m' W1, ρ.le ρ' → Sim ρ' m' W1 → [p, q].map (boxAt m') = [p, q].map (boxAt m) →
        (∃ y, W1.cell? ⟨B1, O1, none⟩ = some y ∧ Rel ρ' s y) ∧ W1.cell? ⟨B2, O2, none⟩ = some (.int .i64 kk) := by
    intro ρ w lb s kk h1 h2 hlb S
    simp only [RelL] at hlb
    obtain ⟨y1, ys, e1, r1, y2, ys2, e2, r2, e3⟩ := hlb
    subst e3 e2
    obtain ⟨B1, O1, u1, rfl, _, _⟩ := boxAt_rel S h1 r1
    obtain ⟨B2, O2, u2, rfl, _, _⟩ := boxAt_rel S h2 r2
    refine ⟨B1, O1, B2, O2, by rw [← Array.toList_inj, e1], ?_⟩
    intro ρ' m' W1 hle S' hbx
    simp only [List.map_cons, List.map_nil, List.cons.injEq, and_true] at hbx
    obtain ⟨B1', O1', u1', e1', c1, g1⟩ := boxAt_rel S' (hbx.1.trans h1) (r1.mono hle)
    obtain ⟨B2', O2', u2', e2', c2, g2⟩ := boxAt_rel S' (hbx.2.trans h2) (r2.mono hle)
    cases e1'
    cases e2'
    simp only [Rel] at g2
    subst g2
    exact ⟨⟨_, c1, g1⟩, c2⟩
  split at h
  · rename_i b o n c ex k h1 h2
    split at h
    case isFalse => cases h
    rename_i hk
    obtain rfl := Option.some.inj h
    refine ⟨parts_bel (by have := boxAt_bel hs h1; simpa [V.bel] using this) _ _ _, enter, ?_⟩
    intro ρ w lb hlb S
    obtain ⟨B1, O1, B2, O2, rfl, hbx⟩ := boxes h1 h2 hlb S
    obtain ⟨⟨y, hy, r⟩, _⟩ := hbx ρ m w (fun _ _ h => h) S rfl
    simp only [Rel] at r
    obtain ⟨pl, Q, c0, hp, rfl, r1, r2, r3, r4, r5, r6⟩ := r
    have hkk : ((k.toNat : Nat) : Int) = k := by omega
    refine ⟨realParts pl.B k.toNat n Q n, parts_rel hp _ _ _ _ (fun h => r4 (by omega)) r5 (fun h => by have := r6 h; omega), ?_⟩
    intro l J W hJ hA h0 hY
    refine chunk_calls k.toNat n (by omega) (by omega) hk.2.2 pl.B Q B1 O1 B2 O2 _ (fun j hj => realParts_get (by omega) n Q n j (Nat.le_refl _) hj) (fun j => realParts_len (by omega) n Q n j (Nat.le_refl _)) l J W ?_ hA h0 hY
    intro i W1 hi
    obtain ⟨ρ', m', hle, S', hbb⟩ := hJ i W1 hi
    obtain ⟨⟨y', hy', g⟩, hc2⟩ := hbx ρ' m' W1 hle S' hbb
    simp only [Rel] at g
    obtain ⟨pl', Q', c0', hp', rfl, g1, g2, g3, g4, g5, g6⟩ := g
    rw [hle _ _ hp] at hp'
    obtain rfl := Option.some.inj hp'
    exact ⟨⟨_, c0', hy', by omega, fun h => by rw [g4 (by omega), r4 (by omega)]⟩, by rw [hkk]; exact hc2⟩
  all_goals first | (cases h; done) | skip
  all_goals
    rename_i k h1 h2
    split at h
    case isFalse => cases h
    rename_i hk
    obtain rfl := Option.some.inj h
    refine ⟨by simp [belL], enter, ?_⟩
    intro ρ w lb hlb S
    obtain ⟨B1, O1, B2, O2, rfl, hbx⟩ := boxes h1 h2 hlb S
    have hkk : ((k.toNat : Nat) : Int) = k := by omega
    refine ⟨[], by simp [RelL], ?_⟩
    intro l J W hJ hA h0 hY
    refine chunk_calls k.toNat 0 (by omega) hk.2 (by omega) 0 0 B1 O1 B2 O2 [] (fun j hj => by omega) (fun j => by simp) l J W ?_ hA h0 hY
    intro i W1 hi
    obtain ⟨ρ', m', hle, S', hbb⟩ := hJ i W1 hi
    obtain ⟨⟨y', hy', g⟩, hc2⟩ := hbx ρ' m' W1 hle S' hbb
    simp only [Rel] at g
    first
      | (subst g; exact ⟨⟨_, 0, hy', Nat.le_refl _, fun h => by omega⟩, by rw [hkk]; exact hc2⟩)
      | (obtain ⟨a, rfl⟩ := g; exact ⟨⟨_, 0, hy', Nat.le_refl _, fun h => by omega⟩, by rw [hkk]; exact hc2⟩)
end Go.Proofs.YtefjnnghfloddaaGreat.Abs

/- The program's functions as the executor runs them, each proved to be so. Printed by gen.py, a program of this work. -/
namespace Go.Proofs.YtefjnnghfloddaaGreat.Abs
open Go.Proofs
set_option linter.unusedVariables false
set_option maxRecDepth 100000
noncomputable def ftab : List (Nat × Func) := [(3, Tryz.f3), (9, Tryz.f9), (10, Tryz.f10), (11, Tryz.f11), (26, Tryz.f26), (27, Tryz.f27), (28, Tryz.f28), (29, Tryz.f29), (30, Tryz.f30), (31, Tryz.f31), (32, Tryz.f32), (33, Tryz.f33), (45, Tryz.f45), (48, Tryz.f48), (54, Tryz.f54), (55, Tryz.f55), (56, Tryz.f56), (57, Tryz.f57), (58, Tryz.f58), (59, Tryz.f59), (60, Tryz.f60), (61, Tryz.f61), (62, Tryz.f62), (63, Tryz.f63), (64, Tryz.f64), (65, Tryz.f65), (74, Tryz.f74), (75, Tryz.f75), (77, Tryz.f77), (78, Tryz.f78), (79, Tryz.f79), (80, Tryz.f80), (81, Tryz.f81), (85, Tryz.f85), (88, Tryz.f88), (89, Tryz.f89), (90, Tryz.f90), (91, Tryz.f91), (92, Tryz.f92), (93, Tryz.f93), (94, Tryz.f94), (95, Tryz.f95), (96, Tryz.f96), (97, Tryz.f97), (98, Tryz.f98), (99, Tryz.f99), (100, Tryz.f100), (115, Tryz.f115), (116, Tryz.f116), (117, Tryz.f117), (118, Tryz.f118), (119, Tryz.f119), (123, Tryz.f123), (124, Tryz.f124), (125, Tryz.f125), (126, Tryz.f126), (127, Tryz.f127), (128, Tryz.f128), (129, Tryz.f129), (130, Tryz.f130), (131, Tryz.f131), (132, Tryz.f132), (133, Tryz.f133), (141, Tryz.f141), (142, Tryz.f142), (144, Tryz.f144), (145, Tryz.f145), (146, Tryz.f146), (147, Tryz.f147), (149, Tryz.f149), (150, Tryz.f150), (151, Tryz.f151), (152, Tryz.f152), (153, Tryz.f153), (154, Tryz.f154), (155, Tryz.f155), (156, Tryz.f156), (157, Tryz.f157), (158, Tryz.f158), (160, Tryz.f160), (161, Tryz.f161), (162, Tryz.f162), (163, Tryz.f163), (164, Tryz.f164), (165, Tryz.f165), (166, Tryz.f166), (167, Tryz.f167), (168, Tryz.f168), (169, Tryz.f169), (170, Tryz.f170), (171, Tryz.f171), (174, Tryz.f174), (175, Tryz.f175), (176, Tryz.f176), (180, Tryz.f180), (181, Tryz.f181), (182, Tryz.f182), (183, Tryz.f183), (187, Tryz.f187), (188, Tryz.f188), (189, Tryz.f189), (41, Tryz.f41), (6, Tryz.f6), (17, Tryz.f17), (18, Tryz.f18), (40, Tryz.f40), (71, Tryz.f71), (72, Tryz.f72), (46, Tryz.f46), (73, Tryz.f73), (113, Tryz.f113), (140, Tryz.f140), (114, Tryz.f114), (143, Tryz.f143), (42, Tryz.f42), (19, Tryz.f19), (22, Tryz.f22), (52, Tryz.f52), (53, Tryz.f53), (12, Tryz.f12)]
noncomputable def F : FT := fun f => (ftab.find? (fun q => q.1 == f)).map (·.2)
noncomputable abbrev DD : CallT := D T F X
abbrev RR := CallT → Reg
abbrev RC := CallT → Run
theorem eOf {n : Nat} {f : Func} {a : List V} {m : Mem} {r : Option (V × Mem)} (h : F n = some f) (k : runBody T DD loopD f a m = r) : DD n a m = r := (D_eq h a m).trans k
abbrev FO (n : Nat) (f : Func) : Prop := Tryz.prog.funcs[n]? = some f ∧ (f.name == "runtime.NumGoroutine") = false ∧ ∀ c, f.body = some c → codeOk2 f.ntmps c = true
theorem fo3 : FO 3 Tryz.f3 := ⟨Tryz.func3, by kernel_rfl, codeOf (by kernel_rfl)⟩
theorem fo9 : FO 9 Tryz.f9 := ⟨Tryz.func9, by kernel_rfl, codeOf (by kernel_rfl)⟩
theorem fo10 : FO 10 Tryz.f10 := ⟨Tryz.func10, by kernel_rfl, codeOf (by kernel_rfl)⟩
theorem fo11 : FO 11 Tryz.f11 := ⟨Tryz.func11, by kernel_rfl, codeOf (by kernel_rfl)⟩
theorem fo26 : FO 26 Tryz.f26 := ⟨Tryz.func26, by kernel_rfl, codeOf (by kernel_rfl)⟩
theorem fo27 : FO 27 Tryz.f27 := ⟨Tryz.func27, by kernel_rfl, codeOf (by kernel_rfl)⟩
theorem fo28 : FO 28 Tryz.f28 := ⟨Tryz.func28, by kernel_rfl, codeOf (by kernel_rfl)⟩
theorem fo29 : FO 29 Tryz.f29 := ⟨Tryz.func29, by kernel_rfl, codeOf (by kernel_rfl)⟩
theorem fo30 : FO 30 Tryz.f30 := ⟨Tryz.func30, by kernel_rfl, codeOf (by kernel_rfl)⟩
theorem fo31 : FO 31 Tryz.f31 := ⟨Tryz.func31, by kernel_rfl, codeOf (by kernel_rfl)⟩
theorem fo32 : FO 32 Tryz.f32 := ⟨Tryz.func32, by kernel_rfl, codeOf (by kernel_rfl)⟩
theorem fo33 : FO 33 Tryz.f33 := ⟨Tryz.func33, by kernel_rfl, codeOf (by kernel_rfl)⟩
theorem fo45 : FO 45 Tryz.f45 := ⟨Tryz.func45, by kernel_rfl, codeOf (by kernel_rfl)⟩
theorem fo48 : FO 48 Tryz.f48 := ⟨Tryz.func48, by kernel_rfl, codeOf (by kernel_rfl)⟩
theorem fo54 : FO 54 Tryz.f54 := ⟨Tryz.func54, by kernel_rfl, codeOf (by kernel_rfl)⟩
theorem fo55 : FO 55 Tryz.f55 := ⟨Tryz.func55, by kernel_rfl, codeOf (by kernel_rfl)⟩
theorem fo56 : FO 56 Tryz.f56 := ⟨Tryz.func56, by kernel_rfl, codeOf (by kernel_rfl)⟩
theorem fo57 : FO 57 Tryz.f57 := ⟨Tryz.func57, by kernel_rfl, codeOf (by kernel_rfl)⟩
theorem fo58 : FO 58 Tryz.f58 := ⟨Tryz.func58, by kernel_rfl, codeOf (by kernel_rfl)⟩
theorem fo59 : FO 59 Tryz.f59 := ⟨Tryz.func59, by kernel_rfl, codeOf (by kernel_rfl)⟩
theorem fo60 : FO 60 Tryz.f60 := ⟨Tryz.func60, by kernel_rfl, codeOf (by kernel_rfl)⟩
theorem fo61 : FO 61 Tryz.f61 := ⟨Tryz.func61, by kernel_rfl, codeOf (by kernel_rfl)⟩
theorem fo62 : FO 62 Tryz.f62 := ⟨Tryz.func62, by kernel_rfl, codeOf (by kernel_rfl)⟩
theorem fo63 : FO 63 Tryz.f63 := ⟨Tryz.func63, by kernel_rfl, codeOf (by kernel_rfl)⟩
theorem fo64 : FO 64 Tryz.f64 := ⟨Tryz.func64, by kernel_rfl, codeOf (by kernel_rfl)⟩
theorem fo65 : FO 65 Tryz.f65 := ⟨Tryz.func65, by kernel_rfl, codeOf (by kernel_rfl)⟩
theorem fo74 : FO 74 Tryz.f74 := ⟨Tryz.func74, by kernel_rfl, codeOf (by kernel_rfl)⟩
theorem fo75 : FO 75 Tryz.f75 := ⟨Tryz.func75, by kernel_rfl, codeOf (by kernel_rfl)⟩
theorem fo77 : FO 77 Tryz.f77 := ⟨Tryz.func77, by kernel_rfl, codeOf (by kernel_rfl)⟩
theorem fo78 : FO 78 Tryz.f78 := ⟨Tryz.func78, by kernel_rfl, codeOf (by kernel_rfl)⟩
theorem fo79 : FO 79 Tryz.f79 := ⟨Tryz.func79, by kernel_rfl, codeOf (by kernel_rfl)⟩
theorem fo80 : FO 80 Tryz.f80 := ⟨Tryz.func80, by kernel_rfl, codeOf (by kernel_rfl)⟩
theorem fo81 : FO 81 Tryz.f81 := ⟨Tryz.func81, by kernel_rfl, codeOf (by kernel_rfl)⟩
theorem fo85 : FO 85 Tryz.f85 := ⟨Tryz.func85, by kernel_rfl, codeOf (by kernel_rfl)⟩
theorem fo88 : FO 88 Tryz.f88 := ⟨Tryz.func88, by kernel_rfl, codeOf (by kernel_rfl)⟩
theorem fo89 : FO 89 Tryz.f89 := ⟨Tryz.func89, by kernel_rfl, codeOf (by kernel_rfl)⟩
theorem fo90 : FO 90 Tryz.f90 := ⟨Tryz.func90, by kernel_rfl, codeOf (by kernel_rfl)⟩
theorem fo91 : FO 91 Tryz.f91 := ⟨Tryz.func91, by kernel_rfl, codeOf (by kernel_rfl)⟩
theorem fo92 : FO 92 Tryz.f92 := ⟨Tryz.func92, by kernel_rfl, codeOf (by kernel_rfl)⟩
theorem fo93 : FO 93 Tryz.f93 := ⟨Tryz.func93, by kernel_rfl, codeOf (by kernel_rfl)⟩
theorem fo94 : FO 94 Tryz.f94 := ⟨Tryz.func94, by kernel_rfl, codeOf (by kernel_rfl)⟩
theorem fo95 : FO 95 Tryz.f95 := ⟨Tryz.func95, by kernel_rfl, codeOf (by kernel_rfl)⟩
theorem fo96 : FO 96 Tryz.f96 := ⟨Tryz.func96, by kernel_rfl, codeOf (by kernel_rfl)⟩
theorem fo97 : FO 97 Tryz.f97 := ⟨Tryz.func97, by kernel_rfl, codeOf (by kernel_rfl)⟩
theorem fo98 : FO 98 Tryz.f98 := ⟨Tryz.func98, by kernel_rfl, codeOf (by kernel_rfl)⟩
theorem fo99 : FO 99 Tryz.f99 := ⟨Tryz.func99, by kernel_rfl, codeOf (by kernel_rfl)⟩
theorem fo100 : FO 100 Tryz.f100 := ⟨Tryz.func100, by kernel_rfl, codeOf (by kernel_rfl)⟩
theorem fo115 : FO 115 Tryz.f115 := ⟨Tryz.func115, by kernel_rfl, codeOf (by kernel_rfl)⟩
theorem fo116 : FO 116 Tryz.f116 := ⟨Tryz.func116, by kernel_rfl, codeOf (by kernel_rfl)⟩
theorem fo117 : FO 117 Tryz.f117 := ⟨Tryz.func117, by kernel_rfl, codeOf (by kernel_rfl)⟩
theorem fo118 : FO 118 Tryz.f118 := ⟨Tryz.func118, by kernel_rfl, codeOf (by kernel_rfl)⟩
theorem fo119 : FO 119 Tryz.f119 := ⟨Tryz.func119, by kernel_rfl, codeOf (by kernel_rfl)⟩
theorem fo123 : FO 123 Tryz.f123 := ⟨Tryz.func123, by kernel_rfl, codeOf (by kernel_rfl)⟩
theorem fo124 : FO 124 Tryz.f124 := ⟨Tryz.func124, by kernel_rfl, codeOf (by kernel_rfl)⟩
theorem fo125 : FO 125 Tryz.f125 := ⟨Tryz.func125, by kernel_rfl, codeOf (by kernel_rfl)⟩
theorem fo126 : FO 126 Tryz.f126 := ⟨Tryz.func126, by kernel_rfl, codeOf (by kernel_rfl)⟩
theorem fo127 : FO 127 Tryz.f127 := ⟨Tryz.func127, by kernel_rfl, codeOf (by kernel_rfl)⟩
theorem fo128 : FO 128 Tryz.f128 := ⟨Tryz.func128, by kernel_rfl, codeOf (by kernel_rfl)⟩
theorem fo129 : FO 129 Tryz.f129 := ⟨Tryz.func129, by kernel_rfl, codeOf (by kernel_rfl)⟩
theorem fo130 : FO 130 Tryz.f130 := ⟨Tryz.func130, by kernel_rfl, codeOf (by kernel_rfl)⟩
theorem fo131 : FO 131 Tryz.f131 := ⟨Tryz.func131, by kernel_rfl, codeOf (by kernel_rfl)⟩
theorem fo132 : FO 132 Tryz.f132 := ⟨Tryz.func132, by kernel_rfl, codeOf (by kernel_rfl)⟩
theorem fo133 : FO 133 Tryz.f133 := ⟨Tryz.func133, by kernel_rfl, codeOf (by kernel_rfl)⟩
theorem fo141 : FO 141 Tryz.f141 := ⟨Tryz.func141, by kernel_rfl, codeOf (by kernel_rfl)⟩
theorem fo142 : FO 142 Tryz.f142 := ⟨Tryz.func142, by kernel_rfl, codeOf (by kernel_rfl)⟩
theorem fo144 : FO 144 Tryz.f144 := ⟨Tryz.func144, by kernel_rfl, codeOf (by kernel_rfl)⟩
theorem fo145 : FO 145 Tryz.f145 := ⟨Tryz.func145, by kernel_rfl, codeOf (by kernel_rfl)⟩
theorem fo146 : FO 146 Tryz.f146 := ⟨Tryz.func146, by kernel_rfl, codeOf (by kernel_rfl)⟩
theorem fo147 : FO 147 Tryz.f147 := ⟨Tryz.func147, by kernel_rfl, codeOf (by kernel_rfl)⟩
theorem fo149 : FO 149 Tryz.f149 := ⟨Tryz.func149, by kernel_rfl, codeOf (by kernel_rfl)⟩
theorem fo150 : FO 150 Tryz.f150 := ⟨Tryz.func150, by kernel_rfl, codeOf (by kernel_rfl)⟩
theorem fo151 : FO 151 Tryz.f151 := ⟨Tryz.func151, by kernel_rfl, codeOf (by kernel_rfl)⟩
theorem fo152 : FO 152 Tryz.f152 := ⟨Tryz.func152, by kernel_rfl, codeOf (by kernel_rfl)⟩
theorem fo153 : FO 153 Tryz.f153 := ⟨Tryz.func153, by kernel_rfl, codeOf (by kernel_rfl)⟩
theorem fo154 : FO 154 Tryz.f154 := ⟨Tryz.func154, by kernel_rfl, codeOf (by kernel_rfl)⟩
theorem fo155 : FO 155 Tryz.f155 := ⟨Tryz.func155, by kernel_rfl, codeOf (by kernel_rfl)⟩
theorem fo156 : FO 156 Tryz.f156 := ⟨Tryz.func156, by kernel_rfl, codeOf (by kernel_rfl)⟩
theorem fo157 : FO 157 Tryz.f157 := ⟨Tryz.func157, by kernel_rfl, codeOf (by kernel_rfl)⟩
theorem fo158 : FO 158 Tryz.f158 := ⟨Tryz.func158, by kernel_rfl, codeOf (by kernel_rfl)⟩
theorem fo160 : FO 160 Tryz.f160 := ⟨Tryz.func160, by kernel_rfl, codeOf (by kernel_rfl)⟩
theorem fo161 : FO 161 Tryz.f161 := ⟨Tryz.func161, by kernel_rfl, codeOf (by kernel_rfl)⟩
theorem fo162 : FO 162 Tryz.f162 := ⟨Tryz.func162, by kernel_rfl, codeOf (by kernel_rfl)⟩
theorem fo163 : FO 163 Tryz.f163 := ⟨Tryz.func163, by kernel_rfl, codeOf (by kernel_rfl)⟩
theorem fo164 : FO 164 Tryz.f164 := ⟨Tryz.func164, by kernel_rfl, codeOf (by kernel_rfl)⟩
theorem fo165 : FO 165 Tryz.f165 := ⟨Tryz.func165, by kernel_rfl, codeOf (by kernel_rfl)⟩
theorem fo166 : FO 166 Tryz.f166 := ⟨Tryz.func166, by kernel_rfl, codeOf (by kernel_rfl)⟩
theorem fo167 : FO 167 Tryz.f167 := ⟨Tryz.func167, by kernel_rfl, codeOf (by kernel_rfl)⟩
theorem fo168 : FO 168 Tryz.f168 := ⟨Tryz.func168, by kernel_rfl, codeOf (by kernel_rfl)⟩
theorem fo169 : FO 169 Tryz.f169 := ⟨Tryz.func169, by kernel_rfl, codeOf (by kernel_rfl)⟩
theorem fo170 : FO 170 Tryz.f170 := ⟨Tryz.func170, by kernel_rfl, codeOf (by kernel_rfl)⟩
theorem fo171 : FO 171 Tryz.f171 := ⟨Tryz.func171, by kernel_rfl, codeOf (by kernel_rfl)⟩
theorem fo174 : FO 174 Tryz.f174 := ⟨Tryz.func174, by kernel_rfl, codeOf (by kernel_rfl)⟩
theorem fo175 : FO 175 Tryz.f175 := ⟨Tryz.func175, by kernel_rfl, codeOf (by kernel_rfl)⟩
theorem fo176 : FO 176 Tryz.f176 := ⟨Tryz.func176, by kernel_rfl, codeOf (by kernel_rfl)⟩
theorem fo180 : FO 180 Tryz.f180 := ⟨Tryz.func180, by kernel_rfl, codeOf (by kernel_rfl)⟩
theorem fo181 : FO 181 Tryz.f181 := ⟨Tryz.func181, by kernel_rfl, codeOf (by kernel_rfl)⟩
theorem fo182 : FO 182 Tryz.f182 := ⟨Tryz.func182, by kernel_rfl, codeOf (by kernel_rfl)⟩
theorem fo183 : FO 183 Tryz.f183 := ⟨Tryz.func183, by kernel_rfl, codeOf (by kernel_rfl)⟩
theorem fo187 : FO 187 Tryz.f187 := ⟨Tryz.func187, by kernel_rfl, codeOf (by kernel_rfl)⟩
theorem fo188 : FO 188 Tryz.f188 := ⟨Tryz.func188, by kernel_rfl, codeOf (by kernel_rfl)⟩
theorem fo189 : FO 189 Tryz.f189 := ⟨Tryz.func189, by kernel_rfl, codeOf (by kernel_rfl)⟩
theorem fo41 : FO 41 Tryz.f41 := ⟨Tryz.func41, by kernel_rfl, codeOf (by kernel_rfl)⟩
theorem fo6 : FO 6 Tryz.f6 := ⟨Tryz.func6, by kernel_rfl, codeOf (by kernel_rfl)⟩
theorem fo17 : FO 17 Tryz.f17 := ⟨Tryz.func17, by kernel_rfl, codeOf (by kernel_rfl)⟩
theorem fo18 : FO 18 Tryz.f18 := ⟨Tryz.func18, by kernel_rfl, codeOf (by kernel_rfl)⟩
theorem fo40 : FO 40 Tryz.f40 := ⟨Tryz.func40, by kernel_rfl, codeOf (by kernel_rfl)⟩
theorem fo71 : FO 71 Tryz.f71 := ⟨Tryz.func71, by kernel_rfl, codeOf (by kernel_rfl)⟩
theorem fo72 : FO 72 Tryz.f72 := ⟨Tryz.func72, by kernel_rfl, codeOf (by kernel_rfl)⟩
theorem fo46 : FO 46 Tryz.f46 := ⟨Tryz.func46, by kernel_rfl, codeOf (by kernel_rfl)⟩
theorem fo73 : FO 73 Tryz.f73 := ⟨Tryz.func73, by kernel_rfl, codeOf (by kernel_rfl)⟩
theorem fo113 : FO 113 Tryz.f113 := ⟨Tryz.func113, by kernel_rfl, codeOf (by kernel_rfl)⟩
theorem fo140 : FO 140 Tryz.f140 := ⟨Tryz.func140, by kernel_rfl, codeOf (by kernel_rfl)⟩
theorem fo114 : FO 114 Tryz.f114 := ⟨Tryz.func114, by kernel_rfl, codeOf (by kernel_rfl)⟩
theorem fo143 : FO 143 Tryz.f143 := ⟨Tryz.func143, by kernel_rfl, codeOf (by kernel_rfl)⟩
theorem fo42 : FO 42 Tryz.f42 := ⟨Tryz.func42, by kernel_rfl, codeOf (by kernel_rfl)⟩
theorem fo19 : FO 19 Tryz.f19 := ⟨Tryz.func19, by kernel_rfl, codeOf (by kernel_rfl)⟩
theorem fo22 : FO 22 Tryz.f22 := ⟨Tryz.func22, by kernel_rfl, codeOf (by kernel_rfl)⟩
theorem fo52 : FO 52 Tryz.f52 := ⟨Tryz.func52, by kernel_rfl, codeOf (by kernel_rfl)⟩
theorem fo53 : FO 53 Tryz.f53 := ⟨Tryz.func53, by kernel_rfl, codeOf (by kernel_rfl)⟩
theorem fo12 : FO 12 Tryz.f12 := ⟨Tryz.func12, by kernel_rfl, codeOf (by kernel_rfl)⟩
theorem F_ok : FOk Tryz.prog F := by
  refine ⟨?_, by kernel_rfl, chunk_iter⟩
  intro f fn h
  unfold F at h
  simp only [Option.map_eq_some_iff] at h
  obtain ⟨q, hq, rfl⟩ := h
  have h1 := List.find?_some hq
  have h2 : ∀ q ∈ ftab, FO q.1 q.2 := by
    unfold ftab
    simp only [List.forall_mem_cons, List.not_mem_nil, false_imp_iff, implies_true, and_true]
    exact ⟨fo3, fo9, fo10, fo11, fo26, fo27, fo28, fo29, fo30, fo31, fo32, fo33, fo45, fo48, fo54, fo55, fo56, fo57, fo58, fo59, fo60, fo61, fo62, fo63, fo64, fo65, fo74, fo75, fo77, fo78, fo79, fo80, fo81, fo85, fo88, fo89, fo90, fo91, fo92, fo93, fo94, fo95, fo96, fo97, fo98, fo99, fo100, fo115, fo116, fo117, fo118, fo119, fo123, fo124, fo125, fo126, fo127, fo128, fo129, fo130, fo131, fo132, fo133, fo141, fo142, fo144, fo145, fo146, fo147, fo149, fo150, fo151, fo152, fo153, fo154, fo155, fo156, fo157, fo158, fo160, fo161, fo162, fo163, fo164, fo165, fo166, fo167, fo168, fo169, fo170, fo171, fo174, fo175, fo176, fo180, fo181, fo182, fo183, fo187, fo188, fo189, fo41, fo6, fo17, fo18, fo40, fo71, fo72, fo46, fo73, fo113, fo140, fo114, fo143, fo42, fo19, fo22, fo52, fo53, fo12⟩
  have h3 : q.1 = f := by simpa using h1
  rw [← h3]
  exact h2 q (List.mem_of_find?_eq_some hq)
end Go.Proofs.YtefjnnghfloddaaGreat.Abs
