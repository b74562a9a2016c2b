/- A part of a proof of a law of the store, without conditions: its texts are: Ft Fv Fu. -/
import Derived.Test.YtefjnnghfloddaaGreatGb
import Derived.Test.YtefjnnghfloddaaGreatProg
import Derived.KernelRfl
import Derived.Test.YtefjnnghfloddaaGreatGc
/- The types of the program. -/
namespace Go.Proofs.YtefjnnghfloddaaGreat.Abs
open Go.Proofs
set_option linter.unusedVariables false
set_option linter.unusedSimpArgs false

def ttab : List (Nat × TI) := [
  (2, ⟨.int .i64, 1, [.int .i64 0], 8⟩),
  (3, ⟨.int .i64, 1, [.int .i64 0], 8⟩),
  (4, ⟨.bool, 1, [.bool false], 1⟩),
  (5, ⟨.int .u8, 1, [.int .u8 0], 1⟩),
  (6, ⟨.int .u8, 1, [.int .u8 0], 1⟩),
  (7, ⟨.struct [(0, 2), (1, 3), (2, 4), (3, 6)], 4, [.int .i64 0, .int .i64 0, .bool false, .int .u8 0], 24⟩),
  (8, ⟨.struct [(0, 2), (1, 3), (2, 4), (3, 6)], 4, [.int .i64 0, .int .i64 0, .bool false, .int .u8 0], 24⟩),
  (9, ⟨.string, 1, [.str ⟨#[]⟩], 16⟩),
  (10, ⟨.string, 1, [.str ⟨#[]⟩], 16⟩),
  (11, ⟨.string, 1, [.str ⟨#[]⟩], 16⟩),
  (12, ⟨.int .u64, 1, [.int .u64 0], 8⟩),
  (13, ⟨.struct [(0, 9), (1, 12)], 2, [.str ⟨#[]⟩, .int .u64 0], 24⟩),
  (14, ⟨.struct [(0, 9), (1, 12)], 2, [.str ⟨#[]⟩, .int .u64 0], 24⟩),
  (15, ⟨.ptr 206, 1, [.nilp], 8⟩),
  (16, ⟨.ptr 209, 1, [.nilp], 8⟩),
  (17, ⟨.ptr 218, 1, [.nilp], 8⟩),
  (18, ⟨.struct [(0, 17)], 1, [.nilp], 8⟩),
  (19, ⟨.struct [(0, 17)], 1, [.nilp], 8⟩),
  (21, ⟨.int .i32, 1, [.int .i32 0], 4⟩),
  (22, ⟨.slice 3, 1, [.nils], 24⟩),
  (23, ⟨.struct [(0, 3), (1, 3), (2, 22)], 3, [.int .i64 0, .int .i64 0, .nils], 40⟩),
  (24, ⟨.struct [(0, 3), (1, 3), (2, 22)], 3, [.int .i64 0, .int .i64 0, .nils], 40⟩),
  (25, ⟨.slice 22, 1, [.nils], 24⟩),
  (26, ⟨.struct [(0, 24), (3, 3), (4, 25)], 5, [.int .i64 0, .int .i64 0, .nils, .int .i64 0, .nils], 72⟩),
  (27, ⟨.struct [(0, 24), (3, 3), (4, 25)], 5, [.int .i64 0, .int .i64 0, .nils, .int .i64 0, .nils], 72⟩),
  (28, ⟨.struct [(0, 25)], 1, [.nils], 24⟩),
  (29, ⟨.struct [(0, 25)], 1, [.nils], 24⟩),
  (30, ⟨.struct [(0, 27), (5, 3), (6, 29), (7, 22), (8, 3)], 9, [.int .i64 0, .int .i64 0, .nils, .int .i64 0, .nils, .int .i64 0, .nils, .nils, .int .i64 0], 136⟩),
  (31, ⟨.struct [(0, 27), (5, 3), (6, 29), (7, 22), (8, 3)], 9, [.int .i64 0, .int .i64 0, .nils, .int .i64 0, .nils, .int .i64 0, .nils, .nils, .int .i64 0], 136⟩),
  (33, ⟨.int .i64, 1, [.int .i64 0], 8⟩),
  (40, ⟨.slice 25, 1, [.nils], 24⟩),
  (50, ⟨.slice 52, 1, [.nils], 24⟩),
  (51, ⟨.struct [(0, 3), (1, 4), (2, 22)], 3, [.int .i64 0, .bool false, .nils], 40⟩),
  (52, ⟨.struct [(0, 3), (1, 4), (2, 22)], 3, [.int .i64 0, .bool false, .nils], 40⟩),
  (64, ⟨.struct [(0, 3), (1, 3)], 2, [.int .i64 0, .int .i64 0], 16⟩),
  (65, ⟨.struct [(0, 3), (1, 3)], 2, [.int .i64 0, .int .i64 0], 16⟩),
  (67, ⟨.slice 65, 1, [.nils], 24⟩),
  (76, ⟨.ptr 107, 1, [.nilp], 8⟩),
  (87, ⟨.struct [(0, 3), (1, 25)], 2, [.int .i64 0, .nils], 32⟩),
  (88, ⟨.struct [(0, 3), (1, 25)], 2, [.int .i64 0, .nils], 32⟩),
  (95, ⟨.int .u64, 1, [.int .u64 0], 8⟩),
  (106, ⟨.struct [(0, 24), (3, 3), (4, 22), (5, 22)], 6, [.int .i64 0, .int .i64 0, .nils, .int .i64 0, .nils, .nils], 96⟩),
  (107, ⟨.struct [(0, 24), (3, 3), (4, 22), (5, 22)], 6, [.int .i64 0, .int .i64 0, .nils, .int .i64 0, .nils, .nils], 96⟩),
  (117, ⟨.struct [(0, 76), (1, 88), (3, 22)], 4, [.nilp, .int .i64 0, .nils, .nils], 64⟩),
  (118, ⟨.struct [(0, 76), (1, 88), (3, 22)], 4, [.nilp, .int .i64 0, .nils, .nils], 64⟩),
  (121, ⟨.ptr 157, 1, [.nilp], 8⟩),
  (129, ⟨.struct [(0, 27), (5, 3), (6, 3), (7, 22), (8, 4)], 9, [.int .i64 0, .int .i64 0, .nils, .int .i64 0, .nils, .int .i64 0, .int .i64 0, .nils, .bool false], 120⟩),
  (130, ⟨.struct [(0, 27), (5, 3), (6, 3), (7, 22), (8, 4)], 9, [.int .i64 0, .int .i64 0, .nils, .int .i64 0, .nils, .int .i64 0, .int .i64 0, .nils, .bool false], 120⟩),
  (132, ⟨.int .i64, 1, [.int .i64 0], 8⟩),
  (141, ⟨.int .u32, 1, [.int .u32 0], 4⟩),
  (143, ⟨.int .u64, 1, [.int .u64 0], 8⟩),
  (156, ⟨.struct [(0, 76), (1, 27), (6, 22), (7, 4), (8, 3), (9, 3), (10, 25), (11, 3)], 12, [.nilp, .int .i64 0, .int .i64 0, .nils, .int .i64 0, .nils, .nils, .bool false, .int .i64 0, .int .i64 0, .nils, .int .i64 0], 160⟩),
  (157, ⟨.struct [(0, 76), (1, 27), (6, 22), (7, 4), (8, 3), (9, 3), (10, 25), (11, 3)], 12, [.nilp, .int .i64 0, .int .i64 0, .nils, .int .i64 0, .nils, .nils, .bool false, .int .i64 0, .int .i64 0, .nils, .int .i64 0], 160⟩),
  (161, ⟨.int .u64, 1, [.int .u64 0], 8⟩),
  (165, ⟨.ptr 3, 1, [.nilp], 8⟩),
  (170, ⟨.slice 4, 1, [.nils], 24⟩),
  (179, ⟨.ptr 161, 1, [.nilp], 8⟩),
  (181, ⟨.slice 88, 1, [.nils], 24⟩),
  (193, ⟨.ptr 195, 1, [.nilp], 8⟩),
  (194, ⟨.struct [(0, 76), (1, 25), (2, 22)], 3, [.nilp, .nils, .nils], 56⟩),
  (195, ⟨.struct [(0, 76), (1, 25), (2, 22)], 3, [.nilp, .nils, .nils], 56⟩),
  (205, ⟨.struct [(0, 17), (1, 17), (2, 17), (3, 9)], 4, [.nilp, .nilp, .nilp, .str ⟨#[]⟩], 40⟩),
  (206, ⟨.struct [(0, 17), (1, 17), (2, 17), (3, 9)], 4, [.nilp, .nilp, .nilp, .str ⟨#[]⟩], 40⟩),
  (211, ⟨.int .u8, 1, [.int .u8 0], 1⟩),
  (212, ⟨.int .u8, 1, [.int .u8 0], 1⟩),
  (214, ⟨.ptr 5, 1, [.nilp], 8⟩),
  (215, ⟨.int .i32, 1, [.int .i32 0], 4⟩),
  (216, ⟨.int .i32, 1, [.int .i32 0], 4⟩),
  (217, ⟨.struct [(0, 12), (1, 12), (2, 141), (3, 211), (4, 5), (5, 5), (6, 212), (7, 213), (8, 214), (9, 215), (10, 216)], 11, [.int .u64 0, .int .u64 0, .int .u32 0, .int .u8 0, .int .u8 0, .int .u8 0, .int .u8 0, .nilf, .nilp, .int .i32 0, .int .i32 0], 48⟩),
  (218, ⟨.struct [(0, 12), (1, 12), (2, 141), (3, 211), (4, 5), (5, 5), (6, 212), (7, 213), (8, 214), (9, 215), (10, 216)], 11, [.int .u64 0, .int .u64 0, .int .u32 0, .int .u8 0, .int .u8 0, .int .u8 0, .int .u8 0, .nilf, .nilp, .int .i32 0, .int .i32 0], 48⟩)]
def T : TT := fun t => (ttab.find? (fun q => q.1 == t)).map (·.2)

theorem mkTI {P : Program} {t : TypeId} {i : TI} {z : Value} {d : TypeDesc} (h1 : (P.info? t).map (fun f => (f.size, f.bytes, f.zero)) = some (i.size, i.bytes, some z)) (h2 : P.underlying t = some d) (h3 : i.k.fits d)
    (h4 : ∀ ρ, RelL ρ i.zero z.cells.toList) (h5 : i.zero.length = i.size) (h6 : i.zero.all V.isCell = true) : TIok P t i := by
  refine ⟨?_, ⟨d, h2, h3⟩, h5, fun v hv => (List.all_eq_true.1 h6) v hv⟩
  cases hf : P.info? t with
  | none => rw [hf] at h1; cases h1
  | some f =>
    rw [hf] at h1
    simp only [Option.map_some, Option.some.injEq, Prod.mk.injEq] at h1
    exact ⟨f, z, rfl, h1.1, h1.2.1, h1.2.2, h4⟩

theorem ti2 : TIok Tryz.prog 2 ⟨.int .i64, 1, [.int .i64 0], 8⟩ := mkTI (z := (.int .i64 0)) (by kernel_rfl) Tryz.underlying2 (by first | exact rfl | exact ⟨_, rfl, rfl⟩) (fun ρ => by simp [RelL, Rel, Value.cells]) rfl rfl
theorem ti3 : TIok Tryz.prog 3 ⟨.int .i64, 1, [.int .i64 0], 8⟩ := mkTI (z := (.int .i64 0)) (by kernel_rfl) Tryz.underlying3 (by first | exact rfl | exact ⟨_, rfl, rfl⟩) (fun ρ => by simp [RelL, Rel, Value.cells]) rfl rfl
theorem ti4 : TIok Tryz.prog 4 ⟨.bool, 1, [.bool false], 1⟩ := mkTI (z := (.bool false)) (by kernel_rfl) Tryz.underlying4 (by first | exact rfl | exact ⟨_, rfl, rfl⟩) (fun ρ => by simp [RelL, Rel, Value.cells]) rfl rfl
theorem ti5 : TIok Tryz.prog 5 ⟨.int .u8, 1, [.int .u8 0], 1⟩ := mkTI (z := (.int .u8 0)) (by kernel_rfl) Tryz.underlying5 (by first | exact rfl | exact ⟨_, rfl, rfl⟩) (fun ρ => by simp [RelL, Rel, Value.cells]) rfl rfl
theorem ti6 : TIok Tryz.prog 6 ⟨.int .u8, 1, [.int .u8 0], 1⟩ := mkTI (z := (.int .u8 0)) (by kernel_rfl) Tryz.underlying6 (by first | exact rfl | exact ⟨_, rfl, rfl⟩) (fun ρ => by simp [RelL, Rel, Value.cells]) rfl rfl
theorem ti7 : TIok Tryz.prog 7 ⟨.struct [(0, 2), (1, 3), (2, 4), (3, 6)], 4, [.int .i64 0, .int .i64 0, .bool false, .int .u8 0], 24⟩ := mkTI (z := (.agg #[.int .i64 0, .int .i64 0, .bool false, .int .u8 0])) (by kernel_rfl) Tryz.underlying7 (by first | exact rfl | exact ⟨_, rfl, rfl⟩) (fun ρ => by simp [RelL, Rel, Value.cells]) rfl rfl
theorem ti8 : TIok Tryz.prog 8 ⟨.struct [(0, 2), (1, 3), (2, 4), (3, 6)], 4, [.int .i64 0, .int .i64 0, .bool false, .int .u8 0], 24⟩ := mkTI (z := (.agg #[.int .i64 0, .int .i64 0, .bool false, .int .u8 0])) (by kernel_rfl) Tryz.underlying8 (by first | exact rfl | exact ⟨_, rfl, rfl⟩) (fun ρ => by simp [RelL, Rel, Value.cells]) rfl rfl
theorem ti9 : TIok Tryz.prog 9 ⟨.string, 1, [.str ⟨#[]⟩], 16⟩ := mkTI (z := (.string ⟨#[]⟩)) (by kernel_rfl) Tryz.underlying9 (by first | exact rfl | exact ⟨_, rfl, rfl⟩) (fun ρ => by simp [RelL, Rel, Value.cells]) rfl rfl
theorem ti10 : TIok Tryz.prog 10 ⟨.string, 1, [.str ⟨#[]⟩], 16⟩ := mkTI (z := (.string ⟨#[]⟩)) (by kernel_rfl) Tryz.underlying10 (by first | exact rfl | exact ⟨_, rfl, rfl⟩) (fun ρ => by simp [RelL, Rel, Value.cells]) rfl rfl
theorem ti11 : TIok Tryz.prog 11 ⟨.string, 1, [.str ⟨#[]⟩], 16⟩ := mkTI (z := (.string ⟨#[]⟩)) (by kernel_rfl) Tryz.underlying11 (by first | exact rfl | exact ⟨_, rfl, rfl⟩) (fun ρ => by simp [RelL, Rel, Value.cells]) rfl rfl
theorem ti12 : TIok Tryz.prog 12 ⟨.int .u64, 1, [.int .u64 0], 8⟩ := mkTI (z := (.int .u64 0)) (by kernel_rfl) Tryz.underlying12 (by first | exact rfl | exact ⟨_, rfl, rfl⟩) (fun ρ => by simp [RelL, Rel, Value.cells]) rfl rfl
theorem ti13 : TIok Tryz.prog 13 ⟨.struct [(0, 9), (1, 12)], 2, [.str ⟨#[]⟩, .int .u64 0], 24⟩ := mkTI (z := (.agg #[.string ⟨#[]⟩, .int .u64 0])) (by kernel_rfl) Tryz.underlying13 (by first | exact rfl | exact ⟨_, rfl, rfl⟩) (fun ρ => by simp [RelL, Rel, Value.cells]) rfl rfl
theorem ti14 : TIok Tryz.prog 14 ⟨.struct [(0, 9), (1, 12)], 2, [.str ⟨#[]⟩, .int .u64 0], 24⟩ := mkTI (z := (.agg #[.string ⟨#[]⟩, .int .u64 0])) (by kernel_rfl) Tryz.underlying14 (by first | exact rfl | exact ⟨_, rfl, rfl⟩) (fun ρ => by simp [RelL, Rel, Value.cells]) rfl rfl
theorem ti15 : TIok Tryz.prog 15 ⟨.ptr 206, 1, [.nilp], 8⟩ := mkTI (z := (.pointer none)) (by kernel_rfl) Tryz.underlying15 (by first | exact rfl | exact ⟨_, rfl, rfl⟩) (fun ρ => by simp [RelL, Rel, Value.cells]) rfl rfl
theorem ti16 : TIok Tryz.prog 16 ⟨.ptr 209, 1, [.nilp], 8⟩ := mkTI (z := (.pointer none)) (by kernel_rfl) Tryz.underlying16 (by first | exact rfl | exact ⟨_, rfl, rfl⟩) (fun ρ => by simp [RelL, Rel, Value.cells]) rfl rfl
theorem ti17 : TIok Tryz.prog 17 ⟨.ptr 218, 1, [.nilp], 8⟩ := mkTI (z := (.pointer none)) (by kernel_rfl) Tryz.underlying17 (by first | exact rfl | exact ⟨_, rfl, rfl⟩) (fun ρ => by simp [RelL, Rel, Value.cells]) rfl rfl
theorem ti18 : TIok Tryz.prog 18 ⟨.struct [(0, 17)], 1, [.nilp], 8⟩ := mkTI (z := (.agg #[.pointer none])) (by kernel_rfl) Tryz.underlying18 (by first | exact rfl | exact ⟨_, rfl, rfl⟩) (fun ρ => by simp [RelL, Rel, Value.cells]) rfl rfl
theorem ti19 : TIok Tryz.prog 19 ⟨.struct [(0, 17)], 1, [.nilp], 8⟩ := mkTI (z := (.agg #[.pointer none])) (by kernel_rfl) Tryz.underlying19 (by first | exact rfl | exact ⟨_, rfl, rfl⟩) (fun ρ => by simp [RelL, Rel, Value.cells]) rfl rfl
theorem ti21 : TIok Tryz.prog 21 ⟨.int .i32, 1, [.int .i32 0], 4⟩ := mkTI (z := (.int .i32 0)) (by kernel_rfl) Tryz.underlying21 (by first | exact rfl | exact ⟨_, rfl, rfl⟩) (fun ρ => by simp [RelL, Rel, Value.cells]) rfl rfl
theorem ti22 : TIok Tryz.prog 22 ⟨.slice 3, 1, [.nils], 24⟩ := mkTI (z := (.slice none 0 0)) (by kernel_rfl) Tryz.underlying22 (by first | exact rfl | exact ⟨_, rfl, rfl⟩) (fun ρ => by simp [RelL, Rel, Value.cells]) rfl rfl
theorem ti23 : TIok Tryz.prog 23 ⟨.struct [(0, 3), (1, 3), (2, 22)], 3, [.int .i64 0, .int .i64 0, .nils], 40⟩ := mkTI (z := (.agg #[.int .i64 0, .int .i64 0, .slice none 0 0])) (by kernel_rfl) Tryz.underlying23 (by first | exact rfl | exact ⟨_, rfl, rfl⟩) (fun ρ => by simp [RelL, Rel, Value.cells]) rfl rfl
theorem ti24 : TIok Tryz.prog 24 ⟨.struct [(0, 3), (1, 3), (2, 22)], 3, [.int .i64 0, .int .i64 0, .nils], 40⟩ := mkTI (z := (.agg #[.int .i64 0, .int .i64 0, .slice none 0 0])) (by kernel_rfl) Tryz.underlying24 (by first | exact rfl | exact ⟨_, rfl, rfl⟩) (fun ρ => by simp [RelL, Rel, Value.cells]) rfl rfl
theorem ti25 : TIok Tryz.prog 25 ⟨.slice 22, 1, [.nils], 24⟩ := mkTI (z := (.slice none 0 0)) (by kernel_rfl) Tryz.underlying25 (by first | exact rfl | exact ⟨_, rfl, rfl⟩) (fun ρ => by simp [RelL, Rel, Value.cells]) rfl rfl
theorem ti26 : TIok Tryz.prog 26 ⟨.struct [(0, 24), (3, 3), (4, 25)], 5, [.int .i64 0, .int .i64 0, .nils, .int .i64 0, .nils], 72⟩ := mkTI (z := (.agg #[.int .i64 0, .int .i64 0, .slice none 0 0, .int .i64 0, .slice none 0 0])) (by kernel_rfl) Tryz.underlying26 (by first | exact rfl | exact ⟨_, rfl, rfl⟩) (fun ρ => by simp [RelL, Rel, Value.cells]) rfl rfl
theorem ti27 : TIok Tryz.prog 27 ⟨.struct [(0, 24), (3, 3), (4, 25)], 5, [.int .i64 0, .int .i64 0, .nils, .int .i64 0, .nils], 72⟩ := mkTI (z := (.agg #[.int .i64 0, .int .i64 0, .slice none 0 0, .int .i64 0, .slice none 0 0])) (by kernel_rfl) Tryz.underlying27 (by first | exact rfl | exact ⟨_, rfl, rfl⟩) (fun ρ => by simp [RelL, Rel, Value.cells]) rfl rfl
theorem ti28 : TIok Tryz.prog 28 ⟨.struct [(0, 25)], 1, [.nils], 24⟩ := mkTI (z := (.agg #[.slice none 0 0])) (by kernel_rfl) Tryz.underlying28 (by first | exact rfl | exact ⟨_, rfl, rfl⟩) (fun ρ => by simp [RelL, Rel, Value.cells]) rfl rfl
theorem ti29 : TIok Tryz.prog 29 ⟨.struct [(0, 25)], 1, [.nils], 24⟩ := mkTI (z := (.agg #[.slice none 0 0])) (by kernel_rfl) Tryz.underlying29 (by first | exact rfl | exact ⟨_, rfl, rfl⟩) (fun ρ => by simp [RelL, Rel, Value.cells]) rfl rfl
theorem ti30 : TIok Tryz.prog 30 ⟨.struct [(0, 27), (5, 3), (6, 29), (7, 22), (8, 3)], 9, [.int .i64 0, .int .i64 0, .nils, .int .i64 0, .nils, .int .i64 0, .nils, .nils, .int .i64 0], 136⟩ := mkTI (z := (.agg #[.int .i64 0, .int .i64 0, .slice none 0 0, .int .i64 0, .slice none 0 0, .int .i64 0, .slice none 0 0, .slice none 0 0, .int .i64 0])) (by kernel_rfl) Tryz.underlying30 (by first | exact rfl | exact ⟨_, rfl, rfl⟩) (fun ρ => by simp [RelL, Rel, Value.cells]) rfl rfl
theorem ti31 : TIok Tryz.prog 31 ⟨.struct [(0, 27), (5, 3), (6, 29), (7, 22), (8, 3)], 9, [.int .i64 0, .int .i64 0, .nils, .int .i64 0, .nils, .int .i64 0, .nils, .nils, .int .i64 0], 136⟩ := mkTI (z := (.agg #[.int .i64 0, .int .i64 0, .slice none 0 0, .int .i64 0, .slice none 0 0, .int .i64 0, .slice none 0 0, .slice none 0 0, .int .i64 0])) (by kernel_rfl) Tryz.underlying31 (by first | exact rfl | exact ⟨_, rfl, rfl⟩) (fun ρ => by simp [RelL, Rel, Value.cells]) rfl rfl
theorem ti33 : TIok Tryz.prog 33 ⟨.int .i64, 1, [.int .i64 0], 8⟩ := mkTI (z := (.int .i64 0)) (by kernel_rfl) Tryz.underlying33 (by first | exact rfl | exact ⟨_, rfl, rfl⟩) (fun ρ => by simp [RelL, Rel, Value.cells]) rfl rfl
theorem ti40 : TIok Tryz.prog 40 ⟨.slice 25, 1, [.nils], 24⟩ := mkTI (z := (.slice none 0 0)) (by kernel_rfl) Tryz.underlying40 (by first | exact rfl | exact ⟨_, rfl, rfl⟩) (fun ρ => by simp [RelL, Rel, Value.cells]) rfl rfl
theorem ti50 : TIok Tryz.prog 50 ⟨.slice 52, 1, [.nils], 24⟩ := mkTI (z := (.slice none 0 0)) (by kernel_rfl) Tryz.underlying50 (by first | exact rfl | exact ⟨_, rfl, rfl⟩) (fun ρ => by simp [RelL, Rel, Value.cells]) rfl rfl
theorem ti51 : TIok Tryz.prog 51 ⟨.struct [(0, 3), (1, 4), (2, 22)], 3, [.int .i64 0, .bool false, .nils], 40⟩ := mkTI (z := (.agg #[.int .i64 0, .bool false, .slice none 0 0])) (by kernel_rfl) Tryz.underlying51 (by first | exact rfl | exact ⟨_, rfl, rfl⟩) (fun ρ => by simp [RelL, Rel, Value.cells]) rfl rfl
theorem ti52 : TIok Tryz.prog 52 ⟨.struct [(0, 3), (1, 4), (2, 22)], 3, [.int .i64 0, .bool false, .nils], 40⟩ := mkTI (z := (.agg #[.int .i64 0, .bool false, .slice none 0 0])) (by kernel_rfl) Tryz.underlying52 (by first | exact rfl | exact ⟨_, rfl, rfl⟩) (fun ρ => by simp [RelL, Rel, Value.cells]) rfl rfl
theorem ti64 : TIok Tryz.prog 64 ⟨.struct [(0, 3), (1, 3)], 2, [.int .i64 0, .int .i64 0], 16⟩ := mkTI (z := (.agg #[.int .i64 0, .int .i64 0])) (by kernel_rfl) Tryz.underlying64 (by first | exact rfl | exact ⟨_, rfl, rfl⟩) (fun ρ => by simp [RelL, Rel, Value.cells]) rfl rfl
theorem ti65 : TIok Tryz.prog 65 ⟨.struct [(0, 3), (1, 3)], 2, [.int .i64 0, .int .i64 0], 16⟩ := mkTI (z := (.agg #[.int .i64 0, .int .i64 0])) (by kernel_rfl) Tryz.underlying65 (by first | exact rfl | exact ⟨_, rfl, rfl⟩) (fun ρ => by simp [RelL, Rel, Value.cells]) rfl rfl
theorem ti67 : TIok Tryz.prog 67 ⟨.slice 65, 1, [.nils], 24⟩ := mkTI (z := (.slice none 0 0)) (by kernel_rfl) Tryz.underlying67 (by first | exact rfl | exact ⟨_, rfl, rfl⟩) (fun ρ => by simp [RelL, Rel, Value.cells]) rfl rfl
theorem ti76 : TIok Tryz.prog 76 ⟨.ptr 107, 1, [.nilp], 8⟩ := mkTI (z := (.pointer none)) (by kernel_rfl) Tryz.underlying76 (by first | exact rfl | exact ⟨_, rfl, rfl⟩) (fun ρ => by simp [RelL, Rel, Value.cells]) rfl rfl
theorem ti87 : TIok Tryz.prog 87 ⟨.struct [(0, 3), (1, 25)], 2, [.int .i64 0, .nils], 32⟩ := mkTI (z := (.agg #[.int .i64 0, .slice none 0 0])) (by kernel_rfl) Tryz.underlying87 (by first | exact rfl | exact ⟨_, rfl, rfl⟩) (fun ρ => by simp [RelL, Rel, Value.cells]) rfl rfl
theorem ti88 : TIok Tryz.prog 88 ⟨.struct [(0, 3), (1, 25)], 2, [.int .i64 0, .nils], 32⟩ := mkTI (z := (.agg #[.int .i64 0, .slice none 0 0])) (by kernel_rfl) Tryz.underlying88 (by first | exact rfl | exact ⟨_, rfl, rfl⟩) (fun ρ => by simp [RelL, Rel, Value.cells]) rfl rfl
theorem ti95 : TIok Tryz.prog 95 ⟨.int .u64, 1, [.int .u64 0], 8⟩ := mkTI (z := (.int .u64 0)) (by kernel_rfl) Tryz.underlying95 (by first | exact rfl | exact ⟨_, rfl, rfl⟩) (fun ρ => by simp [RelL, Rel, Value.cells]) rfl rfl
theorem ti106 : TIok Tryz.prog 106 ⟨.struct [(0, 24), (3, 3), (4, 22), (5, 22)], 6, [.int .i64 0, .int .i64 0, .nils, .int .i64 0, .nils, .nils], 96⟩ := mkTI (z := (.agg #[.int .i64 0, .int .i64 0, .slice none 0 0, .int .i64 0, .slice none 0 0, .slice none 0 0])) (by kernel_rfl) Tryz.underlying106 (by first | exact rfl | exact ⟨_, rfl, rfl⟩) (fun ρ => by simp [RelL, Rel, Value.cells]) rfl rfl
theorem ti107 : TIok Tryz.prog 107 ⟨.struct [(0, 24), (3, 3), (4, 22), (5, 22)], 6, [.int .i64 0, .int .i64 0, .nils, .int .i64 0, .nils, .nils], 96⟩ := mkTI (z := (.agg #[.int .i64 0, .int .i64 0, .slice none 0 0, .int .i64 0, .slice none 0 0, .slice none 0 0])) (by kernel_rfl) Tryz.underlying107 (by first | exact rfl | exact ⟨_, rfl, rfl⟩) (fun ρ => by simp [RelL, Rel, Value.cells]) rfl rfl
theorem ti117 : TIok Tryz.prog 117 ⟨.struct [(0, 76), (1, 88), (3, 22)], 4, [.nilp, .int .i64 0, .nils, .nils], 64⟩ := mkTI (z := (.agg #[.pointer none, .int .i64 0, .slice none 0 0, .slice none 0 0])) (by kernel_rfl) Tryz.underlying117 (by first | exact rfl | exact ⟨_, rfl, rfl⟩) (fun ρ => by simp [RelL, Rel, Value.cells]) rfl rfl
theorem ti118 : TIok Tryz.prog 118 ⟨.struct [(0, 76), (1, 88), (3, 22)], 4, [.nilp, .int .i64 0, .nils, .nils], 64⟩ := mkTI (z := (.agg #[.pointer none, .int .i64 0, .slice none 0 0, .slice none 0 0])) (by kernel_rfl) Tryz.underlying118 (by first | exact rfl | exact ⟨_, rfl, rfl⟩) (fun ρ => by simp [RelL, Rel, Value.cells]) rfl rfl
theorem ti121 : TIok Tryz.prog 121 ⟨.ptr 157, 1, [.nilp], 8⟩ := mkTI (z := (.pointer none)) (by kernel_rfl) Tryz.underlying121 (by first | exact rfl | exact ⟨_, rfl, rfl⟩) (fun ρ => by simp [RelL, Rel, Value.cells]) rfl rfl
theorem ti129 : TIok Tryz.prog 129 ⟨.struct [(0, 27), (5, 3), (6, 3), (7, 22), (8, 4)], 9, [.int .i64 0, .int .i64 0, .nils, .int .i64 0, .nils, .int .i64 0, .int .i64 0, .nils, .bool false], 120⟩ := mkTI (z := (.agg #[.int .i64 0, .int .i64 0, .slice none 0 0, .int .i64 0, .slice none 0 0, .int .i64 0, .int .i64 0, .slice none 0 0, .bool false])) (by kernel_rfl) Tryz.underlying129 (by first | exact rfl | exact ⟨_, rfl, rfl⟩) (fun ρ => by simp [RelL, Rel, Value.cells]) rfl rfl
theorem ti130 : TIok Tryz.prog 130 ⟨.struct [(0, 27), (5, 3), (6, 3), (7, 22), (8, 4)], 9, [.int .i64 0, .int .i64 0, .nils, .int .i64 0, .nils, .int .i64 0, .int .i64 0, .nils, .bool false], 120⟩ := mkTI (z := (.agg #[.int .i64 0, .int .i64 0, .slice none 0 0, .int .i64 0, .slice none 0 0, .int .i64 0, .int .i64 0, .slice none 0 0, .bool false])) (by kernel_rfl) Tryz.underlying130 (by first | exact rfl | exact ⟨_, rfl, rfl⟩) (fun ρ => by simp [RelL, Rel, Value.cells]) rfl rfl
theorem ti132 : TIok Tryz.prog 132 ⟨.int .i64, 1, [.int .i64 0], 8⟩ := mkTI (z := (.int .i64 0)) (by kernel_rfl) Tryz.underlying132 (by first | exact rfl | exact ⟨_, rfl, rfl⟩) (fun ρ => by simp [RelL, Rel, Value.cells]) rfl rfl
theorem ti141 : TIok Tryz.prog 141 ⟨.int .u32, 1, [.int .u32 0], 4⟩ := mkTI (z := (.int .u32 0)) (by kernel_rfl) Tryz.underlying141 (by first | exact rfl | exact ⟨_, rfl, rfl⟩) (fun ρ => by simp [RelL, Rel, Value.cells]) rfl rfl
theorem ti143 : TIok Tryz.prog 143 ⟨.int .u64, 1, [.int .u64 0], 8⟩ := mkTI (z := (.int .u64 0)) (by kernel_rfl) Tryz.underlying143 (by first | exact rfl | exact ⟨_, rfl, rfl⟩) (fun ρ => by simp [RelL, Rel, Value.cells]) rfl rfl
theorem ti156 : TIok Tryz.prog 156 ⟨.struct [(0, 76), (1, 27), (6, 22), (7, 4), (8, 3), (9, 3), (10, 25), (11, 3)], 12, [.nilp, .int .i64 0, .int .i64 0, .nils, .int .i64 0, .nils, .nils, .bool false, .int .i64 0, .int .i64 0, .nils, .int .i64 0], 160⟩ := mkTI (z := (.agg #[.pointer none, .int .i64 0, .int .i64 0, .slice none 0 0, .int .i64 0, .slice none 0 0, .slice none 0 0, .bool false, .int .i64 0, .int .i64 0, .slice none 0 0, .int .i64 0])) (by kernel_rfl) Tryz.underlying156 (by first | exact rfl | exact ⟨_, rfl, rfl⟩) (fun ρ => by simp [RelL, Rel, Value.cells]) rfl rfl
theorem ti157 : TIok Tryz.prog 157 ⟨.struct [(0, 76), (1, 27), (6, 22), (7, 4), (8, 3), (9, 3), (10, 25), (11, 3)], 12, [.nilp, .int .i64 0, .int .i64 0, .nils, .int .i64 0, .nils, .nils, .bool false, .int .i64 0, .int .i64 0, .nils, .int .i64 0], 160⟩ := mkTI (z := (.agg #[.pointer none, .int .i64 0, .int .i64 0, .slice none 0 0, .int .i64 0, .slice none 0 0, .slice none 0 0, .bool false, .int .i64 0, .int .i64 0, .slice none 0 0, .int .i64 0])) (by kernel_rfl) Tryz.underlying157 (by first | exact rfl | exact ⟨_, rfl, rfl⟩) (fun ρ => by simp [RelL, Rel, Value.cells]) rfl rfl
theorem ti161 : TIok Tryz.prog 161 ⟨.int .u64, 1, [.int .u64 0], 8⟩ := mkTI (z := (.int .u64 0)) (by kernel_rfl) Tryz.underlying161 (by first | exact rfl | exact ⟨_, rfl, rfl⟩) (fun ρ => by simp [RelL, Rel, Value.cells]) rfl rfl
theorem ti165 : TIok Tryz.prog 165 ⟨.ptr 3, 1, [.nilp], 8⟩ := mkTI (z := (.pointer none)) (by kernel_rfl) Tryz.underlying165 (by first | exact rfl | exact ⟨_, rfl, rfl⟩) (fun ρ => by simp [RelL, Rel, Value.cells]) rfl rfl
theorem ti170 : TIok Tryz.prog 170 ⟨.slice 4, 1, [.nils], 24⟩ := mkTI (z := (.slice none 0 0)) (by kernel_rfl) Tryz.underlying170 (by first | exact rfl | exact ⟨_, rfl, rfl⟩) (fun ρ => by simp [RelL, Rel, Value.cells]) rfl rfl
theorem ti179 : TIok Tryz.prog 179 ⟨.ptr 161, 1, [.nilp], 8⟩ := mkTI (z := (.pointer none)) (by kernel_rfl) Tryz.underlying179 (by first | exact rfl | exact ⟨_, rfl, rfl⟩) (fun ρ => by simp [RelL, Rel, Value.cells]) rfl rfl
theorem ti181 : TIok Tryz.prog 181 ⟨.slice 88, 1, [.nils], 24⟩ := mkTI (z := (.slice none 0 0)) (by kernel_rfl) Tryz.underlying181 (by first | exact rfl | exact ⟨_, rfl, rfl⟩) (fun ρ => by simp [RelL, Rel, Value.cells]) rfl rfl
theorem ti193 : TIok Tryz.prog 193 ⟨.ptr 195, 1, [.nilp], 8⟩ := mkTI (z := (.pointer none)) (by kernel_rfl) Tryz.underlying193 (by first | exact rfl | exact ⟨_, rfl, rfl⟩) (fun ρ => by simp [RelL, Rel, Value.cells]) rfl rfl
theorem ti194 : TIok Tryz.prog 194 ⟨.struct [(0, 76), (1, 25), (2, 22)], 3, [.nilp, .nils, .nils], 56⟩ := mkTI (z := (.agg #[.pointer none, .slice none 0 0, .slice none 0 0])) (by kernel_rfl) Tryz.underlying194 (by first | exact rfl | exact ⟨_, rfl, rfl⟩) (fun ρ => by simp [RelL, Rel, Value.cells]) rfl rfl
theorem ti195 : TIok Tryz.prog 195 ⟨.struct [(0, 76), (1, 25), (2, 22)], 3, [.nilp, .nils, .nils], 56⟩ := mkTI (z := (.agg #[.pointer none, .slice none 0 0, .slice none 0 0])) (by kernel_rfl) Tryz.underlying195 (by first | exact rfl | exact ⟨_, rfl, rfl⟩) (fun ρ => by simp [RelL, Rel, Value.cells]) rfl rfl
theorem ti205 : TIok Tryz.prog 205 ⟨.struct [(0, 17), (1, 17), (2, 17), (3, 9)], 4, [.nilp, .nilp, .nilp, .str ⟨#[]⟩], 40⟩ := mkTI (z := (.agg #[.pointer none, .pointer none, .pointer none, .string ⟨#[]⟩])) (by kernel_rfl) Tryz.underlying205 (by first | exact rfl | exact ⟨_, rfl, rfl⟩) (fun ρ => by simp [RelL, Rel, Value.cells]) rfl rfl
theorem ti206 : TIok Tryz.prog 206 ⟨.struct [(0, 17), (1, 17), (2, 17), (3, 9)], 4, [.nilp, .nilp, .nilp, .str ⟨#[]⟩], 40⟩ := mkTI (z := (.agg #[.pointer none, .pointer none, .pointer none, .string ⟨#[]⟩])) (by kernel_rfl) Tryz.underlying206 (by first | exact rfl | exact ⟨_, rfl, rfl⟩) (fun ρ => by simp [RelL, Rel, Value.cells]) rfl rfl
theorem ti211 : TIok Tryz.prog 211 ⟨.int .u8, 1, [.int .u8 0], 1⟩ := mkTI (z := (.int .u8 0)) (by kernel_rfl) Tryz.underlying211 (by first | exact rfl | exact ⟨_, rfl, rfl⟩) (fun ρ => by simp [RelL, Rel, Value.cells]) rfl rfl
theorem ti212 : TIok Tryz.prog 212 ⟨.int .u8, 1, [.int .u8 0], 1⟩ := mkTI (z := (.int .u8 0)) (by kernel_rfl) Tryz.underlying212 (by first | exact rfl | exact ⟨_, rfl, rfl⟩) (fun ρ => by simp [RelL, Rel, Value.cells]) rfl rfl
theorem ti214 : TIok Tryz.prog 214 ⟨.ptr 5, 1, [.nilp], 8⟩ := mkTI (z := (.pointer none)) (by kernel_rfl) Tryz.underlying214 (by first | exact rfl | exact ⟨_, rfl, rfl⟩) (fun ρ => by simp [RelL, Rel, Value.cells]) rfl rfl
theorem ti215 : TIok Tryz.prog 215 ⟨.int .i32, 1, [.int .i32 0], 4⟩ := mkTI (z := (.int .i32 0)) (by kernel_rfl) Tryz.underlying215 (by first | exact rfl | exact ⟨_, rfl, rfl⟩) (fun ρ => by simp [RelL, Rel, Value.cells]) rfl rfl
theorem ti216 : TIok Tryz.prog 216 ⟨.int .i32, 1, [.int .i32 0], 4⟩ := mkTI (z := (.int .i32 0)) (by kernel_rfl) Tryz.underlying216 (by first | exact rfl | exact ⟨_, rfl, rfl⟩) (fun ρ => by simp [RelL, Rel, Value.cells]) rfl rfl
theorem ti217 : TIok Tryz.prog 217 ⟨.struct [(0, 12), (1, 12), (2, 141), (3, 211), (4, 5), (5, 5), (6, 212), (7, 213), (8, 214), (9, 215), (10, 216)], 11, [.int .u64 0, .int .u64 0, .int .u32 0, .int .u8 0, .int .u8 0, .int .u8 0, .int .u8 0, .nilf, .nilp, .int .i32 0, .int .i32 0], 48⟩ := mkTI (z := (.agg #[.int .u64 0, .int .u64 0, .int .u32 0, .int .u8 0, .int .u8 0, .int .u8 0, .int .u8 0, .nilFunc, .pointer none, .int .i32 0, .int .i32 0])) (by kernel_rfl) Tryz.underlying217 (by first | exact rfl | exact ⟨_, rfl, rfl⟩) (fun ρ => by simp [RelL, Rel, Value.cells]) rfl rfl
theorem ti218 : TIok Tryz.prog 218 ⟨.struct [(0, 12), (1, 12), (2, 141), (3, 211), (4, 5), (5, 5), (6, 212), (7, 213), (8, 214), (9, 215), (10, 216)], 11, [.int .u64 0, .int .u64 0, .int .u32 0, .int .u8 0, .int .u8 0, .int .u8 0, .int .u8 0, .nilf, .nilp, .int .i32 0, .int .i32 0], 48⟩ := mkTI (z := (.agg #[.int .u64 0, .int .u64 0, .int .u32 0, .int .u8 0, .int .u8 0, .int .u8 0, .int .u8 0, .nilFunc, .pointer none, .int .i32 0, .int .i32 0])) (by kernel_rfl) Tryz.underlying218 (by first | exact rfl | exact ⟨_, rfl, rfl⟩) (fun ρ => by simp [RelL, Rel, Value.cells]) rfl rfl
theorem ttab_ok : ∀ q ∈ ttab, TIok Tryz.prog q.1 q.2 := by
  unfold ttab
  simp only [List.forall_mem_cons, List.not_mem_nil, false_imp_iff, implies_true, and_true]
  exact ⟨ti2, ti3, ti4, ti5, ti6, ti7, ti8, ti9, ti10, ti11, ti12, ti13, ti14, ti15, ti16, ti17, ti18, ti19, ti21, ti22, ti23, ti24, ti25, ti26, ti27, ti28, ti29, ti30, ti31, ti33, ti40, ti50, ti51, ti52, ti64, ti65, ti67, ti76, ti87, ti88, ti95, ti106, ti107, ti117, ti118, ti121, ti129, ti130, ti132, ti141, ti143, ti156, ti157, ti161, ti165, ti170, ti179, ti181, ti193, ti194, ti195, ti205, ti206, ti211, ti212, ti214, ti215, ti216, ti217, ti218⟩
theorem T_ok : TOk Tryz.prog T := by
  intro t i h
  unfold T at h
  simp only [Option.map_eq_some_iff] at h
  obtain ⟨q, hq, rfl⟩ := h
  have h1 := List.find?_some hq
  have h2 := ttab_ok q (List.mem_of_find?_eq_some hq)
  have h3 : q.1 = t := by simpa using h1
  rw [← h3]
  exact h2
theorem T2 : T 2 = some ⟨.int .i64, 1, [.int .i64 0], 8⟩ := by kernel_rfl
theorem T3 : T 3 = some ⟨.int .i64, 1, [.int .i64 0], 8⟩ := by kernel_rfl
theorem T4 : T 4 = some ⟨.bool, 1, [.bool false], 1⟩ := by kernel_rfl
theorem T5 : T 5 = some ⟨.int .u8, 1, [.int .u8 0], 1⟩ := by kernel_rfl
theorem T6 : T 6 = some ⟨.int .u8, 1, [.int .u8 0], 1⟩ := by kernel_rfl
theorem T7 : T 7 = some ⟨.struct [(0, 2), (1, 3), (2, 4), (3, 6)], 4, [.int .i64 0, .int .i64 0, .bool false, .int .u8 0], 24⟩ := by kernel_rfl
theorem T8 : T 8 = some ⟨.struct [(0, 2), (1, 3), (2, 4), (3, 6)], 4, [.int .i64 0, .int .i64 0, .bool false, .int .u8 0], 24⟩ := by kernel_rfl
theorem T9 : T 9 = some ⟨.string, 1, [.str ⟨#[]⟩], 16⟩ := by kernel_rfl
theorem T10 : T 10 = some ⟨.string, 1, [.str ⟨#[]⟩], 16⟩ := by kernel_rfl
theorem T11 : T 11 = some ⟨.string, 1, [.str ⟨#[]⟩], 16⟩ := by kernel_rfl
theorem T12 : T 12 = some ⟨.int .u64, 1, [.int .u64 0], 8⟩ := by kernel_rfl
theorem T13 : T 13 = some ⟨.struct [(0, 9), (1, 12)], 2, [.str ⟨#[]⟩, .int .u64 0], 24⟩ := by kernel_rfl
theorem T14 : T 14 = some ⟨.struct [(0, 9), (1, 12)], 2, [.str ⟨#[]⟩, .int .u64 0], 24⟩ := by kernel_rfl
theorem T15 : T 15 = some ⟨.ptr 206, 1, [.nilp], 8⟩ := by kernel_rfl
theorem T16 : T 16 = some ⟨.ptr 209, 1, [.nilp], 8⟩ := by kernel_rfl
theorem T17 : T 17 = some ⟨.ptr 218, 1, [.nilp], 8⟩ := by kernel_rfl
theorem T18 : T 18 = some ⟨.struct [(0, 17)], 1, [.nilp], 8⟩ := by kernel_rfl
theorem T19 : T 19 = some ⟨.struct [(0, 17)], 1, [.nilp], 8⟩ := by kernel_rfl
theorem T21 : T 21 = some ⟨.int .i32, 1, [.int .i32 0], 4⟩ := by kernel_rfl
theorem T22 : T 22 = some ⟨.slice 3, 1, [.nils], 24⟩ := by kernel_rfl
theorem T23 : T 23 = some ⟨.struct [(0, 3), (1, 3), (2, 22)], 3, [.int .i64 0, .int .i64 0, .nils], 40⟩ := by kernel_rfl
theorem T24 : T 24 = some ⟨.struct [(0, 3), (1, 3), (2, 22)], 3, [.int .i64 0, .int .i64 0, .nils], 40⟩ := by kernel_rfl
theorem T25 : T 25 = some ⟨.slice 22, 1, [.nils], 24⟩ := by kernel_rfl
theorem T26 : T 26 = some ⟨.struct [(0, 24), (3, 3), (4, 25)], 5, [.int .i64 0, .int .i64 0, .nils, .int .i64 0, .nils], 72⟩ := by kernel_rfl
theorem T27 : T 27 = some ⟨.struct [(0, 24), (3, 3), (4, 25)], 5, [.int .i64 0, .int .i64 0, .nils, .int .i64 0, .nils], 72⟩ := by kernel_rfl
theorem T28 : T 28 = some ⟨.struct [(0, 25)], 1, [.nils], 24⟩ := by kernel_rfl
theorem T29 : T 29 = some ⟨.struct [(0, 25)], 1, [.nils], 24⟩ := by kernel_rfl
theorem T30 : T 30 = some ⟨.struct [(0, 27), (5, 3), (6, 29), (7, 22), (8, 3)], 9, [.int .i64 0, .int .i64 0, .nils, .int .i64 0, .nils, .int .i64 0, .nils, .nils, .int .i64 0], 136⟩ := by kernel_rfl
theorem T31 : T 31 = some ⟨.struct [(0, 27), (5, 3), (6, 29), (7, 22), (8, 3)], 9, [.int .i64 0, .int .i64 0, .nils, .int .i64 0, .nils, .int .i64 0, .nils, .nils, .int .i64 0], 136⟩ := by kernel_rfl
theorem T33 : T 33 = some ⟨.int .i64, 1, [.int .i64 0], 8⟩ := by kernel_rfl
theorem T40 : T 40 = some ⟨.slice 25, 1, [.nils], 24⟩ := by kernel_rfl
theorem T50 : T 50 = some ⟨.slice 52, 1, [.nils], 24⟩ := by kernel_rfl
theorem T51 : T 51 = some ⟨.struct [(0, 3), (1, 4), (2, 22)], 3, [.int .i64 0, .bool false, .nils], 40⟩ := by kernel_rfl
theorem T52 : T 52 = some ⟨.struct [(0, 3), (1, 4), (2, 22)], 3, [.int .i64 0, .bool false, .nils], 40⟩ := by kernel_rfl
theorem T64 : T 64 = some ⟨.struct [(0, 3), (1, 3)], 2, [.int .i64 0, .int .i64 0], 16⟩ := by kernel_rfl
theorem T65 : T 65 = some ⟨.struct [(0, 3), (1, 3)], 2, [.int .i64 0, .int .i64 0], 16⟩ := by kernel_rfl
theorem T67 : T 67 = some ⟨.slice 65, 1, [.nils], 24⟩ := by kernel_rfl
theorem T76 : T 76 = some ⟨.ptr 107, 1, [.nilp], 8⟩ := by kernel_rfl
theorem T87 : T 87 = some ⟨.struct [(0, 3), (1, 25)], 2, [.int .i64 0, .nils], 32⟩ := by kernel_rfl
theorem T88 : T 88 = some ⟨.struct [(0, 3), (1, 25)], 2, [.int .i64 0, .nils], 32⟩ := by kernel_rfl
theorem T95 : T 95 = some ⟨.int .u64, 1, [.int .u64 0], 8⟩ := by kernel_rfl
theorem T106 : T 106 = some ⟨.struct [(0, 24), (3, 3), (4, 22), (5, 22)], 6, [.int .i64 0, .int .i64 0, .nils, .int .i64 0, .nils, .nils], 96⟩ := by kernel_rfl
theorem T107 : T 107 = some ⟨.struct [(0, 24), (3, 3), (4, 22), (5, 22)], 6, [.int .i64 0, .int .i64 0, .nils, .int .i64 0, .nils, .nils], 96⟩ := by kernel_rfl
theorem T117 : T 117 = some ⟨.struct [(0, 76), (1, 88), (3, 22)], 4, [.nilp, .int .i64 0, .nils, .nils], 64⟩ := by kernel_rfl
theorem T118 : T 118 = some ⟨.struct [(0, 76), (1, 88), (3, 22)], 4, [.nilp, .int .i64 0, .nils, .nils], 64⟩ := by kernel_rfl
theorem T121 : T 121 = some ⟨.ptr 157, 1, [.nilp], 8⟩ := by kernel_rfl
theorem T129 : T 129 = some ⟨.struct [(0, 27), (5, 3), (6, 3), (7, 22), (8, 4)], 9, [.int .i64 0, .int .i64 0, .nils, .int .i64 0, .nils, .int .i64 0, .int .i64 0, .nils, .bool false], 120⟩ := by kernel_rfl
theorem T130 : T 130 = some ⟨.struct [(0, 27), (5, 3), (6, 3), (7, 22), (8, 4)], 9, [.int .i64 0, .int .i64 0, .nils, .int .i64 0, .nils, .int .i64 0, .int .i64 0, .nils, .bool false], 120⟩ := by kernel_rfl
theorem T132 : T 132 = some ⟨.int .i64, 1, [.int .i64 0], 8⟩ := by kernel_rfl
theorem T141 : T 141 = some ⟨.int .u32, 1, [.int .u32 0], 4⟩ := by kernel_rfl
theorem T143 : T 143 = some ⟨.int .u64, 1, [.int .u64 0], 8⟩ := by kernel_rfl
theorem T156 : T 156 = some ⟨.struct [(0, 76), (1, 27), (6, 22), (7, 4), (8, 3), (9, 3), (10, 25), (11, 3)], 12, [.nilp, .int .i64 0, .int .i64 0, .nils, .int .i64 0, .nils, .nils, .bool false, .int .i64 0, .int .i64 0, .nils, .int .i64 0], 160⟩ := by kernel_rfl
theorem T157 : T 157 = some ⟨.struct [(0, 76), (1, 27), (6, 22), (7, 4), (8, 3), (9, 3), (10, 25), (11, 3)], 12, [.nilp, .int .i64 0, .int .i64 0, .nils, .int .i64 0, .nils, .nils, .bool false, .int .i64 0, .int .i64 0, .nils, .int .i64 0], 160⟩ := by kernel_rfl
theorem T161 : T 161 = some ⟨.int .u64, 1, [.int .u64 0], 8⟩ := by kernel_rfl
theorem T165 : T 165 = some ⟨.ptr 3, 1, [.nilp], 8⟩ := by kernel_rfl
theorem T170 : T 170 = some ⟨.slice 4, 1, [.nils], 24⟩ := by kernel_rfl
theorem T179 : T 179 = some ⟨.ptr 161, 1, [.nilp], 8⟩ := by kernel_rfl
theorem T181 : T 181 = some ⟨.slice 88, 1, [.nils], 24⟩ := by kernel_rfl
theorem T193 : T 193 = some ⟨.ptr 195, 1, [.nilp], 8⟩ := by kernel_rfl
theorem T194 : T 194 = some ⟨.struct [(0, 76), (1, 25), (2, 22)], 3, [.nilp, .nils, .nils], 56⟩ := by kernel_rfl
theorem T195 : T 195 = some ⟨.struct [(0, 76), (1, 25), (2, 22)], 3, [.nilp, .nils, .nils], 56⟩ := by kernel_rfl
theorem T205 : T 205 = some ⟨.struct [(0, 17), (1, 17), (2, 17), (3, 9)], 4, [.nilp, .nilp, .nilp, .str ⟨#[]⟩], 40⟩ := by kernel_rfl
theorem T206 : T 206 = some ⟨.struct [(0, 17), (1, 17), (2, 17), (3, 9)], 4, [.nilp, .nilp, .nilp, .str ⟨#[]⟩], 40⟩ := by kernel_rfl
theorem T211 : T 211 = some ⟨.int .u8, 1, [.int .u8 0], 1⟩ := by kernel_rfl
theorem T212 : T 212 = some ⟨.int .u8, 1, [.int .u8 0], 1⟩ := by kernel_rfl
theorem T214 : T 214 = some ⟨.ptr 5, 1, [.nilp], 8⟩ := by kernel_rfl
theorem T215 : T 215 = some ⟨.int .i32, 1, [.int .i32 0], 4⟩ := by kernel_rfl
theorem T216 : T 216 = some ⟨.int .i32, 1, [.int .i32 0], 4⟩ := by kernel_rfl
theorem T217 : T 217 = some ⟨.struct [(0, 12), (1, 12), (2, 141), (3, 211), (4, 5), (5, 5), (6, 212), (7, 213), (8, 214), (9, 215), (10, 216)], 11, [.int .u64 0, .int .u64 0, .int .u32 0, .int .u8 0, .int .u8 0, .int .u8 0, .int .u8 0, .nilf, .nilp, .int .i32 0, .int .i32 0], 48⟩ := by kernel_rfl
theorem T218 : T 218 = some ⟨.struct [(0, 12), (1, 12), (2, 141), (3, 211), (4, 5), (5, 5), (6, 212), (7, 213), (8, 214), (9, 215), (10, 216)], 11, [.int .u64 0, .int .u64 0, .int .u32 0, .int .u8 0, .int .u8 0, .int .u8 0, .int .u8 0, .nilf, .nilp, .int .i32 0, .int .i32 0], 48⟩ := by kernel_rfl
/-- The cell at a place. -/
def lcb (o : Nat) : Option Blk → Option V
  | some k => if k.st = 0 then none else k.cells[o]?
  | none => none
def lc (m : Mem) (b o : Nat) : Option V := lcb o m[b]?
/-- The cells from a place on. -/
def lab (z o : Nat) : Option Blk → Option V
  | some k => if k.st = 0 then none else if o + z ≤ k.cells.length then some (.agg ((k.cells.drop o).take z)) else none
  | none => none
def la (z : Nat) (m : Mem) (b o : Nat) : Option V := lab z o m[b]?
/-- A cell laid at a place. -/
def scb (o : Nat) (u : V) : Option Blk → Option Blk
  | some k => if k.st = 2 ∧ u.isCell = true ∧ o < k.cells.length then some ⟨k.cells.set o u, 2⟩ else none
  | none => none
def sc (m : Mem) (b o : Nat) (u : V) : Option Mem := (scb o u m[b]?).map fun k => m.set b k
@[simp] theorem lcb_some (o : Nat) (c : List V) (st : Nat) (h : st ≠ 0) : lcb o (some ⟨c, st⟩) = c[o]? := by simp [lcb, h]
@[simp] theorem lab_some (z o : Nat) (c : List V) (st : Nat) (h : st ≠ 0) : lab z o (some ⟨c, st⟩) = if o + z ≤ c.length then some (.agg ((c.drop o).take z)) else none := by simp [lab, h]
@[simp] theorem scb_some (o : Nat) (u : V) (c : List V) : scb o u (some ⟨c, 2⟩) = if u.isCell = true ∧ o < c.length then some ⟨c.set o u, 2⟩ else none := by simp [scb]
theorem ld_of {T : TT} {t : TypeId} {i : TI} (h : T t = some i) (ha : i.agg = false) (b o : Nat) (m : Mem) : opLoad T t (.ptr b o) m = lc m b o := by
  simp only [opLoad, h, lc, ha]; cases m[b]? <;> rfl
theorem la_of {T : TT} {t : TypeId} {i : TI} (h : T t = some i) (ha : i.agg = true) (b o : Nat) (m : Mem) : opLoad T t (.ptr b o) m = la i.size m b o := by
  simp only [opLoad, h, la, ha]; cases m[b]? <;> rfl
theorem st_of {T : TT} {t : TypeId} {i : TI} (h : T t = some i) (hz : i.size = 1) (b o : Nat) (u : V) (m : Mem) (hu : u.isCell = true) : opStore T t (.ptr b o) u m = sc m b o u := by
  have hc : u.cells = [u] := by cases u <;> simp [V.cells, V.isCell] at hu ⊢
  simp only [opStore, h, sc, hc, hz, hu, List.length_cons, List.length_nil, List.all_cons, List.all_nil, put_one, Bool.and_true, true_and]
  cases hm : m[b]? with
  | none => rfl
  | some k =>
    simp only [scb, hu, true_and, Nat.lt_iff_add_one_le]
    split <;> rfl
@[simp] theorem ld2 (b o : Nat) (m : Mem) : opLoad T 2 (.ptr b o) m = lc m b o := ld_of T2 rfl b o m
theorem st2 (b o : Nat) (u : V) (m : Mem) (hu : u.isCell = true) : opStore T 2 (.ptr b o) u m = sc m b o u := st_of T2 rfl b o u m hu
@[simp] theorem ld3 (b o : Nat) (m : Mem) : opLoad T 3 (.ptr b o) m = lc m b o := ld_of T3 rfl b o m
theorem st3 (b o : Nat) (u : V) (m : Mem) (hu : u.isCell = true) : opStore T 3 (.ptr b o) u m = sc m b o u := st_of T3 rfl b o u m hu
@[simp] theorem ld4 (b o : Nat) (m : Mem) : opLoad T 4 (.ptr b o) m = lc m b o := ld_of T4 rfl b o m
theorem st4 (b o : Nat) (u : V) (m : Mem) (hu : u.isCell = true) : opStore T 4 (.ptr b o) u m = sc m b o u := st_of T4 rfl b o u m hu
@[simp] theorem ld5 (b o : Nat) (m : Mem) : opLoad T 5 (.ptr b o) m = lc m b o := ld_of T5 rfl b o m
theorem st5 (b o : Nat) (u : V) (m : Mem) (hu : u.isCell = true) : opStore T 5 (.ptr b o) u m = sc m b o u := st_of T5 rfl b o u m hu
@[simp] theorem ld6 (b o : Nat) (m : Mem) : opLoad T 6 (.ptr b o) m = lc m b o := ld_of T6 rfl b o m
theorem st6 (b o : Nat) (u : V) (m : Mem) (hu : u.isCell = true) : opStore T 6 (.ptr b o) u m = sc m b o u := st_of T6 rfl b o u m hu
@[simp] theorem ld7 (b o : Nat) (m : Mem) : opLoad T 7 (.ptr b o) m = la 4 m b o := la_of T7 rfl b o m
@[simp] theorem fa7_0 (b o : Nat) : opFieldAddr T 7 (.ptr b o) 0 = some (.ptr b (o + 0)) := by simp [opFieldAddr, T7, T2]
@[simp] theorem ff7_0 (l : List V) : opField T 7 (.agg l) 0 = l[0]? := by simp [opField, T7, T2, TI.agg]
@[simp] theorem fa7_1 (b o : Nat) : opFieldAddr T 7 (.ptr b o) 1 = some (.ptr b (o + 1)) := by simp [opFieldAddr, T7, T3]
@[simp] theorem ff7_1 (l : List V) : opField T 7 (.agg l) 1 = l[1]? := by simp [opField, T7, T3, TI.agg]
@[simp] theorem fa7_2 (b o : Nat) : opFieldAddr T 7 (.ptr b o) 2 = some (.ptr b (o + 2)) := by simp [opFieldAddr, T7, T4]
@[simp] theorem ff7_2 (l : List V) : opField T 7 (.agg l) 2 = l[2]? := by simp [opField, T7, T4, TI.agg]
@[simp] theorem fa7_3 (b o : Nat) : opFieldAddr T 7 (.ptr b o) 3 = some (.ptr b (o + 3)) := by simp [opFieldAddr, T7, T6]
@[simp] theorem ff7_3 (l : List V) : opField T 7 (.agg l) 3 = l[3]? := by simp [opField, T7, T6, TI.agg]
@[simp] theorem ld8 (b o : Nat) (m : Mem) : opLoad T 8 (.ptr b o) m = la 4 m b o := la_of T8 rfl b o m
@[simp] theorem fa8_0 (b o : Nat) : opFieldAddr T 8 (.ptr b o) 0 = some (.ptr b (o + 0)) := by simp [opFieldAddr, T8, T2]
@[simp] theorem ff8_0 (l : List V) : opField T 8 (.agg l) 0 = l[0]? := by simp [opField, T8, T2, TI.agg]
@[simp] theorem fa8_1 (b o : Nat) : opFieldAddr T 8 (.ptr b o) 1 = some (.ptr b (o + 1)) := by simp [opFieldAddr, T8, T3]
@[simp] theorem ff8_1 (l : List V) : opField T 8 (.agg l) 1 = l[1]? := by simp [opField, T8, T3, TI.agg]
@[simp] theorem fa8_2 (b o : Nat) : opFieldAddr T 8 (.ptr b o) 2 = some (.ptr b (o + 2)) := by simp [opFieldAddr, T8, T4]
@[simp] theorem ff8_2 (l : List V) : opField T 8 (.agg l) 2 = l[2]? := by simp [opField, T8, T4, TI.agg]
@[simp] theorem fa8_3 (b o : Nat) : opFieldAddr T 8 (.ptr b o) 3 = some (.ptr b (o + 3)) := by simp [opFieldAddr, T8, T6]
@[simp] theorem ff8_3 (l : List V) : opField T 8 (.agg l) 3 = l[3]? := by simp [opField, T8, T6, TI.agg]
@[simp] theorem ld9 (b o : Nat) (m : Mem) : opLoad T 9 (.ptr b o) m = lc m b o := ld_of T9 rfl b o m
theorem st9 (b o : Nat) (u : V) (m : Mem) (hu : u.isCell = true) : opStore T 9 (.ptr b o) u m = sc m b o u := st_of T9 rfl b o u m hu
@[simp] theorem ld10 (b o : Nat) (m : Mem) : opLoad T 10 (.ptr b o) m = lc m b o := ld_of T10 rfl b o m
theorem st10 (b o : Nat) (u : V) (m : Mem) (hu : u.isCell = true) : opStore T 10 (.ptr b o) u m = sc m b o u := st_of T10 rfl b o u m hu
@[simp] theorem ld11 (b o : Nat) (m : Mem) : opLoad T 11 (.ptr b o) m = lc m b o := ld_of T11 rfl b o m
theorem st11 (b o : Nat) (u : V) (m : Mem) (hu : u.isCell = true) : opStore T 11 (.ptr b o) u m = sc m b o u := st_of T11 rfl b o u m hu
@[simp] theorem ld12 (b o : Nat) (m : Mem) : opLoad T 12 (.ptr b o) m = lc m b o := ld_of T12 rfl b o m
theorem st12 (b o : Nat) (u : V) (m : Mem) (hu : u.isCell = true) : opStore T 12 (.ptr b o) u m = sc m b o u := st_of T12 rfl b o u m hu
@[simp] theorem ld13 (b o : Nat) (m : Mem) : opLoad T 13 (.ptr b o) m = la 2 m b o := la_of T13 rfl b o m
@[simp] theorem fa13_0 (b o : Nat) : opFieldAddr T 13 (.ptr b o) 0 = some (.ptr b (o + 0)) := by simp [opFieldAddr, T13, T9]
@[simp] theorem ff13_0 (l : List V) : opField T 13 (.agg l) 0 = l[0]? := by simp [opField, T13, T9, TI.agg]
@[simp] theorem fa13_1 (b o : Nat) : opFieldAddr T 13 (.ptr b o) 1 = some (.ptr b (o + 1)) := by simp [opFieldAddr, T13, T12]
@[simp] theorem ff13_1 (l : List V) : opField T 13 (.agg l) 1 = l[1]? := by simp [opField, T13, T12, TI.agg]
@[simp] theorem ld14 (b o : Nat) (m : Mem) : opLoad T 14 (.ptr b o) m = la 2 m b o := la_of T14 rfl b o m
@[simp] theorem fa14_0 (b o : Nat) : opFieldAddr T 14 (.ptr b o) 0 = some (.ptr b (o + 0)) := by simp [opFieldAddr, T14, T9]
@[simp] theorem ff14_0 (l : List V) : opField T 14 (.agg l) 0 = l[0]? := by simp [opField, T14, T9, TI.agg]
@[simp] theorem fa14_1 (b o : Nat) : opFieldAddr T 14 (.ptr b o) 1 = some (.ptr b (o + 1)) := by simp [opFieldAddr, T14, T12]
@[simp] theorem ff14_1 (l : List V) : opField T 14 (.agg l) 1 = l[1]? := by simp [opField, T14, T12, TI.agg]
@[simp] theorem ld15 (b o : Nat) (m : Mem) : opLoad T 15 (.ptr b o) m = lc m b o := ld_of T15 rfl b o m
theorem st15 (b o : Nat) (u : V) (m : Mem) (hu : u.isCell = true) : opStore T 15 (.ptr b o) u m = sc m b o u := st_of T15 rfl b o u m hu
@[simp] theorem ld16 (b o : Nat) (m : Mem) : opLoad T 16 (.ptr b o) m = lc m b o := ld_of T16 rfl b o m
theorem st16 (b o : Nat) (u : V) (m : Mem) (hu : u.isCell = true) : opStore T 16 (.ptr b o) u m = sc m b o u := st_of T16 rfl b o u m hu
@[simp] theorem ld17 (b o : Nat) (m : Mem) : opLoad T 17 (.ptr b o) m = lc m b o := ld_of T17 rfl b o m
theorem st17 (b o : Nat) (u : V) (m : Mem) (hu : u.isCell = true) : opStore T 17 (.ptr b o) u m = sc m b o u := st_of T17 rfl b o u m hu
@[simp] theorem ld18 (b o : Nat) (m : Mem) : opLoad T 18 (.ptr b o) m = la 1 m b o := la_of T18 rfl b o m
@[simp] theorem fa18_0 (b o : Nat) : opFieldAddr T 18 (.ptr b o) 0 = some (.ptr b (o + 0)) := by simp [opFieldAddr, T18, T17]
@[simp] theorem ff18_0 (l : List V) : opField T 18 (.agg l) 0 = l[0]? := by simp [opField, T18, T17, TI.agg]
@[simp] theorem ld19 (b o : Nat) (m : Mem) : opLoad T 19 (.ptr b o) m = la 1 m b o := la_of T19 rfl b o m
@[simp] theorem fa19_0 (b o : Nat) : opFieldAddr T 19 (.ptr b o) 0 = some (.ptr b (o + 0)) := by simp [opFieldAddr, T19, T17]
@[simp] theorem ff19_0 (l : List V) : opField T 19 (.agg l) 0 = l[0]? := by simp [opField, T19, T17, TI.agg]
@[simp] theorem ld21 (b o : Nat) (m : Mem) : opLoad T 21 (.ptr b o) m = lc m b o := ld_of T21 rfl b o m
theorem st21 (b o : Nat) (u : V) (m : Mem) (hu : u.isCell = true) : opStore T 21 (.ptr b o) u m = sc m b o u := st_of T21 rfl b o u m hu
@[simp] theorem ld22 (b o : Nat) (m : Mem) : opLoad T 22 (.ptr b o) m = lc m b o := ld_of T22 rfl b o m
theorem st22 (b o : Nat) (u : V) (m : Mem) (hu : u.isCell = true) : opStore T 22 (.ptr b o) u m = sc m b o u := st_of T22 rfl b o u m hu
@[simp] theorem ld23 (b o : Nat) (m : Mem) : opLoad T 23 (.ptr b o) m = la 3 m b o := la_of T23 rfl b o m
@[simp] theorem fa23_0 (b o : Nat) : opFieldAddr T 23 (.ptr b o) 0 = some (.ptr b (o + 0)) := by simp [opFieldAddr, T23, T3]
@[simp] theorem ff23_0 (l : List V) : opField T 23 (.agg l) 0 = l[0]? := by simp [opField, T23, T3, TI.agg]
@[simp] theorem fa23_1 (b o : Nat) : opFieldAddr T 23 (.ptr b o) 1 = some (.ptr b (o + 1)) := by simp [opFieldAddr, T23, T3]
@[simp] theorem ff23_1 (l : List V) : opField T 23 (.agg l) 1 = l[1]? := by simp [opField, T23, T3, TI.agg]
@[simp] theorem fa23_2 (b o : Nat) : opFieldAddr T 23 (.ptr b o) 2 = some (.ptr b (o + 2)) := by simp [opFieldAddr, T23, T22]
@[simp] theorem ff23_2 (l : List V) : opField T 23 (.agg l) 2 = l[2]? := by simp [opField, T23, T22, TI.agg]
@[simp] theorem ld24 (b o : Nat) (m : Mem) : opLoad T 24 (.ptr b o) m = la 3 m b o := la_of T24 rfl b o m
@[simp] theorem fa24_0 (b o : Nat) : opFieldAddr T 24 (.ptr b o) 0 = some (.ptr b (o + 0)) := by simp [opFieldAddr, T24, T3]
@[simp] theorem ff24_0 (l : List V) : opField T 24 (.agg l) 0 = l[0]? := by simp [opField, T24, T3, TI.agg]
@[simp] theorem fa24_1 (b o : Nat) : opFieldAddr T 24 (.ptr b o) 1 = some (.ptr b (o + 1)) := by simp [opFieldAddr, T24, T3]
@[simp] theorem ff24_1 (l : List V) : opField T 24 (.agg l) 1 = l[1]? := by simp [opField, T24, T3, TI.agg]
@[simp] theorem fa24_2 (b o : Nat) : opFieldAddr T 24 (.ptr b o) 2 = some (.ptr b (o + 2)) := by simp [opFieldAddr, T24, T22]
@[simp] theorem ff24_2 (l : List V) : opField T 24 (.agg l) 2 = l[2]? := by simp [opField, T24, T22, TI.agg]
@[simp] theorem ld25 (b o : Nat) (m : Mem) : opLoad T 25 (.ptr b o) m = lc m b o := ld_of T25 rfl b o m
theorem st25 (b o : Nat) (u : V) (m : Mem) (hu : u.isCell = true) : opStore T 25 (.ptr b o) u m = sc m b o u := st_of T25 rfl b o u m hu
@[simp] theorem ld26 (b o : Nat) (m : Mem) : opLoad T 26 (.ptr b o) m = la 5 m b o := la_of T26 rfl b o m
@[simp] theorem fa26_0 (b o : Nat) : opFieldAddr T 26 (.ptr b o) 0 = some (.ptr b (o + 0)) := by simp [opFieldAddr, T26, T24]
@[simp] theorem ff26_0 (l : List V) : opField T 26 (.agg l) 0 = some (.agg ((l.drop 0).take 3)) := by simp [opField, T26, T24, TI.agg]
@[simp] theorem fa26_1 (b o : Nat) : opFieldAddr T 26 (.ptr b o) 1 = some (.ptr b (o + 3)) := by simp [opFieldAddr, T26, T3]
@[simp] theorem ff26_1 (l : List V) : opField T 26 (.agg l) 1 = l[3]? := by simp [opField, T26, T3, TI.agg]
@[simp] theorem fa26_2 (b o : Nat) : opFieldAddr T 26 (.ptr b o) 2 = some (.ptr b (o + 4)) := by simp [opFieldAddr, T26, T25]
@[simp] theorem ff26_2 (l : List V) : opField T 26 (.agg l) 2 = l[4]? := by simp [opField, T26, T25, TI.agg]
@[simp] theorem ld27 (b o : Nat) (m : Mem) : opLoad T 27 (.ptr b o) m = la 5 m b o := la_of T27 rfl b o m
@[simp] theorem fa27_0 (b o : Nat) : opFieldAddr T 27 (.ptr b o) 0 = some (.ptr b (o + 0)) := by simp [opFieldAddr, T27, T24]
@[simp] theorem ff27_0 (l : List V) : opField T 27 (.agg l) 0 = some (.agg ((l.drop 0).take 3)) := by simp [opField, T27, T24, TI.agg]
@[simp] theorem fa27_1 (b o : Nat) : opFieldAddr T 27 (.ptr b o) 1 = some (.ptr b (o + 3)) := by simp [opFieldAddr, T27, T3]
@[simp] theorem ff27_1 (l : List V) : opField T 27 (.agg l) 1 = l[3]? := by simp [opField, T27, T3, TI.agg]
@[simp] theorem fa27_2 (b o : Nat) : opFieldAddr T 27 (.ptr b o) 2 = some (.ptr b (o + 4)) := by simp [opFieldAddr, T27, T25]
@[simp] theorem ff27_2 (l : List V) : opField T 27 (.agg l) 2 = l[4]? := by simp [opField, T27, T25, TI.agg]
@[simp] theorem ld28 (b o : Nat) (m : Mem) : opLoad T 28 (.ptr b o) m = la 1 m b o := la_of T28 rfl b o m
@[simp] theorem fa28_0 (b o : Nat) : opFieldAddr T 28 (.ptr b o) 0 = some (.ptr b (o + 0)) := by simp [opFieldAddr, T28, T25]
@[simp] theorem ff28_0 (l : List V) : opField T 28 (.agg l) 0 = l[0]? := by simp [opField, T28, T25, TI.agg]
@[simp] theorem ld29 (b o : Nat) (m : Mem) : opLoad T 29 (.ptr b o) m = la 1 m b o := la_of T29 rfl b o m
@[simp] theorem fa29_0 (b o : Nat) : opFieldAddr T 29 (.ptr b o) 0 = some (.ptr b (o + 0)) := by simp [opFieldAddr, T29, T25]
@[simp] theorem ff29_0 (l : List V) : opField T 29 (.agg l) 0 = l[0]? := by simp [opField, T29, T25, TI.agg]
@[simp] theorem ld30 (b o : Nat) (m : Mem) : opLoad T 30 (.ptr b o) m = la 9 m b o := la_of T30 rfl b o m
@[simp] theorem fa30_0 (b o : Nat) : opFieldAddr T 30 (.ptr b o) 0 = some (.ptr b (o + 0)) := by simp [opFieldAddr, T30, T27]
@[simp] theorem ff30_0 (l : List V) : opField T 30 (.agg l) 0 = some (.agg ((l.drop 0).take 5)) := by simp [opField, T30, T27, TI.agg]
@[simp] theorem fa30_1 (b o : Nat) : opFieldAddr T 30 (.ptr b o) 1 = some (.ptr b (o + 5)) := by simp [opFieldAddr, T30, T3]
@[simp] theorem ff30_1 (l : List V) : opField T 30 (.agg l) 1 = l[5]? := by simp [opField, T30, T3, TI.agg]
@[simp] theorem fa30_2 (b o : Nat) : opFieldAddr T 30 (.ptr b o) 2 = some (.ptr b (o + 6)) := by simp [opFieldAddr, T30, T29]
@[simp] theorem ff30_2 (l : List V) : opField T 30 (.agg l) 2 = some (.agg ((l.drop 6).take 1)) := by simp [opField, T30, T29, TI.agg]
@[simp] theorem fa30_3 (b o : Nat) : opFieldAddr T 30 (.ptr b o) 3 = some (.ptr b (o + 7)) := by simp [opFieldAddr, T30, T22]
@[simp] theorem ff30_3 (l : List V) : opField T 30 (.agg l) 3 = l[7]? := by simp [opField, T30, T22, TI.agg]
@[simp] theorem fa30_4 (b o : Nat) : opFieldAddr T 30 (.ptr b o) 4 = some (.ptr b (o + 8)) := by simp [opFieldAddr, T30, T3]
@[simp] theorem ff30_4 (l : List V) : opField T 30 (.agg l) 4 = l[8]? := by simp [opField, T30, T3, TI.agg]
@[simp] theorem ld31 (b o : Nat) (m : Mem) : opLoad T 31 (.ptr b o) m = la 9 m b o := la_of T31 rfl b o m
@[simp] theorem fa31_0 (b o : Nat) : opFieldAddr T 31 (.ptr b o) 0 = some (.ptr b (o + 0)) := by simp [opFieldAddr, T31, T27]
@[simp] theorem ff31_0 (l : List V) : opField T 31 (.agg l) 0 = some (.agg ((l.drop 0).take 5)) := by simp [opField, T31, T27, TI.agg]
@[simp] theorem fa31_1 (b o : Nat) : opFieldAddr T 31 (.ptr b o) 1 = some (.ptr b (o + 5)) := by simp [opFieldAddr, T31, T3]
@[simp] theorem ff31_1 (l : List V) : opField T 31 (.agg l) 1 = l[5]? := by simp [opField, T31, T3, TI.agg]
@[simp] theorem fa31_2 (b o : Nat) : opFieldAddr T 31 (.ptr b o) 2 = some (.ptr b (o + 6)) := by simp [opFieldAddr, T31, T29]
@[simp] theorem ff31_2 (l : List V) : opField T 31 (.agg l) 2 = some (.agg ((l.drop 6).take 1)) := by simp [opField, T31, T29, TI.agg]
@[simp] theorem fa31_3 (b o : Nat) : opFieldAddr T 31 (.ptr b o) 3 = some (.ptr b (o + 7)) := by simp [opFieldAddr, T31, T22]
@[simp] theorem ff31_3 (l : List V) : opField T 31 (.agg l) 3 = l[7]? := by simp [opField, T31, T22, TI.agg]
@[simp] theorem fa31_4 (b o : Nat) : opFieldAddr T 31 (.ptr b o) 4 = some (.ptr b (o + 8)) := by simp [opFieldAddr, T31, T3]
@[simp] theorem ff31_4 (l : List V) : opField T 31 (.agg l) 4 = l[8]? := by simp [opField, T31, T3, TI.agg]
@[simp] theorem ld33 (b o : Nat) (m : Mem) : opLoad T 33 (.ptr b o) m = lc m b o := ld_of T33 rfl b o m
theorem st33 (b o : Nat) (u : V) (m : Mem) (hu : u.isCell = true) : opStore T 33 (.ptr b o) u m = sc m b o u := st_of T33 rfl b o u m hu
@[simp] theorem ld40 (b o : Nat) (m : Mem) : opLoad T 40 (.ptr b o) m = lc m b o := ld_of T40 rfl b o m
theorem st40 (b o : Nat) (u : V) (m : Mem) (hu : u.isCell = true) : opStore T 40 (.ptr b o) u m = sc m b o u := st_of T40 rfl b o u m hu
@[simp] theorem ld50 (b o : Nat) (m : Mem) : opLoad T 50 (.ptr b o) m = lc m b o := ld_of T50 rfl b o m
theorem st50 (b o : Nat) (u : V) (m : Mem) (hu : u.isCell = true) : opStore T 50 (.ptr b o) u m = sc m b o u := st_of T50 rfl b o u m hu
@[simp] theorem ld51 (b o : Nat) (m : Mem) : opLoad T 51 (.ptr b o) m = la 3 m b o := la_of T51 rfl b o m
@[simp] theorem fa51_0 (b o : Nat) : opFieldAddr T 51 (.ptr b o) 0 = some (.ptr b (o + 0)) := by simp [opFieldAddr, T51, T3]
@[simp] theorem ff51_0 (l : List V) : opField T 51 (.agg l) 0 = l[0]? := by simp [opField, T51, T3, TI.agg]
@[simp] theorem fa51_1 (b o : Nat) : opFieldAddr T 51 (.ptr b o) 1 = some (.ptr b (o + 1)) := by simp [opFieldAddr, T51, T4]
@[simp] theorem ff51_1 (l : List V) : opField T 51 (.agg l) 1 = l[1]? := by simp [opField, T51, T4, TI.agg]
@[simp] theorem fa51_2 (b o : Nat) : opFieldAddr T 51 (.ptr b o) 2 = some (.ptr b (o + 2)) := by simp [opFieldAddr, T51, T22]
@[simp] theorem ff51_2 (l : List V) : opField T 51 (.agg l) 2 = l[2]? := by simp [opField, T51, T22, TI.agg]
@[simp] theorem ld52 (b o : Nat) (m : Mem) : opLoad T 52 (.ptr b o) m = la 3 m b o := la_of T52 rfl b o m
@[simp] theorem fa52_0 (b o : Nat) : opFieldAddr T 52 (.ptr b o) 0 = some (.ptr b (o + 0)) := by simp [opFieldAddr, T52, T3]
@[simp] theorem ff52_0 (l : List V) : opField T 52 (.agg l) 0 = l[0]? := by simp [opField, T52, T3, TI.agg]
@[simp] theorem fa52_1 (b o : Nat) : opFieldAddr T 52 (.ptr b o) 1 = some (.ptr b (o + 1)) := by simp [opFieldAddr, T52, T4]
@[simp] theorem ff52_1 (l : List V) : opField T 52 (.agg l) 1 = l[1]? := by simp [opField, T52, T4, TI.agg]
@[simp] theorem fa52_2 (b o : Nat) : opFieldAddr T 52 (.ptr b o) 2 = some (.ptr b (o + 2)) := by simp [opFieldAddr, T52, T22]
@[simp] theorem ff52_2 (l : List V) : opField T 52 (.agg l) 2 = l[2]? := by simp [opField, T52, T22, TI.agg]
@[simp] theorem ld64 (b o : Nat) (m : Mem) : opLoad T 64 (.ptr b o) m = la 2 m b o := la_of T64 rfl b o m
@[simp] theorem fa64_0 (b o : Nat) : opFieldAddr T 64 (.ptr b o) 0 = some (.ptr b (o + 0)) := by simp [opFieldAddr, T64, T3]
@[simp] theorem ff64_0 (l : List V) : opField T 64 (.agg l) 0 = l[0]? := by simp [opField, T64, T3, TI.agg]
@[simp] theorem fa64_1 (b o : Nat) : opFieldAddr T 64 (.ptr b o) 1 = some (.ptr b (o + 1)) := by simp [opFieldAddr, T64, T3]
@[simp] theorem ff64_1 (l : List V) : opField T 64 (.agg l) 1 = l[1]? := by simp [opField, T64, T3, TI.agg]
@[simp] theorem ld65 (b o : Nat) (m : Mem) : opLoad T 65 (.ptr b o) m = la 2 m b o := la_of T65 rfl b o m
@[simp] theorem fa65_0 (b o : Nat) : opFieldAddr T 65 (.ptr b o) 0 = some (.ptr b (o + 0)) := by simp [opFieldAddr, T65, T3]
@[simp] theorem ff65_0 (l : List V) : opField T 65 (.agg l) 0 = l[0]? := by simp [opField, T65, T3, TI.agg]
@[simp] theorem fa65_1 (b o : Nat) : opFieldAddr T 65 (.ptr b o) 1 = some (.ptr b (o + 1)) := by simp [opFieldAddr, T65, T3]
@[simp] theorem ff65_1 (l : List V) : opField T 65 (.agg l) 1 = l[1]? := by simp [opField, T65, T3, TI.agg]
@[simp] theorem ld67 (b o : Nat) (m : Mem) : opLoad T 67 (.ptr b o) m = lc m b o := ld_of T67 rfl b o m
theorem st67 (b o : Nat) (u : V) (m : Mem) (hu : u.isCell = true) : opStore T 67 (.ptr b o) u m = sc m b o u := st_of T67 rfl b o u m hu
@[simp] theorem ld76 (b o : Nat) (m : Mem) : opLoad T 76 (.ptr b o) m = lc m b o := ld_of T76 rfl b o m
theorem st76 (b o : Nat) (u : V) (m : Mem) (hu : u.isCell = true) : opStore T 76 (.ptr b o) u m = sc m b o u := st_of T76 rfl b o u m hu
@[simp] theorem ld87 (b o : Nat) (m : Mem) : opLoad T 87 (.ptr b o) m = la 2 m b o := la_of T87 rfl b o m
@[simp] theorem fa87_0 (b o : Nat) : opFieldAddr T 87 (.ptr b o) 0 = some (.ptr b (o + 0)) := by simp [opFieldAddr, T87, T3]
@[simp] theorem ff87_0 (l : List V) : opField T 87 (.agg l) 0 = l[0]? := by simp [opField, T87, T3, TI.agg]
@[simp] theorem fa87_1 (b o : Nat) : opFieldAddr T 87 (.ptr b o) 1 = some (.ptr b (o + 1)) := by simp [opFieldAddr, T87, T25]
@[simp] theorem ff87_1 (l : List V) : opField T 87 (.agg l) 1 = l[1]? := by simp [opField, T87, T25, TI.agg]
@[simp] theorem ld88 (b o : Nat) (m : Mem) : opLoad T 88 (.ptr b o) m = la 2 m b o := la_of T88 rfl b o m
@[simp] theorem fa88_0 (b o : Nat) : opFieldAddr T 88 (.ptr b o) 0 = some (.ptr b (o + 0)) := by simp [opFieldAddr, T88, T3]
@[simp] theorem ff88_0 (l : List V) : opField T 88 (.agg l) 0 = l[0]? := by simp [opField, T88, T3, TI.agg]
@[simp] theorem fa88_1 (b o : Nat) : opFieldAddr T 88 (.ptr b o) 1 = some (.ptr b (o + 1)) := by simp [opFieldAddr, T88, T25]
@[simp] theorem ff88_1 (l : List V) : opField T 88 (.agg l) 1 = l[1]? := by simp [opField, T88, T25, TI.agg]
@[simp] theorem ld95 (b o : Nat) (m : Mem) : opLoad T 95 (.ptr b o) m = lc m b o := ld_of T95 rfl b o m
theorem st95 (b o : Nat) (u : V) (m : Mem) (hu : u.isCell = true) : opStore T 95 (.ptr b o) u m = sc m b o u := st_of T95 rfl b o u m hu
@[simp] theorem ld106 (b o : Nat) (m : Mem) : opLoad T 106 (.ptr b o) m = la 6 m b o := la_of T106 rfl b o m
@[simp] theorem fa106_0 (b o : Nat) : opFieldAddr T 106 (.ptr b o) 0 = some (.ptr b (o + 0)) := by simp [opFieldAddr, T106, T24]
@[simp] theorem ff106_0 (l : List V) : opField T 106 (.agg l) 0 = some (.agg ((l.drop 0).take 3)) := by simp [opField, T106, T24, TI.agg]
@[simp] theorem fa106_1 (b o : Nat) : opFieldAddr T 106 (.ptr b o) 1 = some (.ptr b (o + 3)) := by simp [opFieldAddr, T106, T3]
@[simp] theorem ff106_1 (l : List V) : opField T 106 (.agg l) 1 = l[3]? := by simp [opField, T106, T3, TI.agg]
@[simp] theorem fa106_2 (b o : Nat) : opFieldAddr T 106 (.ptr b o) 2 = some (.ptr b (o + 4)) := by simp [opFieldAddr, T106, T22]
@[simp] theorem ff106_2 (l : List V) : opField T 106 (.agg l) 2 = l[4]? := by simp [opField, T106, T22, TI.agg]
@[simp] theorem fa106_3 (b o : Nat) : opFieldAddr T 106 (.ptr b o) 3 = some (.ptr b (o + 5)) := by simp [opFieldAddr, T106, T22]
@[simp] theorem ff106_3 (l : List V) : opField T 106 (.agg l) 3 = l[5]? := by simp [opField, T106, T22, TI.agg]
@[simp] theorem ld107 (b o : Nat) (m : Mem) : opLoad T 107 (.ptr b o) m = la 6 m b o := la_of T107 rfl b o m
@[simp] theorem fa107_0 (b o : Nat) : opFieldAddr T 107 (.ptr b o) 0 = some (.ptr b (o + 0)) := by simp [opFieldAddr, T107, T24]
@[simp] theorem ff107_0 (l : List V) : opField T 107 (.agg l) 0 = some (.agg ((l.drop 0).take 3)) := by simp [opField, T107, T24, TI.agg]
@[simp] theorem fa107_1 (b o : Nat) : opFieldAddr T 107 (.ptr b o) 1 = some (.ptr b (o + 3)) := by simp [opFieldAddr, T107, T3]
@[simp] theorem ff107_1 (l : List V) : opField T 107 (.agg l) 1 = l[3]? := by simp [opField, T107, T3, TI.agg]
@[simp] theorem fa107_2 (b o : Nat) : opFieldAddr T 107 (.ptr b o) 2 = some (.ptr b (o + 4)) := by simp [opFieldAddr, T107, T22]
@[simp] theorem ff107_2 (l : List V) : opField T 107 (.agg l) 2 = l[4]? := by simp [opField, T107, T22, TI.agg]
@[simp] theorem fa107_3 (b o : Nat) : opFieldAddr T 107 (.ptr b o) 3 = some (.ptr b (o + 5)) := by simp [opFieldAddr, T107, T22]
@[simp] theorem ff107_3 (l : List V) : opField T 107 (.agg l) 3 = l[5]? := by simp [opField, T107, T22, TI.agg]
@[simp] theorem ld117 (b o : Nat) (m : Mem) : opLoad T 117 (.ptr b o) m = la 4 m b o := la_of T117 rfl b o m
@[simp] theorem fa117_0 (b o : Nat) : opFieldAddr T 117 (.ptr b o) 0 = some (.ptr b (o + 0)) := by simp [opFieldAddr, T117, T76]
@[simp] theorem ff117_0 (l : List V) : opField T 117 (.agg l) 0 = l[0]? := by simp [opField, T117, T76, TI.agg]
@[simp] theorem fa117_1 (b o : Nat) : opFieldAddr T 117 (.ptr b o) 1 = some (.ptr b (o + 1)) := by simp [opFieldAddr, T117, T88]
@[simp] theorem ff117_1 (l : List V) : opField T 117 (.agg l) 1 = some (.agg ((l.drop 1).take 2)) := by simp [opField, T117, T88, TI.agg]
@[simp] theorem fa117_2 (b o : Nat) : opFieldAddr T 117 (.ptr b o) 2 = some (.ptr b (o + 3)) := by simp [opFieldAddr, T117, T22]
@[simp] theorem ff117_2 (l : List V) : opField T 117 (.agg l) 2 = l[3]? := by simp [opField, T117, T22, TI.agg]
@[simp] theorem ld118 (b o : Nat) (m : Mem) : opLoad T 118 (.ptr b o) m = la 4 m b o := la_of T118 rfl b o m
@[simp] theorem fa118_0 (b o : Nat) : opFieldAddr T 118 (.ptr b o) 0 = some (.ptr b (o + 0)) := by simp [opFieldAddr, T118, T76]
@[simp] theorem ff118_0 (l : List V) : opField T 118 (.agg l) 0 = l[0]? := by simp [opField, T118, T76, TI.agg]
@[simp] theorem fa118_1 (b o : Nat) : opFieldAddr T 118 (.ptr b o) 1 = some (.ptr b (o + 1)) := by simp [opFieldAddr, T118, T88]
@[simp] theorem ff118_1 (l : List V) : opField T 118 (.agg l) 1 = some (.agg ((l.drop 1).take 2)) := by simp [opField, T118, T88, TI.agg]
@[simp] theorem fa118_2 (b o : Nat) : opFieldAddr T 118 (.ptr b o) 2 = some (.ptr b (o + 3)) := by simp [opFieldAddr, T118, T22]
@[simp] theorem ff118_2 (l : List V) : opField T 118 (.agg l) 2 = l[3]? := by simp [opField, T118, T22, TI.agg]
@[simp] theorem ld121 (b o : Nat) (m : Mem) : opLoad T 121 (.ptr b o) m = lc m b o := ld_of T121 rfl b o m
theorem st121 (b o : Nat) (u : V) (m : Mem) (hu : u.isCell = true) : opStore T 121 (.ptr b o) u m = sc m b o u := st_of T121 rfl b o u m hu
@[simp] theorem ld129 (b o : Nat) (m : Mem) : opLoad T 129 (.ptr b o) m = la 9 m b o := la_of T129 rfl b o m
@[simp] theorem fa129_0 (b o : Nat) : opFieldAddr T 129 (.ptr b o) 0 = some (.ptr b (o + 0)) := by simp [opFieldAddr, T129, T27]
@[simp] theorem ff129_0 (l : List V) : opField T 129 (.agg l) 0 = some (.agg ((l.drop 0).take 5)) := by simp [opField, T129, T27, TI.agg]
@[simp] theorem fa129_1 (b o : Nat) : opFieldAddr T 129 (.ptr b o) 1 = some (.ptr b (o + 5)) := by simp [opFieldAddr, T129, T3]
@[simp] theorem ff129_1 (l : List V) : opField T 129 (.agg l) 1 = l[5]? := by simp [opField, T129, T3, TI.agg]
@[simp] theorem fa129_2 (b o : Nat) : opFieldAddr T 129 (.ptr b o) 2 = some (.ptr b (o + 6)) := by simp [opFieldAddr, T129, T3]
@[simp] theorem ff129_2 (l : List V) : opField T 129 (.agg l) 2 = l[6]? := by simp [opField, T129, T3, TI.agg]
@[simp] theorem fa129_3 (b o : Nat) : opFieldAddr T 129 (.ptr b o) 3 = some (.ptr b (o + 7)) := by simp [opFieldAddr, T129, T22]
@[simp] theorem ff129_3 (l : List V) : opField T 129 (.agg l) 3 = l[7]? := by simp [opField, T129, T22, TI.agg]
@[simp] theorem fa129_4 (b o : Nat) : opFieldAddr T 129 (.ptr b o) 4 = some (.ptr b (o + 8)) := by simp [opFieldAddr, T129, T4]
@[simp] theorem ff129_4 (l : List V) : opField T 129 (.agg l) 4 = l[8]? := by simp [opField, T129, T4, TI.agg]
@[simp] theorem ld130 (b o : Nat) (m : Mem) : opLoad T 130 (.ptr b o) m = la 9 m b o := la_of T130 rfl b o m
@[simp] theorem fa130_0 (b o : Nat) : opFieldAddr T 130 (.ptr b o) 0 = some (.ptr b (o + 0)) := by simp [opFieldAddr, T130, T27]
@[simp] theorem ff130_0 (l : List V) : opField T 130 (.agg l) 0 = some (.agg ((l.drop 0).take 5)) := by simp [opField, T130, T27, TI.agg]
@[simp] theorem fa130_1 (b o : Nat) : opFieldAddr T 130 (.ptr b o) 1 = some (.ptr b (o + 5)) := by simp [opFieldAddr, T130, T3]
@[simp] theorem ff130_1 (l : List V) : opField T 130 (.agg l) 1 = l[5]? := by simp [opField, T130, T3, TI.agg]
@[simp] theorem fa130_2 (b o : Nat) : opFieldAddr T 130 (.ptr b o) 2 = some (.ptr b (o + 6)) := by simp [opFieldAddr, T130, T3]
@[simp] theorem ff130_2 (l : List V) : opField T 130 (.agg l) 2 = l[6]? := by simp [opField, T130, T3, TI.agg]
@[simp] theorem fa130_3 (b o : Nat) : opFieldAddr T 130 (.ptr b o) 3 = some (.ptr b (o + 7)) := by simp [opFieldAddr, T130, T22]
@[simp] theorem ff130_3 (l : List V) : opField T 130 (.agg l) 3 = l[7]? := by simp [opField, T130, T22, TI.agg]
@[simp] theorem fa130_4 (b o : Nat) : opFieldAddr T 130 (.ptr b o) 4 = some (.ptr b (o + 8)) := by simp [opFieldAddr, T130, T4]
@[simp] theorem ff130_4 (l : List V) : opField T 130 (.agg l) 4 = l[8]? := by simp [opField, T130, T4, TI.agg]
@[simp] theorem ld132 (b o : Nat) (m : Mem) : opLoad T 132 (.ptr b o) m = lc m b o := ld_of T132 rfl b o m
theorem st132 (b o : Nat) (u : V) (m : Mem) (hu : u.isCell = true) : opStore T 132 (.ptr b o) u m = sc m b o u := st_of T132 rfl b o u m hu
@[simp] theorem ld141 (b o : Nat) (m : Mem) : opLoad T 141 (.ptr b o) m = lc m b o := ld_of T141 rfl b o m
theorem st141 (b o : Nat) (u : V) (m : Mem) (hu : u.isCell = true) : opStore T 141 (.ptr b o) u m = sc m b o u := st_of T141 rfl b o u m hu
@[simp] theorem ld143 (b o : Nat) (m : Mem) : opLoad T 143 (.ptr b o) m = lc m b o := ld_of T143 rfl b o m
theorem st143 (b o : Nat) (u : V) (m : Mem) (hu : u.isCell = true) : opStore T 143 (.ptr b o) u m = sc m b o u := st_of T143 rfl b o u m hu
@[simp] theorem ld156 (b o : Nat) (m : Mem) : opLoad T 156 (.ptr b o) m = la 12 m b o := la_of T156 rfl b o m
@[simp] theorem fa156_0 (b o : Nat) : opFieldAddr T 156 (.ptr b o) 0 = some (.ptr b (o + 0)) := by simp [opFieldAddr, T156, T76]
@[simp] theorem ff156_0 (l : List V) : opField T 156 (.agg l) 0 = l[0]? := by simp [opField, T156, T76, TI.agg]
@[simp] theorem fa156_1 (b o : Nat) : opFieldAddr T 156 (.ptr b o) 1 = some (.ptr b (o + 1)) := by simp [opFieldAddr, T156, T27]
@[simp] theorem ff156_1 (l : List V) : opField T 156 (.agg l) 1 = some (.agg ((l.drop 1).take 5)) := by simp [opField, T156, T27, TI.agg]
@[simp] theorem fa156_2 (b o : Nat) : opFieldAddr T 156 (.ptr b o) 2 = some (.ptr b (o + 6)) := by simp [opFieldAddr, T156, T22]
@[simp] theorem ff156_2 (l : List V) : opField T 156 (.agg l) 2 = l[6]? := by simp [opField, T156, T22, TI.agg]
@[simp] theorem fa156_3 (b o : Nat) : opFieldAddr T 156 (.ptr b o) 3 = some (.ptr b (o + 7)) := by simp [opFieldAddr, T156, T4]
@[simp] theorem ff156_3 (l : List V) : opField T 156 (.agg l) 3 = l[7]? := by simp [opField, T156, T4, TI.agg]
@[simp] theorem fa156_4 (b o : Nat) : opFieldAddr T 156 (.ptr b o) 4 = some (.ptr b (o + 8)) := by simp [opFieldAddr, T156, T3]
@[simp] theorem ff156_4 (l : List V) : opField T 156 (.agg l) 4 = l[8]? := by simp [opField, T156, T3, TI.agg]
@[simp] theorem fa156_5 (b o : Nat) : opFieldAddr T 156 (.ptr b o) 5 = some (.ptr b (o + 9)) := by simp [opFieldAddr, T156, T3]
@[simp] theorem ff156_5 (l : List V) : opField T 156 (.agg l) 5 = l[9]? := by simp [opField, T156, T3, TI.agg]
@[simp] theorem fa156_6 (b o : Nat) : opFieldAddr T 156 (.ptr b o) 6 = some (.ptr b (o + 10)) := by simp [opFieldAddr, T156, T25]
@[simp] theorem ff156_6 (l : List V) : opField T 156 (.agg l) 6 = l[10]? := by simp [opField, T156, T25, TI.agg]
@[simp] theorem fa156_7 (b o : Nat) : opFieldAddr T 156 (.ptr b o) 7 = some (.ptr b (o + 11)) := by simp [opFieldAddr, T156, T3]
@[simp] theorem ff156_7 (l : List V) : opField T 156 (.agg l) 7 = l[11]? := by simp [opField, T156, T3, TI.agg]
@[simp] theorem ld157 (b o : Nat) (m : Mem) : opLoad T 157 (.ptr b o) m = la 12 m b o := la_of T157 rfl b o m
@[simp] theorem fa157_0 (b o : Nat) : opFieldAddr T 157 (.ptr b o) 0 = some (.ptr b (o + 0)) := by simp [opFieldAddr, T157, T76]
@[simp] theorem ff157_0 (l : List V) : opField T 157 (.agg l) 0 = l[0]? := by simp [opField, T157, T76, TI.agg]
@[simp] theorem fa157_1 (b o : Nat) : opFieldAddr T 157 (.ptr b o) 1 = some (.ptr b (o + 1)) := by simp [opFieldAddr, T157, T27]
@[simp] theorem ff157_1 (l : List V) : opField T 157 (.agg l) 1 = some (.agg ((l.drop 1).take 5)) := by simp [opField, T157, T27, TI.agg]
@[simp] theorem fa157_2 (b o : Nat) : opFieldAddr T 157 (.ptr b o) 2 = some (.ptr b (o + 6)) := by simp [opFieldAddr, T157, T22]
@[simp] theorem ff157_2 (l : List V) : opField T 157 (.agg l) 2 = l[6]? := by simp [opField, T157, T22, TI.agg]
@[simp] theorem fa157_3 (b o : Nat) : opFieldAddr T 157 (.ptr b o) 3 = some (.ptr b (o + 7)) := by simp [opFieldAddr, T157, T4]
@[simp] theorem ff157_3 (l : List V) : opField T 157 (.agg l) 3 = l[7]? := by simp [opField, T157, T4, TI.agg]
@[simp] theorem fa157_4 (b o : Nat) : opFieldAddr T 157 (.ptr b o) 4 = some (.ptr b (o + 8)) := by simp [opFieldAddr, T157, T3]
@[simp] theorem ff157_4 (l : List V) : opField T 157 (.agg l) 4 = l[8]? := by simp [opField, T157, T3, TI.agg]
@[simp] theorem fa157_5 (b o : Nat) : opFieldAddr T 157 (.ptr b o) 5 = some (.ptr b (o + 9)) := by simp [opFieldAddr, T157, T3]
@[simp] theorem ff157_5 (l : List V) : opField T 157 (.agg l) 5 = l[9]? := by simp [opField, T157, T3, TI.agg]
@[simp] theorem fa157_6 (b o : Nat) : opFieldAddr T 157 (.ptr b o) 6 = some (.ptr b (o + 10)) := by simp [opFieldAddr, T157, T25]
@[simp] theorem ff157_6 (l : List V) : opField T 157 (.agg l) 6 = l[10]? := by simp [opField, T157, T25, TI.agg]
@[simp] theorem fa157_7 (b o : Nat) : opFieldAddr T 157 (.ptr b o) 7 = some (.ptr b (o + 11)) := by simp [opFieldAddr, T157, T3]
@[simp] theorem ff157_7 (l : List V) : opField T 157 (.agg l) 7 = l[11]? := by simp [opField, T157, T3, TI.agg]
@[simp] theorem ld161 (b o : Nat) (m : Mem) : opLoad T 161 (.ptr b o) m = lc m b o := ld_of T161 rfl b o m
theorem st161 (b o : Nat) (u : V) (m : Mem) (hu : u.isCell = true) : opStore T 161 (.ptr b o) u m = sc m b o u := st_of T161 rfl b o u m hu
@[simp] theorem ld165 (b o : Nat) (m : Mem) : opLoad T 165 (.ptr b o) m = lc m b o := ld_of T165 rfl b o m
theorem st165 (b o : Nat) (u : V) (m : Mem) (hu : u.isCell = true) : opStore T 165 (.ptr b o) u m = sc m b o u := st_of T165 rfl b o u m hu
@[simp] theorem ld170 (b o : Nat) (m : Mem) : opLoad T 170 (.ptr b o) m = lc m b o := ld_of T170 rfl b o m
theorem st170 (b o : Nat) (u : V) (m : Mem) (hu : u.isCell = true) : opStore T 170 (.ptr b o) u m = sc m b o u := st_of T170 rfl b o u m hu
@[simp] theorem ld179 (b o : Nat) (m : Mem) : opLoad T 179 (.ptr b o) m = lc m b o := ld_of T179 rfl b o m
theorem st179 (b o : Nat) (u : V) (m : Mem) (hu : u.isCell = true) : opStore T 179 (.ptr b o) u m = sc m b o u := st_of T179 rfl b o u m hu
@[simp] theorem ld181 (b o : Nat) (m : Mem) : opLoad T 181 (.ptr b o) m = lc m b o := ld_of T181 rfl b o m
theorem st181 (b o : Nat) (u : V) (m : Mem) (hu : u.isCell = true) : opStore T 181 (.ptr b o) u m = sc m b o u := st_of T181 rfl b o u m hu
@[simp] theorem ld193 (b o : Nat) (m : Mem) : opLoad T 193 (.ptr b o) m = lc m b o := ld_of T193 rfl b o m
theorem st193 (b o : Nat) (u : V) (m : Mem) (hu : u.isCell = true) : opStore T 193 (.ptr b o) u m = sc m b o u := st_of T193 rfl b o u m hu
@[simp] theorem ld194 (b o : Nat) (m : Mem) : opLoad T 194 (.ptr b o) m = la 3 m b o := la_of T194 rfl b o m
@[simp] theorem fa194_0 (b o : Nat) : opFieldAddr T 194 (.ptr b o) 0 = some (.ptr b (o + 0)) := by simp [opFieldAddr, T194, T76]
@[simp] theorem ff194_0 (l : List V) : opField T 194 (.agg l) 0 = l[0]? := by simp [opField, T194, T76, TI.agg]
@[simp] theorem fa194_1 (b o : Nat) : opFieldAddr T 194 (.ptr b o) 1 = some (.ptr b (o + 1)) := by simp [opFieldAddr, T194, T25]
@[simp] theorem ff194_1 (l : List V) : opField T 194 (.agg l) 1 = l[1]? := by simp [opField, T194, T25, TI.agg]
@[simp] theorem fa194_2 (b o : Nat) : opFieldAddr T 194 (.ptr b o) 2 = some (.ptr b (o + 2)) := by simp [opFieldAddr, T194, T22]
@[simp] theorem ff194_2 (l : List V) : opField T 194 (.agg l) 2 = l[2]? := by simp [opField, T194, T22, TI.agg]
@[simp] theorem ld195 (b o : Nat) (m : Mem) : opLoad T 195 (.ptr b o) m = la 3 m b o := la_of T195 rfl b o m
@[simp] theorem fa195_0 (b o : Nat) : opFieldAddr T 195 (.ptr b o) 0 = some (.ptr b (o + 0)) := by simp [opFieldAddr, T195, T76]
@[simp] theorem ff195_0 (l : List V) : opField T 195 (.agg l) 0 = l[0]? := by simp [opField, T195, T76, TI.agg]
@[simp] theorem fa195_1 (b o : Nat) : opFieldAddr T 195 (.ptr b o) 1 = some (.ptr b (o + 1)) := by simp [opFieldAddr, T195, T25]
@[simp] theorem ff195_1 (l : List V) : opField T 195 (.agg l) 1 = l[1]? := by simp [opField, T195, T25, TI.agg]
@[simp] theorem fa195_2 (b o : Nat) : opFieldAddr T 195 (.ptr b o) 2 = some (.ptr b (o + 2)) := by simp [opFieldAddr, T195, T22]
@[simp] theorem ff195_2 (l : List V) : opField T 195 (.agg l) 2 = l[2]? := by simp [opField, T195, T22, TI.agg]
@[simp] theorem ld205 (b o : Nat) (m : Mem) : opLoad T 205 (.ptr b o) m = la 4 m b o := la_of T205 rfl b o m
@[simp] theorem fa205_0 (b o : Nat) : opFieldAddr T 205 (.ptr b o) 0 = some (.ptr b (o + 0)) := by simp [opFieldAddr, T205, T17]
@[simp] theorem ff205_0 (l : List V) : opField T 205 (.agg l) 0 = l[0]? := by simp [opField, T205, T17, TI.agg]
@[simp] theorem fa205_1 (b o : Nat) : opFieldAddr T 205 (.ptr b o) 1 = some (.ptr b (o + 1)) := by simp [opFieldAddr, T205, T17]
@[simp] theorem ff205_1 (l : List V) : opField T 205 (.agg l) 1 = l[1]? := by simp [opField, T205, T17, TI.agg]
@[simp] theorem fa205_2 (b o : Nat) : opFieldAddr T 205 (.ptr b o) 2 = some (.ptr b (o + 2)) := by simp [opFieldAddr, T205, T17]
@[simp] theorem ff205_2 (l : List V) : opField T 205 (.agg l) 2 = l[2]? := by simp [opField, T205, T17, TI.agg]
@[simp] theorem fa205_3 (b o : Nat) : opFieldAddr T 205 (.ptr b o) 3 = some (.ptr b (o + 3)) := by simp [opFieldAddr, T205, T9]
@[simp] theorem ff205_3 (l : List V) : opField T 205 (.agg l) 3 = l[3]? := by simp [opField, T205, T9, TI.agg]
@[simp] theorem ld206 (b o : Nat) (m : Mem) : opLoad T 206 (.ptr b o) m = la 4 m b o := la_of T206 rfl b o m
@[simp] theorem fa206_0 (b o : Nat) : opFieldAddr T 206 (.ptr b o) 0 = some (.ptr b (o + 0)) := by simp [opFieldAddr, T206, T17]
@[simp] theorem ff206_0 (l : List V) : opField T 206 (.agg l) 0 = l[0]? := by simp [opField, T206, T17, TI.agg]
@[simp] theorem fa206_1 (b o : Nat) : opFieldAddr T 206 (.ptr b o) 1 = some (.ptr b (o + 1)) := by simp [opFieldAddr, T206, T17]
@[simp] theorem ff206_1 (l : List V) : opField T 206 (.agg l) 1 = l[1]? := by simp [opField, T206, T17, TI.agg]
@[simp] theorem fa206_2 (b o : Nat) : opFieldAddr T 206 (.ptr b o) 2 = some (.ptr b (o + 2)) := by simp [opFieldAddr, T206, T17]
@[simp] theorem ff206_2 (l : List V) : opField T 206 (.agg l) 2 = l[2]? := by simp [opField, T206, T17, TI.agg]
@[simp] theorem fa206_3 (b o : Nat) : opFieldAddr T 206 (.ptr b o) 3 = some (.ptr b (o + 3)) := by simp [opFieldAddr, T206, T9]
@[simp] theorem ff206_3 (l : List V) : opField T 206 (.agg l) 3 = l[3]? := by simp [opField, T206, T9, TI.agg]
@[simp] theorem ld211 (b o : Nat) (m : Mem) : opLoad T 211 (.ptr b o) m = lc m b o := ld_of T211 rfl b o m
theorem st211 (b o : Nat) (u : V) (m : Mem) (hu : u.isCell = true) : opStore T 211 (.ptr b o) u m = sc m b o u := st_of T211 rfl b o u m hu
@[simp] theorem ld212 (b o : Nat) (m : Mem) : opLoad T 212 (.ptr b o) m = lc m b o := ld_of T212 rfl b o m
theorem st212 (b o : Nat) (u : V) (m : Mem) (hu : u.isCell = true) : opStore T 212 (.ptr b o) u m = sc m b o u := st_of T212 rfl b o u m hu
@[simp] theorem ld214 (b o : Nat) (m : Mem) : opLoad T 214 (.ptr b o) m = lc m b o := ld_of T214 rfl b o m
theorem st214 (b o : Nat) (u : V) (m : Mem) (hu : u.isCell = true) : opStore T 214 (.ptr b o) u m = sc m b o u := st_of T214 rfl b o u m hu
@[simp] theorem ld215 (b o : Nat) (m : Mem) : opLoad T 215 (.ptr b o) m = lc m b o := ld_of T215 rfl b o m
theorem st215 (b o : Nat) (u : V) (m : Mem) (hu : u.isCell = true) : opStore T 215 (.ptr b o) u m = sc m b o u := st_of T215 rfl b o u m hu
@[simp] theorem ld216 (b o : Nat) (m : Mem) : opLoad T 216 (.ptr b o) m = lc m b o := ld_of T216 rfl b o m
theorem st216 (b o : Nat) (u : V) (m : Mem) (hu : u.isCell = true) : opStore T 216 (.ptr b o) u m = sc m b o u := st_of T216 rfl b o u m hu
@[simp] theorem ld217 (b o : Nat) (m : Mem) : opLoad T 217 (.ptr b o) m = la 11 m b o := la_of T217 rfl b o m
@[simp] theorem fa217_0 (b o : Nat) : opFieldAddr T 217 (.ptr b o) 0 = some (.ptr b (o + 0)) := by simp [opFieldAddr, T217, T12]
@[simp] theorem ff217_0 (l : List V) : opField T 217 (.agg l) 0 = l[0]? := by simp [opField, T217, T12, TI.agg]
@[simp] theorem fa217_1 (b o : Nat) : opFieldAddr T 217 (.ptr b o) 1 = some (.ptr b (o + 1)) := by simp [opFieldAddr, T217, T12]
@[simp] theorem ff217_1 (l : List V) : opField T 217 (.agg l) 1 = l[1]? := by simp [opField, T217, T12, TI.agg]
@[simp] theorem fa217_2 (b o : Nat) : opFieldAddr T 217 (.ptr b o) 2 = some (.ptr b (o + 2)) := by simp [opFieldAddr, T217, T141]
@[simp] theorem ff217_2 (l : List V) : opField T 217 (.agg l) 2 = l[2]? := by simp [opField, T217, T141, TI.agg]
@[simp] theorem fa217_3 (b o : Nat) : opFieldAddr T 217 (.ptr b o) 3 = some (.ptr b (o + 3)) := by simp [opFieldAddr, T217, T211]
@[simp] theorem ff217_3 (l : List V) : opField T 217 (.agg l) 3 = l[3]? := by simp [opField, T217, T211, TI.agg]
@[simp] theorem fa217_4 (b o : Nat) : opFieldAddr T 217 (.ptr b o) 4 = some (.ptr b (o + 4)) := by simp [opFieldAddr, T217, T5]
@[simp] theorem ff217_4 (l : List V) : opField T 217 (.agg l) 4 = l[4]? := by simp [opField, T217, T5, TI.agg]
@[simp] theorem fa217_5 (b o : Nat) : opFieldAddr T 217 (.ptr b o) 5 = some (.ptr b (o + 5)) := by simp [opFieldAddr, T217, T5]
@[simp] theorem ff217_5 (l : List V) : opField T 217 (.agg l) 5 = l[5]? := by simp [opField, T217, T5, TI.agg]
@[simp] theorem fa217_6 (b o : Nat) : opFieldAddr T 217 (.ptr b o) 6 = some (.ptr b (o + 6)) := by simp [opFieldAddr, T217, T212]
@[simp] theorem ff217_6 (l : List V) : opField T 217 (.agg l) 6 = l[6]? := by simp [opField, T217, T212, TI.agg]
@[simp] theorem fa217_8 (b o : Nat) : opFieldAddr T 217 (.ptr b o) 8 = some (.ptr b (o + 8)) := by simp [opFieldAddr, T217, T214]
@[simp] theorem ff217_8 (l : List V) : opField T 217 (.agg l) 8 = l[8]? := by simp [opField, T217, T214, TI.agg]
@[simp] theorem fa217_9 (b o : Nat) : opFieldAddr T 217 (.ptr b o) 9 = some (.ptr b (o + 9)) := by simp [opFieldAddr, T217, T215]
@[simp] theorem ff217_9 (l : List V) : opField T 217 (.agg l) 9 = l[9]? := by simp [opField, T217, T215, TI.agg]
@[simp] theorem fa217_10 (b o : Nat) : opFieldAddr T 217 (.ptr b o) 10 = some (.ptr b (o + 10)) := by simp [opFieldAddr, T217, T216]
@[simp] theorem ff217_10 (l : List V) : opField T 217 (.agg l) 10 = l[10]? := by simp [opField, T217, T216, TI.agg]
@[simp] theorem ld218 (b o : Nat) (m : Mem) : opLoad T 218 (.ptr b o) m = la 11 m b o := la_of T218 rfl b o m
@[simp] theorem fa218_0 (b o : Nat) : opFieldAddr T 218 (.ptr b o) 0 = some (.ptr b (o + 0)) := by simp [opFieldAddr, T218, T12]
@[simp] theorem ff218_0 (l : List V) : opField T 218 (.agg l) 0 = l[0]? := by simp [opField, T218, T12, TI.agg]
@[simp] theorem fa218_1 (b o : Nat) : opFieldAddr T 218 (.ptr b o) 1 = some (.ptr b (o + 1)) := by simp [opFieldAddr, T218, T12]
@[simp] theorem ff218_1 (l : List V) : opField T 218 (.agg l) 1 = l[1]? := by simp [opField, T218, T12, TI.agg]
@[simp] theorem fa218_2 (b o : Nat) : opFieldAddr T 218 (.ptr b o) 2 = some (.ptr b (o + 2)) := by simp [opFieldAddr, T218, T141]
@[simp] theorem ff218_2 (l : List V) : opField T 218 (.agg l) 2 = l[2]? := by simp [opField, T218, T141, TI.agg]
@[simp] theorem fa218_3 (b o : Nat) : opFieldAddr T 218 (.ptr b o) 3 = some (.ptr b (o + 3)) := by simp [opFieldAddr, T218, T211]
@[simp] theorem ff218_3 (l : List V) : opField T 218 (.agg l) 3 = l[3]? := by simp [opField, T218, T211, TI.agg]
@[simp] theorem fa218_4 (b o : Nat) : opFieldAddr T 218 (.ptr b o) 4 = some (.ptr b (o + 4)) := by simp [opFieldAddr, T218, T5]
@[simp] theorem ff218_4 (l : List V) : opField T 218 (.agg l) 4 = l[4]? := by simp [opField, T218, T5, TI.agg]
@[simp] theorem fa218_5 (b o : Nat) : opFieldAddr T 218 (.ptr b o) 5 = some (.ptr b (o + 5)) := by simp [opFieldAddr, T218, T5]
@[simp] theorem ff218_5 (l : List V) : opField T 218 (.agg l) 5 = l[5]? := by simp [opField, T218, T5, TI.agg]
@[simp] theorem fa218_6 (b o : Nat) : opFieldAddr T 218 (.ptr b o) 6 = some (.ptr b (o + 6)) := by simp [opFieldAddr, T218, T212]
@[simp] theorem ff218_6 (l : List V) : opField T 218 (.agg l) 6 = l[6]? := by simp [opField, T218, T212, TI.agg]
@[simp] theorem fa218_8 (b o : Nat) : opFieldAddr T 218 (.ptr b o) 8 = some (.ptr b (o + 8)) := by simp [opFieldAddr, T218, T214]
@[simp] theorem ff218_8 (l : List V) : opField T 218 (.agg l) 8 = l[8]? := by simp [opField, T218, T214, TI.agg]
@[simp] theorem fa218_9 (b o : Nat) : opFieldAddr T 218 (.ptr b o) 9 = some (.ptr b (o + 9)) := by simp [opFieldAddr, T218, T215]
@[simp] theorem ff218_9 (l : List V) : opField T 218 (.agg l) 9 = l[9]? := by simp [opField, T218, T215, TI.agg]
@[simp] theorem fa218_10 (b o : Nat) : opFieldAddr T 218 (.ptr b o) 10 = some (.ptr b (o + 10)) := by simp [opFieldAddr, T218, T216]
@[simp] theorem ff218_10 (l : List V) : opField T 218 (.agg l) 10 = l[10]? := by simp [opField, T218, T216, TI.agg]

end Go.Proofs.YtefjnnghfloddaaGreat.Abs

/- The rules by which a run is followed. -/
namespace Go.Proofs.YtefjnnghfloddaaGreat.Abs
set_option linter.unusedVariables false
set_option linter.unusedSimpArgs false
variable {e : Env} {m : Mem} {Q : Ex → Env → Mem → Prop} {A B : Run}

attribute [simp] W_sq W_blk W_rg WR_some WV_some bp_some bnd_some lft_some bg_bool pickV_bool nilChk_ptr nilChk_fn extV_tup callV_fn ups_nil ups_cons upd_get chkd_app chkd_self
@[simp] theorem nx_normal : nx B Q .normal e m = W (B e m) Q := nr rfl
@[simp] theorem nx_ret : nx B Q .ret e m = Q .ret e m := nr rfl
@[simp] theorem nx_exit (j : Nat) : nx B Q (.exit j) e m = Q (.exit j) e m := nr rfl
@[simp] theorem inB_normal (id : Nat) : inB id Q .normal e m = Q .normal e m := nr rfl
@[simp] theorem inB_ret (id : Nat) : inB id Q .ret e m = Q .ret e m := nr rfl
@[simp] theorem inB_exit (id j : Nat) : inB id Q (.exit j) e m = if j = id then Q .normal e m else Q (.exit j) e m := nr rfl
@[simp] theorem W_sk' : W (sk e m) Q ↔ Q .normal e m := by
  constructor
  · rintro ⟨x, e', m', h, hq⟩; obtain ⟨rfl, h2⟩ := Prod.mk.inj (Option.some.inj h); obtain ⟨rfl, rfl⟩ := Prod.mk.inj h2; exact hq
  · exact W_sk
@[simp] theorem W_rt' : W (rt e m) Q ↔ Q .ret e m := by
  constructor
  · rintro ⟨x, e', m', h, hq⟩; obtain ⟨rfl, h2⟩ := Prod.mk.inj (Option.some.inj h); obtain ⟨rfl, rfl⟩ := Prod.mk.inj h2; exact hq
  · exact W_rt
@[simp] theorem W_exi' (id : Nat) : W (exi id e m) Q ↔ Q (.exit id) e m := by
  constructor
  · rintro ⟨x, e', m', h, hq⟩; obtain ⟨rfl, h2⟩ := Prod.mk.inj (Option.some.inj h); obtain ⟨rfl, rfl⟩ := Prod.mk.inj h2; exact hq
  · exact W_exi
/-- What a test does with a bool. -/
def tst (v : V) (a b : Prop) : Prop := match v with
  | .bool t => if t then a else b
  | _ => False
@[simp] theorem tst_bool (t : Bool) (a b : Prop) : tst (.bool t) a b = if t then a else b := nr rfl
@[simp] theorem W_cnd' (c : Env → V) : W (cnd (fun e => some (c e)) A B e m) Q ↔ tst (c e) (W (A e m) Q) (W (B e m) Q) := by
  constructor
  · rintro ⟨x, e', m', h, hq⟩
    unfold cnd at h
    simp only at h
    cases hc : c e <;> rw [hc] at h <;> simp only at h
    case bool t =>
      simp only [tst_bool]
      cases t
      · exact ⟨_, _, _, h, hq⟩
      · exact ⟨_, _, _, h, hq⟩
    all_goals cases h
  · intro h
    cases hc : c e <;> rw [hc] at h <;> simp only [tst] at h
    case bool t =>
      refine W_cnd t (by simp [hc]) ?_ ?_
      · rintro rfl; exact h
      · rintro rfl; exact h

/-! ### Ints -/
abbrev I (n : Int) : V := .int .i64 n
section
variable (t : TypeId) (a b : Int) (T : TT)
@[simp] theorem bin_add : opBin T .add t (.int .i64 a) (.int .i64 b) = some (.int .i64 (IntKind.i64.wrap (a + b))) := nr rfl
@[simp] theorem bin_sub : opBin T .sub t (.int .i64 a) (.int .i64 b) = some (.int .i64 (IntKind.i64.wrap (a - b))) := nr rfl
@[simp] theorem bin_mul : opBin T .mul t (.int .i64 a) (.int .i64 b) = some (.int .i64 (IntKind.i64.wrap (a * b))) := nr rfl
@[simp] theorem bin_lss : opBin T .lss t (.int .i64 a) (.int .i64 b) = some (.bool (decide (a < b))) := nr rfl
@[simp] theorem bin_leq : opBin T .leq t (.int .i64 a) (.int .i64 b) = some (.bool (decide (a ≤ b))) := nr rfl
@[simp] theorem bin_gtr : opBin T .gtr t (.int .i64 a) (.int .i64 b) = some (.bool (decide (a > b))) := nr rfl
@[simp] theorem bin_geq : opBin T .geq t (.int .i64 a) (.int .i64 b) = some (.bool (decide (a ≥ b))) := nr rfl
@[simp] theorem bin_eql : opBin T .eql t (.int .i64 a) (.int .i64 b) = some (.bool (a == b)) := nr rfl
@[simp] theorem bin_neq : opBin T .neq t (.int .i64 a) (.int .i64 b) = some (.bool (a != b)) := nr rfl
theorem bin_quo (h : b ≠ 0) : opBin T .quo t (.int .i64 a) (.int .i64 b) = some (.int .i64 (IntKind.i64.wrap (a.tdiv b))) := by simp [opBin, arInt, h]
theorem bin_rem (h : b ≠ 0) : opBin T .rem t (.int .i64 a) (.int .i64 b) = some (.int .i64 (a.tmod b)) := by simp [opBin, arInt, h]
@[simp] theorem bin_xor : opBin T .xor t (.int .i64 a) (.int .i64 b) = some (.int .i64 (IntKind.i64.wrap (BitVec.ofInt 64 a ^^^ BitVec.ofInt 64 b).toNat)) := nr rfl
@[simp] theorem un_not (b : Bool) : opUn .not (.bool b) = some (.bool !b) := nr rfl
@[simp] theorem un_neg : opUn .neg (.int .i64 a) = some (.int .i64 (IntKind.i64.wrap (0 - a))) := nr rfl
@[simp] theorem min_two : opMin [.int .i64 a, .int .i64 b] = some (.int .i64 (if b < a then b else a)) := nr rfl
@[simp] theorem max_two : opMax [.int .i64 a, .int .i64 b] = some (.int .i64 (if a < b then b else a)) := nr rfl
end
/-- Go's / and % on what is not negative. -/
theorem tdiv_pos {a b : Int} (h : 0 ≤ a) : a.tdiv b = a / b := Int.tdiv_eq_ediv_of_nonneg h
theorem tmod_pos {a b : Int} (h : 0 ≤ a) : a.tmod b = a % b := Int.tmod_eq_emod_of_nonneg h

@[simp] theorem packV_one (v : V) : packV [v] = v := nr rfl
@[simp] theorem env0_get (l : List V) (t : Nat) : env0 l t = (l[t]?).getD V.undef := by simp [env0, List.getD_eq_getElem?_getD]

/-! ### Memory -/
/-- Block b holds the cells l, in the state st. -/
abbrev At (m : Mem) (b : Nat) (l : List V) (st : Nat) : Prop := m[b]? = some ⟨l, st⟩
theorem At.lt {m : Mem} {b : Nat} {l : List V} {st : Nat} (h : At m b l st) : b < m.length := by
  rcases Nat.lt_or_ge b m.length with h1 | h1
  · exact h1
  · rw [At, List.getElem?_eq_none h1] at h; cases h
theorem At.app {m : Mem} {b : Nat} {l : List V} {st : Nat} (h : At m b l st) (g : Mem) : At (m ++ g) b l st := by
  rw [At, List.getElem?_append_left h.lt]; exact h
theorem At.set_ne {m : Mem} {b b' : Nat} {l : List V} {st : Nat} {k : Blk} (h : At m b l st) (hne : b' ≠ b) : At (m.set b' k) b l st := by
  rw [At, List.getElem?_set_ne hne]; exact h
theorem At.set_self {m : Mem} {b : Nat} {l l' : List V} {st st' : Nat} (h : At m b l st) : At (m.set b ⟨l', st'⟩) b l' st' := by
  rw [At, List.getElem?_set_self h.lt]
theorem At.new (m : Mem) (l : List V) (st : Nat) (g : Mem) : At (m ++ ⟨l, st⟩ :: g) m.length l st := by simp [At]
theorem At.new1 (m : Mem) (l : List V) (st : Nat) : At (m ++ [⟨l, st⟩]) m.length l st := by simp [At]

/-- A cell of ints, structs' parts and the like. -/
theorem load_cell {T : TT} {t : TypeId} {i : TI} (ht : T t = some i) (ha : i.agg = false) {m : Mem} {b o : Nat} {l : List V} {st : Nat} (h : At m b l st) (hs : st ≠ 0) {v : V} (hv : l[o]? = some v) : opLoad T t (.ptr b o) m = some v := by
  simp [opLoad, ht, h, hs, ha, hv]
theorem load_agg {T : TT} {t : TypeId} {i : TI} (ht : T t = some i) (ha : i.agg = true) {m : Mem} {b o : Nat} {l : List V} {st : Nat} (h : At m b l st) (hs : st ≠ 0) (hl : o + i.size ≤ l.length) : opLoad T t (.ptr b o) m = some (.agg ((l.drop o).take i.size)) := by
  simp [opLoad, ht, h, hs, ha, hl]
theorem store_cell {T : TT} {t : TypeId} {i : TI} (ht : T t = some i) (hz : i.size = 1) {m : Mem} {b o : Nat} {l : List V} (h : At m b l 2) (ho : o < l.length) {v : V} (hv : v.isCell = true) : opStore T t (.ptr b o) v m = some (m.set b ⟨l.set o v, 2⟩) := by
  have hc : v.cells = [v] := by cases v <;> simp [V.cells, V.isCell] at hv ⊢
  simp [opStore, ht, h, hz, hc, hv]; omega
theorem index_sl {T : TT} {t e : TypeId} {i j : TI} (ht : T t = some i) (hk : i.k = .slice e) (he : T e = some j) {b o n c z : Nat} {ex : Bool} {k : IntKind} {ix : Int} (hz : z = j.size) (h0 : 0 ≤ ix) (h1 : ix < n) :
    opIndexAddr T t (.sl b o n c z ex) (.int k ix) = some (.ptr b (o + ix.toNat * z)) := by
  obtain ⟨k', s', z', b'⟩ := i
  simp only at hk
  subst hk
  simp [opIndexAddr, ht, he, hz, h0, h1]
theorem fieldAddr_of {T : TT} {s : TypeId} {i j : TI} {fs : List (Nat × TypeId)} {f off ft : Nat} (ht : T s = some i) (hk : i.k = .struct fs) (hf : fs[f]? = some (off, ft)) (hj : T ft = some j) (h0 : j.size ≠ 0) {b o : Nat} :
    opFieldAddr T s (.ptr b o) f = some (.ptr b (o + off)) := by
  obtain ⟨k', s', z', b'⟩ := i
  simp only at hk
  subst hk
  simp [opFieldAddr, ht, hf, hj, h0]

/-! ### At this program's types -/
@[simp] theorem len22_sl (b o n c z : Nat) (ex : Bool) : opLen T 22 (.sl b o n c z ex) = some (I n) := by simp [opLen, T22]
@[simp] theorem len22_nil : opLen T 22 .nils = some (I 0) := by simp [opLen, T22]
@[simp] theorem len22_e : opLen T 22 .sle = some (I 0) := by simp [opLen, T22]
@[simp] theorem len25_sl (b o n c z : Nat) (ex : Bool) : opLen T 25 (.sl b o n c z ex) = some (I n) := by simp [opLen, T25]
@[simp] theorem len25_nil : opLen T 25 .nils = some (I 0) := by simp [opLen, T25]
@[simp] theorem len25_e : opLen T 25 .sle = some (I 0) := by simp [opLen, T25]
theorem ia22 {b o n c : Nat} {ex : Bool} {ix : Int} (h0 : 0 ≤ ix) (h1 : ix < n) : opIndexAddr T 22 (.sl b o n c 1 ex) (I ix) = some (.ptr b (o + ix.toNat)) := by
  rw [index_sl T22 rfl T3 rfl h0 h1, Nat.mul_one]
theorem ia25 {b o n c : Nat} {ex : Bool} {ix : Int} (h0 : 0 ≤ ix) (h1 : ix < n) : opIndexAddr T 25 (.sl b o n c 1 ex) (I ix) = some (.ptr b (o + ix.toNat)) := by
  rw [index_sl T25 rfl T22 rfl h0 h1, Nat.mul_one]
theorem mk22 {l c : Int} (h0 : 0 ≤ l) (h1 : l ≤ c) (h2 : c ≤ 17592186044416) (m : Mem) : opMakeSlice T 22 (I l) (I c) m = some (.sl m.length 0 l.toNat c.toNat 1 true, m ++ [⟨List.replicate c.toNat (I 0), 2⟩]) := by
  have : 0 ≤ l ∧ l ≤ c ∧ c * 8 ≤ 140737488355328 ∧ c ≤ 4611686018427387904 := by omega
  simp [opMakeSlice, T22, T3, this, zeros_one]

end Go.Proofs.YtefjnnghfloddaaGreat.Abs

/- The program's functions as the executor runs them, each proved to be so. Printed by gen.py, a program of this work. -/
namespace Go.Proofs.YtefjnnghfloddaaGreat.Abs
open Go.Proofs
set_option linter.unusedVariables false
set_option maxRecDepth 100000
noncomputable def ftab : List (Nat × Func) := [(3, Tryz.f3), (9, Tryz.f9), (10, Tryz.f10), (11, Tryz.f11), (26, Tryz.f26), (27, Tryz.f27), (28, Tryz.f28), (29, Tryz.f29), (30, Tryz.f30), (31, Tryz.f31), (32, Tryz.f32), (33, Tryz.f33), (45, Tryz.f45), (48, Tryz.f48), (54, Tryz.f54), (55, Tryz.f55), (56, Tryz.f56), (57, Tryz.f57), (58, Tryz.f58), (59, Tryz.f59), (60, Tryz.f60), (61, Tryz.f61), (62, Tryz.f62), (63, Tryz.f63), (64, Tryz.f64), (65, Tryz.f65), (74, Tryz.f74), (75, Tryz.f75), (77, Tryz.f77), (78, Tryz.f78), (79, Tryz.f79), (80, Tryz.f80), (81, Tryz.f81), (85, Tryz.f85), (88, Tryz.f88), (89, Tryz.f89), (90, Tryz.f90), (91, Tryz.f91), (92, Tryz.f92), (93, Tryz.f93), (94, Tryz.f94), (95, Tryz.f95), (96, Tryz.f96), (97, Tryz.f97), (98, Tryz.f98), (99, Tryz.f99), (100, Tryz.f100), (115, Tryz.f115), (116, Tryz.f116), (117, Tryz.f117), (118, Tryz.f118), (119, Tryz.f119), (123, Tryz.f123), (124, Tryz.f124), (125, Tryz.f125), (126, Tryz.f126), (127, Tryz.f127), (128, Tryz.f128), (129, Tryz.f129), (130, Tryz.f130), (131, Tryz.f131), (132, Tryz.f132), (133, Tryz.f133), (141, Tryz.f141), (142, Tryz.f142), (144, Tryz.f144), (145, Tryz.f145), (146, Tryz.f146), (147, Tryz.f147), (149, Tryz.f149), (150, Tryz.f150), (151, Tryz.f151), (152, Tryz.f152), (153, Tryz.f153), (154, Tryz.f154), (155, Tryz.f155), (156, Tryz.f156), (157, Tryz.f157), (158, Tryz.f158), (160, Tryz.f160), (161, Tryz.f161), (162, Tryz.f162), (163, Tryz.f163), (164, Tryz.f164), (165, Tryz.f165), (166, Tryz.f166), (167, Tryz.f167), (168, Tryz.f168), (169, Tryz.f169), (170, Tryz.f170), (171, Tryz.f171), (174, Tryz.f174), (175, Tryz.f175), (176, Tryz.f176), (180, Tryz.f180), (181, Tryz.f181), (182, Tryz.f182), (183, Tryz.f183), (187, Tryz.f187), (188, Tryz.f188), (189, Tryz.f189), (41, Tryz.f41), (4, Tryz.f4), (12, Tryz.f12), (13, Tryz.f13), (14, Tryz.f14), (34, Tryz.f34), (35, Tryz.f35), (36, Tryz.f36), (66, Tryz.f66), (67, Tryz.f67), (5, Tryz.f5), (15, Tryz.f15), (16, Tryz.f16), (38, Tryz.f38), (39, Tryz.f39), (70, Tryz.f70)]
noncomputable def F : FT := fun f => (ftab.find? (fun q => q.1 == f)).map (·.2)
noncomputable def X : CallT := fun _ _ _ => none
noncomputable abbrev DD : CallT := D T F X
theorem fo3 : Tryz.prog.funcs[3]? = some Tryz.f3 ∧ (Tryz.f3.name == "runtime.NumGoroutine") = false ∧ ∀ c, Tryz.f3.body = some c → codeOk Tryz.f3.ntmps c = true := ⟨Tryz.func3, by kernel_rfl, codeOf (by kernel_rfl)⟩
theorem fo9 : Tryz.prog.funcs[9]? = some Tryz.f9 ∧ (Tryz.f9.name == "runtime.NumGoroutine") = false ∧ ∀ c, Tryz.f9.body = some c → codeOk Tryz.f9.ntmps c = true := ⟨Tryz.func9, by kernel_rfl, codeOf (by kernel_rfl)⟩
theorem fo10 : Tryz.prog.funcs[10]? = some Tryz.f10 ∧ (Tryz.f10.name == "runtime.NumGoroutine") = false ∧ ∀ c, Tryz.f10.body = some c → codeOk Tryz.f10.ntmps c = true := ⟨Tryz.func10, by kernel_rfl, codeOf (by kernel_rfl)⟩
theorem fo11 : Tryz.prog.funcs[11]? = some Tryz.f11 ∧ (Tryz.f11.name == "runtime.NumGoroutine") = false ∧ ∀ c, Tryz.f11.body = some c → codeOk Tryz.f11.ntmps c = true := ⟨Tryz.func11, by kernel_rfl, codeOf (by kernel_rfl)⟩
theorem fo26 : Tryz.prog.funcs[26]? = some Tryz.f26 ∧ (Tryz.f26.name == "runtime.NumGoroutine") = false ∧ ∀ c, Tryz.f26.body = some c → codeOk Tryz.f26.ntmps c = true := ⟨Tryz.func26, by kernel_rfl, codeOf (by kernel_rfl)⟩
theorem fo27 : Tryz.prog.funcs[27]? = some Tryz.f27 ∧ (Tryz.f27.name == "runtime.NumGoroutine") = false ∧ ∀ c, Tryz.f27.body = some c → codeOk Tryz.f27.ntmps c = true := ⟨Tryz.func27, by kernel_rfl, codeOf (by kernel_rfl)⟩
theorem fo28 : Tryz.prog.funcs[28]? = some Tryz.f28 ∧ (Tryz.f28.name == "runtime.NumGoroutine") = false ∧ ∀ c, Tryz.f28.body = some c → codeOk Tryz.f28.ntmps c = true := ⟨Tryz.func28, by kernel_rfl, codeOf (by kernel_rfl)⟩
theorem fo29 : Tryz.prog.funcs[29]? = some Tryz.f29 ∧ (Tryz.f29.name == "runtime.NumGoroutine") = false ∧ ∀ c, Tryz.f29.body = some c → codeOk Tryz.f29.ntmps c = true := ⟨Tryz.func29, by kernel_rfl, codeOf (by kernel_rfl)⟩
theorem fo30 : Tryz.prog.funcs[30]? = some Tryz.f30 ∧ (Tryz.f30.name == "runtime.NumGoroutine") = false ∧ ∀ c, Tryz.f30.body = some c → codeOk Tryz.f30.ntmps c = true := ⟨Tryz.func30, by kernel_rfl, codeOf (by kernel_rfl)⟩
theorem fo31 : Tryz.prog.funcs[31]? = some Tryz.f31 ∧ (Tryz.f31.name == "runtime.NumGoroutine") = false ∧ ∀ c, Tryz.f31.body = some c → codeOk Tryz.f31.ntmps c = true := ⟨Tryz.func31, by kernel_rfl, codeOf (by kernel_rfl)⟩
theorem fo32 : Tryz.prog.funcs[32]? = some Tryz.f32 ∧ (Tryz.f32.name == "runtime.NumGoroutine") = false ∧ ∀ c, Tryz.f32.body = some c → codeOk Tryz.f32.ntmps c = true := ⟨Tryz.func32, by kernel_rfl, codeOf (by kernel_rfl)⟩
theorem fo33 : Tryz.prog.funcs[33]? = some Tryz.f33 ∧ (Tryz.f33.name == "runtime.NumGoroutine") = false ∧ ∀ c, Tryz.f33.body = some c → codeOk Tryz.f33.ntmps c = true := ⟨Tryz.func33, by kernel_rfl, codeOf (by kernel_rfl)⟩
theorem fo45 : Tryz.prog.funcs[45]? = some Tryz.f45 ∧ (Tryz.f45.name == "runtime.NumGoroutine") = false ∧ ∀ c, Tryz.f45.body = some c → codeOk Tryz.f45.ntmps c = true := ⟨Tryz.func45, by kernel_rfl, codeOf (by kernel_rfl)⟩
theorem fo48 : Tryz.prog.funcs[48]? = some Tryz.f48 ∧ (Tryz.f48.name == "runtime.NumGoroutine") = false ∧ ∀ c, Tryz.f48.body = some c → codeOk Tryz.f48.ntmps c = true := ⟨Tryz.func48, by kernel_rfl, codeOf (by kernel_rfl)⟩
theorem fo54 : Tryz.prog.funcs[54]? = some Tryz.f54 ∧ (Tryz.f54.name == "runtime.NumGoroutine") = false ∧ ∀ c, Tryz.f54.body = some c → codeOk Tryz.f54.ntmps c = true := ⟨Tryz.func54, by kernel_rfl, codeOf (by kernel_rfl)⟩
theorem fo55 : Tryz.prog.funcs[55]? = some Tryz.f55 ∧ (Tryz.f55.name == "runtime.NumGoroutine") = false ∧ ∀ c, Tryz.f55.body = some c → codeOk Tryz.f55.ntmps c = true := ⟨Tryz.func55, by kernel_rfl, codeOf (by kernel_rfl)⟩
theorem fo56 : Tryz.prog.funcs[56]? = some Tryz.f56 ∧ (Tryz.f56.name == "runtime.NumGoroutine") = false ∧ ∀ c, Tryz.f56.body = some c → codeOk Tryz.f56.ntmps c = true := ⟨Tryz.func56, by kernel_rfl, codeOf (by kernel_rfl)⟩
theorem fo57 : Tryz.prog.funcs[57]? = some Tryz.f57 ∧ (Tryz.f57.name == "runtime.NumGoroutine") = false ∧ ∀ c, Tryz.f57.body = some c → codeOk Tryz.f57.ntmps c = true := ⟨Tryz.func57, by kernel_rfl, codeOf (by kernel_rfl)⟩
theorem fo58 : Tryz.prog.funcs[58]? = some Tryz.f58 ∧ (Tryz.f58.name == "runtime.NumGoroutine") = false ∧ ∀ c, Tryz.f58.body = some c → codeOk Tryz.f58.ntmps c = true := ⟨Tryz.func58, by kernel_rfl, codeOf (by kernel_rfl)⟩
theorem fo59 : Tryz.prog.funcs[59]? = some Tryz.f59 ∧ (Tryz.f59.name == "runtime.NumGoroutine") = false ∧ ∀ c, Tryz.f59.body = some c → codeOk Tryz.f59.ntmps c = true := ⟨Tryz.func59, by kernel_rfl, codeOf (by kernel_rfl)⟩
theorem fo60 : Tryz.prog.funcs[60]? = some Tryz.f60 ∧ (Tryz.f60.name == "runtime.NumGoroutine") = false ∧ ∀ c, Tryz.f60.body = some c → codeOk Tryz.f60.ntmps c = true := ⟨Tryz.func60, by kernel_rfl, codeOf (by kernel_rfl)⟩
theorem fo61 : Tryz.prog.funcs[61]? = some Tryz.f61 ∧ (Tryz.f61.name == "runtime.NumGoroutine") = false ∧ ∀ c, Tryz.f61.body = some c → codeOk Tryz.f61.ntmps c = true := ⟨Tryz.func61, by kernel_rfl, codeOf (by kernel_rfl)⟩
theorem fo62 : Tryz.prog.funcs[62]? = some Tryz.f62 ∧ (Tryz.f62.name == "runtime.NumGoroutine") = false ∧ ∀ c, Tryz.f62.body = some c → codeOk Tryz.f62.ntmps c = true := ⟨Tryz.func62, by kernel_rfl, codeOf (by kernel_rfl)⟩
theorem fo63 : Tryz.prog.funcs[63]? = some Tryz.f63 ∧ (Tryz.f63.name == "runtime.NumGoroutine") = false ∧ ∀ c, Tryz.f63.body = some c → codeOk Tryz.f63.ntmps c = true := ⟨Tryz.func63, by kernel_rfl, codeOf (by kernel_rfl)⟩
theorem fo64 : Tryz.prog.funcs[64]? = some Tryz.f64 ∧ (Tryz.f64.name == "runtime.NumGoroutine") = false ∧ ∀ c, Tryz.f64.body = some c → codeOk Tryz.f64.ntmps c = true := ⟨Tryz.func64, by kernel_rfl, codeOf (by kernel_rfl)⟩
theorem fo65 : Tryz.prog.funcs[65]? = some Tryz.f65 ∧ (Tryz.f65.name == "runtime.NumGoroutine") = false ∧ ∀ c, Tryz.f65.body = some c → codeOk Tryz.f65.ntmps c = true := ⟨Tryz.func65, by kernel_rfl, codeOf (by kernel_rfl)⟩
theorem fo74 : Tryz.prog.funcs[74]? = some Tryz.f74 ∧ (Tryz.f74.name == "runtime.NumGoroutine") = false ∧ ∀ c, Tryz.f74.body = some c → codeOk Tryz.f74.ntmps c = true := ⟨Tryz.func74, by kernel_rfl, codeOf (by kernel_rfl)⟩
theorem fo75 : Tryz.prog.funcs[75]? = some Tryz.f75 ∧ (Tryz.f75.name == "runtime.NumGoroutine") = false ∧ ∀ c, Tryz.f75.body = some c → codeOk Tryz.f75.ntmps c = true := ⟨Tryz.func75, by kernel_rfl, codeOf (by kernel_rfl)⟩
theorem fo77 : Tryz.prog.funcs[77]? = some Tryz.f77 ∧ (Tryz.f77.name == "runtime.NumGoroutine") = false ∧ ∀ c, Tryz.f77.body = some c → codeOk Tryz.f77.ntmps c = true := ⟨Tryz.func77, by kernel_rfl, codeOf (by kernel_rfl)⟩
theorem fo78 : Tryz.prog.funcs[78]? = some Tryz.f78 ∧ (Tryz.f78.name == "runtime.NumGoroutine") = false ∧ ∀ c, Tryz.f78.body = some c → codeOk Tryz.f78.ntmps c = true := ⟨Tryz.func78, by kernel_rfl, codeOf (by kernel_rfl)⟩
theorem fo79 : Tryz.prog.funcs[79]? = some Tryz.f79 ∧ (Tryz.f79.name == "runtime.NumGoroutine") = false ∧ ∀ c, Tryz.f79.body = some c → codeOk Tryz.f79.ntmps c = true := ⟨Tryz.func79, by kernel_rfl, codeOf (by kernel_rfl)⟩
theorem fo80 : Tryz.prog.funcs[80]? = some Tryz.f80 ∧ (Tryz.f80.name == "runtime.NumGoroutine") = false ∧ ∀ c, Tryz.f80.body = some c → codeOk Tryz.f80.ntmps c = true := ⟨Tryz.func80, by kernel_rfl, codeOf (by kernel_rfl)⟩
theorem fo81 : Tryz.prog.funcs[81]? = some Tryz.f81 ∧ (Tryz.f81.name == "runtime.NumGoroutine") = false ∧ ∀ c, Tryz.f81.body = some c → codeOk Tryz.f81.ntmps c = true := ⟨Tryz.func81, by kernel_rfl, codeOf (by kernel_rfl)⟩
theorem fo85 : Tryz.prog.funcs[85]? = some Tryz.f85 ∧ (Tryz.f85.name == "runtime.NumGoroutine") = false ∧ ∀ c, Tryz.f85.body = some c → codeOk Tryz.f85.ntmps c = true := ⟨Tryz.func85, by kernel_rfl, codeOf (by kernel_rfl)⟩
theorem fo88 : Tryz.prog.funcs[88]? = some Tryz.f88 ∧ (Tryz.f88.name == "runtime.NumGoroutine") = false ∧ ∀ c, Tryz.f88.body = some c → codeOk Tryz.f88.ntmps c = true := ⟨Tryz.func88, by kernel_rfl, codeOf (by kernel_rfl)⟩
theorem fo89 : Tryz.prog.funcs[89]? = some Tryz.f89 ∧ (Tryz.f89.name == "runtime.NumGoroutine") = false ∧ ∀ c, Tryz.f89.body = some c → codeOk Tryz.f89.ntmps c = true := ⟨Tryz.func89, by kernel_rfl, codeOf (by kernel_rfl)⟩
theorem fo90 : Tryz.prog.funcs[90]? = some Tryz.f90 ∧ (Tryz.f90.name == "runtime.NumGoroutine") = false ∧ ∀ c, Tryz.f90.body = some c → codeOk Tryz.f90.ntmps c = true := ⟨Tryz.func90, by kernel_rfl, codeOf (by kernel_rfl)⟩
theorem fo91 : Tryz.prog.funcs[91]? = some Tryz.f91 ∧ (Tryz.f91.name == "runtime.NumGoroutine") = false ∧ ∀ c, Tryz.f91.body = some c → codeOk Tryz.f91.ntmps c = true := ⟨Tryz.func91, by kernel_rfl, codeOf (by kernel_rfl)⟩
theorem fo92 : Tryz.prog.funcs[92]? = some Tryz.f92 ∧ (Tryz.f92.name == "runtime.NumGoroutine") = false ∧ ∀ c, Tryz.f92.body = some c → codeOk Tryz.f92.ntmps c = true := ⟨Tryz.func92, by kernel_rfl, codeOf (by kernel_rfl)⟩
theorem fo93 : Tryz.prog.funcs[93]? = some Tryz.f93 ∧ (Tryz.f93.name == "runtime.NumGoroutine") = false ∧ ∀ c, Tryz.f93.body = some c → codeOk Tryz.f93.ntmps c = true := ⟨Tryz.func93, by kernel_rfl, codeOf (by kernel_rfl)⟩
theorem fo94 : Tryz.prog.funcs[94]? = some Tryz.f94 ∧ (Tryz.f94.name == "runtime.NumGoroutine") = false ∧ ∀ c, Tryz.f94.body = some c → codeOk Tryz.f94.ntmps c = true := ⟨Tryz.func94, by kernel_rfl, codeOf (by kernel_rfl)⟩
theorem fo95 : Tryz.prog.funcs[95]? = some Tryz.f95 ∧ (Tryz.f95.name == "runtime.NumGoroutine") = false ∧ ∀ c, Tryz.f95.body = some c → codeOk Tryz.f95.ntmps c = true := ⟨Tryz.func95, by kernel_rfl, codeOf (by kernel_rfl)⟩
theorem fo96 : Tryz.prog.funcs[96]? = some Tryz.f96 ∧ (Tryz.f96.name == "runtime.NumGoroutine") = false ∧ ∀ c, Tryz.f96.body = some c → codeOk Tryz.f96.ntmps c = true := ⟨Tryz.func96, by kernel_rfl, codeOf (by kernel_rfl)⟩
theorem fo97 : Tryz.prog.funcs[97]? = some Tryz.f97 ∧ (Tryz.f97.name == "runtime.NumGoroutine") = false ∧ ∀ c, Tryz.f97.body = some c → codeOk Tryz.f97.ntmps c = true := ⟨Tryz.func97, by kernel_rfl, codeOf (by kernel_rfl)⟩
theorem fo98 : Tryz.prog.funcs[98]? = some Tryz.f98 ∧ (Tryz.f98.name == "runtime.NumGoroutine") = false ∧ ∀ c, Tryz.f98.body = some c → codeOk Tryz.f98.ntmps c = true := ⟨Tryz.func98, by kernel_rfl, codeOf (by kernel_rfl)⟩
theorem fo99 : Tryz.prog.funcs[99]? = some Tryz.f99 ∧ (Tryz.f99.name == "runtime.NumGoroutine") = false ∧ ∀ c, Tryz.f99.body = some c → codeOk Tryz.f99.ntmps c = true := ⟨Tryz.func99, by kernel_rfl, codeOf (by kernel_rfl)⟩
theorem fo100 : Tryz.prog.funcs[100]? = some Tryz.f100 ∧ (Tryz.f100.name == "runtime.NumGoroutine") = false ∧ ∀ c, Tryz.f100.body = some c → codeOk Tryz.f100.ntmps c = true := ⟨Tryz.func100, by kernel_rfl, codeOf (by kernel_rfl)⟩
theorem fo115 : Tryz.prog.funcs[115]? = some Tryz.f115 ∧ (Tryz.f115.name == "runtime.NumGoroutine") = false ∧ ∀ c, Tryz.f115.body = some c → codeOk Tryz.f115.ntmps c = true := ⟨Tryz.func115, by kernel_rfl, codeOf (by kernel_rfl)⟩
theorem fo116 : Tryz.prog.funcs[116]? = some Tryz.f116 ∧ (Tryz.f116.name == "runtime.NumGoroutine") = false ∧ ∀ c, Tryz.f116.body = some c → codeOk Tryz.f116.ntmps c = true := ⟨Tryz.func116, by kernel_rfl, codeOf (by kernel_rfl)⟩
theorem fo117 : Tryz.prog.funcs[117]? = some Tryz.f117 ∧ (Tryz.f117.name == "runtime.NumGoroutine") = false ∧ ∀ c, Tryz.f117.body = some c → codeOk Tryz.f117.ntmps c = true := ⟨Tryz.func117, by kernel_rfl, codeOf (by kernel_rfl)⟩
theorem fo118 : Tryz.prog.funcs[118]? = some Tryz.f118 ∧ (Tryz.f118.name == "runtime.NumGoroutine") = false ∧ ∀ c, Tryz.f118.body = some c → codeOk Tryz.f118.ntmps c = true := ⟨Tryz.func118, by kernel_rfl, codeOf (by kernel_rfl)⟩
theorem fo119 : Tryz.prog.funcs[119]? = some Tryz.f119 ∧ (Tryz.f119.name == "runtime.NumGoroutine") = false ∧ ∀ c, Tryz.f119.body = some c → codeOk Tryz.f119.ntmps c = true := ⟨Tryz.func119, by kernel_rfl, codeOf (by kernel_rfl)⟩
theorem fo123 : Tryz.prog.funcs[123]? = some Tryz.f123 ∧ (Tryz.f123.name == "runtime.NumGoroutine") = false ∧ ∀ c, Tryz.f123.body = some c → codeOk Tryz.f123.ntmps c = true := ⟨Tryz.func123, by kernel_rfl, codeOf (by kernel_rfl)⟩
theorem fo124 : Tryz.prog.funcs[124]? = some Tryz.f124 ∧ (Tryz.f124.name == "runtime.NumGoroutine") = false ∧ ∀ c, Tryz.f124.body = some c → codeOk Tryz.f124.ntmps c = true := ⟨Tryz.func124, by kernel_rfl, codeOf (by kernel_rfl)⟩
theorem fo125 : Tryz.prog.funcs[125]? = some Tryz.f125 ∧ (Tryz.f125.name == "runtime.NumGoroutine") = false ∧ ∀ c, Tryz.f125.body = some c → codeOk Tryz.f125.ntmps c = true := ⟨Tryz.func125, by kernel_rfl, codeOf (by kernel_rfl)⟩
theorem fo126 : Tryz.prog.funcs[126]? = some Tryz.f126 ∧ (Tryz.f126.name == "runtime.NumGoroutine") = false ∧ ∀ c, Tryz.f126.body = some c → codeOk Tryz.f126.ntmps c = true := ⟨Tryz.func126, by kernel_rfl, codeOf (by kernel_rfl)⟩
theorem fo127 : Tryz.prog.funcs[127]? = some Tryz.f127 ∧ (Tryz.f127.name == "runtime.NumGoroutine") = false ∧ ∀ c, Tryz.f127.body = some c → codeOk Tryz.f127.ntmps c = true := ⟨Tryz.func127, by kernel_rfl, codeOf (by kernel_rfl)⟩
theorem fo128 : Tryz.prog.funcs[128]? = some Tryz.f128 ∧ (Tryz.f128.name == "runtime.NumGoroutine") = false ∧ ∀ c, Tryz.f128.body = some c → codeOk Tryz.f128.ntmps c = true := ⟨Tryz.func128, by kernel_rfl, codeOf (by kernel_rfl)⟩
theorem fo129 : Tryz.prog.funcs[129]? = some Tryz.f129 ∧ (Tryz.f129.name == "runtime.NumGoroutine") = false ∧ ∀ c, Tryz.f129.body = some c → codeOk Tryz.f129.ntmps c = true := ⟨Tryz.func129, by kernel_rfl, codeOf (by kernel_rfl)⟩
theorem fo130 : Tryz.prog.funcs[130]? = some Tryz.f130 ∧ (Tryz.f130.name == "runtime.NumGoroutine") = false ∧ ∀ c, Tryz.f130.body = some c → codeOk Tryz.f130.ntmps c = true := ⟨Tryz.func130, by kernel_rfl, codeOf (by kernel_rfl)⟩
theorem fo131 : Tryz.prog.funcs[131]? = some Tryz.f131 ∧ (Tryz.f131.name == "runtime.NumGoroutine") = false ∧ ∀ c, Tryz.f131.body = some c → codeOk Tryz.f131.ntmps c = true := ⟨Tryz.func131, by kernel_rfl, codeOf (by kernel_rfl)⟩
theorem fo132 : Tryz.prog.funcs[132]? = some Tryz.f132 ∧ (Tryz.f132.name == "runtime.NumGoroutine") = false ∧ ∀ c, Tryz.f132.body = some c → codeOk Tryz.f132.ntmps c = true := ⟨Tryz.func132, by kernel_rfl, codeOf (by kernel_rfl)⟩
theorem fo133 : Tryz.prog.funcs[133]? = some Tryz.f133 ∧ (Tryz.f133.name == "runtime.NumGoroutine") = false ∧ ∀ c, Tryz.f133.body = some c → codeOk Tryz.f133.ntmps c = true := ⟨Tryz.func133, by kernel_rfl, codeOf (by kernel_rfl)⟩
theorem fo141 : Tryz.prog.funcs[141]? = some Tryz.f141 ∧ (Tryz.f141.name == "runtime.NumGoroutine") = false ∧ ∀ c, Tryz.f141.body = some c → codeOk Tryz.f141.ntmps c = true := ⟨Tryz.func141, by kernel_rfl, codeOf (by kernel_rfl)⟩
theorem fo142 : Tryz.prog.funcs[142]? = some Tryz.f142 ∧ (Tryz.f142.name == "runtime.NumGoroutine") = false ∧ ∀ c, Tryz.f142.body = some c → codeOk Tryz.f142.ntmps c = true := ⟨Tryz.func142, by kernel_rfl, codeOf (by kernel_rfl)⟩
theorem fo144 : Tryz.prog.funcs[144]? = some Tryz.f144 ∧ (Tryz.f144.name == "runtime.NumGoroutine") = false ∧ ∀ c, Tryz.f144.body = some c → codeOk Tryz.f144.ntmps c = true := ⟨Tryz.func144, by kernel_rfl, codeOf (by kernel_rfl)⟩
theorem fo145 : Tryz.prog.funcs[145]? = some Tryz.f145 ∧ (Tryz.f145.name == "runtime.NumGoroutine") = false ∧ ∀ c, Tryz.f145.body = some c → codeOk Tryz.f145.ntmps c = true := ⟨Tryz.func145, by kernel_rfl, codeOf (by kernel_rfl)⟩
theorem fo146 : Tryz.prog.funcs[146]? = some Tryz.f146 ∧ (Tryz.f146.name == "runtime.NumGoroutine") = false ∧ ∀ c, Tryz.f146.body = some c → codeOk Tryz.f146.ntmps c = true := ⟨Tryz.func146, by kernel_rfl, codeOf (by kernel_rfl)⟩
theorem fo147 : Tryz.prog.funcs[147]? = some Tryz.f147 ∧ (Tryz.f147.name == "runtime.NumGoroutine") = false ∧ ∀ c, Tryz.f147.body = some c → codeOk Tryz.f147.ntmps c = true := ⟨Tryz.func147, by kernel_rfl, codeOf (by kernel_rfl)⟩
theorem fo149 : Tryz.prog.funcs[149]? = some Tryz.f149 ∧ (Tryz.f149.name == "runtime.NumGoroutine") = false ∧ ∀ c, Tryz.f149.body = some c → codeOk Tryz.f149.ntmps c = true := ⟨Tryz.func149, by kernel_rfl, codeOf (by kernel_rfl)⟩
theorem fo150 : Tryz.prog.funcs[150]? = some Tryz.f150 ∧ (Tryz.f150.name == "runtime.NumGoroutine") = false ∧ ∀ c, Tryz.f150.body = some c → codeOk Tryz.f150.ntmps c = true := ⟨Tryz.func150, by kernel_rfl, codeOf (by kernel_rfl)⟩
theorem fo151 : Tryz.prog.funcs[151]? = some Tryz.f151 ∧ (Tryz.f151.name == "runtime.NumGoroutine") = false ∧ ∀ c, Tryz.f151.body = some c → codeOk Tryz.f151.ntmps c = true := ⟨Tryz.func151, by kernel_rfl, codeOf (by kernel_rfl)⟩
theorem fo152 : Tryz.prog.funcs[152]? = some Tryz.f152 ∧ (Tryz.f152.name == "runtime.NumGoroutine") = false ∧ ∀ c, Tryz.f152.body = some c → codeOk Tryz.f152.ntmps c = true := ⟨Tryz.func152, by kernel_rfl, codeOf (by kernel_rfl)⟩
theorem fo153 : Tryz.prog.funcs[153]? = some Tryz.f153 ∧ (Tryz.f153.name == "runtime.NumGoroutine") = false ∧ ∀ c, Tryz.f153.body = some c → codeOk Tryz.f153.ntmps c = true := ⟨Tryz.func153, by kernel_rfl, codeOf (by kernel_rfl)⟩
theorem fo154 : Tryz.prog.funcs[154]? = some Tryz.f154 ∧ (Tryz.f154.name == "runtime.NumGoroutine") = false ∧ ∀ c, Tryz.f154.body = some c → codeOk Tryz.f154.ntmps c = true := ⟨Tryz.func154, by kernel_rfl, codeOf (by kernel_rfl)⟩
theorem fo155 : Tryz.prog.funcs[155]? = some Tryz.f155 ∧ (Tryz.f155.name == "runtime.NumGoroutine") = false ∧ ∀ c, Tryz.f155.body = some c → codeOk Tryz.f155.ntmps c = true := ⟨Tryz.func155, by kernel_rfl, codeOf (by kernel_rfl)⟩
theorem fo156 : Tryz.prog.funcs[156]? = some Tryz.f156 ∧ (Tryz.f156.name == "runtime.NumGoroutine") = false ∧ ∀ c, Tryz.f156.body = some c → codeOk Tryz.f156.ntmps c = true := ⟨Tryz.func156, by kernel_rfl, codeOf (by kernel_rfl)⟩
theorem fo157 : Tryz.prog.funcs[157]? = some Tryz.f157 ∧ (Tryz.f157.name == "runtime.NumGoroutine") = false ∧ ∀ c, Tryz.f157.body = some c → codeOk Tryz.f157.ntmps c = true := ⟨Tryz.func157, by kernel_rfl, codeOf (by kernel_rfl)⟩
theorem fo158 : Tryz.prog.funcs[158]? = some Tryz.f158 ∧ (Tryz.f158.name == "runtime.NumGoroutine") = false ∧ ∀ c, Tryz.f158.body = some c → codeOk Tryz.f158.ntmps c = true := ⟨Tryz.func158, by kernel_rfl, codeOf (by kernel_rfl)⟩
theorem fo160 : Tryz.prog.funcs[160]? = some Tryz.f160 ∧ (Tryz.f160.name == "runtime.NumGoroutine") = false ∧ ∀ c, Tryz.f160.body = some c → codeOk Tryz.f160.ntmps c = true := ⟨Tryz.func160, by kernel_rfl, codeOf (by kernel_rfl)⟩
theorem fo161 : Tryz.prog.funcs[161]? = some Tryz.f161 ∧ (Tryz.f161.name == "runtime.NumGoroutine") = false ∧ ∀ c, Tryz.f161.body = some c → codeOk Tryz.f161.ntmps c = true := ⟨Tryz.func161, by kernel_rfl, codeOf (by kernel_rfl)⟩
theorem fo162 : Tryz.prog.funcs[162]? = some Tryz.f162 ∧ (Tryz.f162.name == "runtime.NumGoroutine") = false ∧ ∀ c, Tryz.f162.body = some c → codeOk Tryz.f162.ntmps c = true := ⟨Tryz.func162, by kernel_rfl, codeOf (by kernel_rfl)⟩
theorem fo163 : Tryz.prog.funcs[163]? = some Tryz.f163 ∧ (Tryz.f163.name == "runtime.NumGoroutine") = false ∧ ∀ c, Tryz.f163.body = some c → codeOk Tryz.f163.ntmps c = true := ⟨Tryz.func163, by kernel_rfl, codeOf (by kernel_rfl)⟩
theorem fo164 : Tryz.prog.funcs[164]? = some Tryz.f164 ∧ (Tryz.f164.name == "runtime.NumGoroutine") = false ∧ ∀ c, Tryz.f164.body = some c → codeOk Tryz.f164.ntmps c = true := ⟨Tryz.func164, by kernel_rfl, codeOf (by kernel_rfl)⟩
theorem fo165 : Tryz.prog.funcs[165]? = some Tryz.f165 ∧ (Tryz.f165.name == "runtime.NumGoroutine") = false ∧ ∀ c, Tryz.f165.body = some c → codeOk Tryz.f165.ntmps c = true := ⟨Tryz.func165, by kernel_rfl, codeOf (by kernel_rfl)⟩
theorem fo166 : Tryz.prog.funcs[166]? = some Tryz.f166 ∧ (Tryz.f166.name == "runtime.NumGoroutine") = false ∧ ∀ c, Tryz.f166.body = some c → codeOk Tryz.f166.ntmps c = true := ⟨Tryz.func166, by kernel_rfl, codeOf (by kernel_rfl)⟩
theorem fo167 : Tryz.prog.funcs[167]? = some Tryz.f167 ∧ (Tryz.f167.name == "runtime.NumGoroutine") = false ∧ ∀ c, Tryz.f167.body = some c → codeOk Tryz.f167.ntmps c = true := ⟨Tryz.func167, by kernel_rfl, codeOf (by kernel_rfl)⟩
theorem fo168 : Tryz.prog.funcs[168]? = some Tryz.f168 ∧ (Tryz.f168.name == "runtime.NumGoroutine") = false ∧ ∀ c, Tryz.f168.body = some c → codeOk Tryz.f168.ntmps c = true := ⟨Tryz.func168, by kernel_rfl, codeOf (by kernel_rfl)⟩
theorem fo169 : Tryz.prog.funcs[169]? = some Tryz.f169 ∧ (Tryz.f169.name == "runtime.NumGoroutine") = false ∧ ∀ c, Tryz.f169.body = some c → codeOk Tryz.f169.ntmps c = true := ⟨Tryz.func169, by kernel_rfl, codeOf (by kernel_rfl)⟩
theorem fo170 : Tryz.prog.funcs[170]? = some Tryz.f170 ∧ (Tryz.f170.name == "runtime.NumGoroutine") = false ∧ ∀ c, Tryz.f170.body = some c → codeOk Tryz.f170.ntmps c = true := ⟨Tryz.func170, by kernel_rfl, codeOf (by kernel_rfl)⟩
theorem fo171 : Tryz.prog.funcs[171]? = some Tryz.f171 ∧ (Tryz.f171.name == "runtime.NumGoroutine") = false ∧ ∀ c, Tryz.f171.body = some c → codeOk Tryz.f171.ntmps c = true := ⟨Tryz.func171, by kernel_rfl, codeOf (by kernel_rfl)⟩
theorem fo174 : Tryz.prog.funcs[174]? = some Tryz.f174 ∧ (Tryz.f174.name == "runtime.NumGoroutine") = false ∧ ∀ c, Tryz.f174.body = some c → codeOk Tryz.f174.ntmps c = true := ⟨Tryz.func174, by kernel_rfl, codeOf (by kernel_rfl)⟩
theorem fo175 : Tryz.prog.funcs[175]? = some Tryz.f175 ∧ (Tryz.f175.name == "runtime.NumGoroutine") = false ∧ ∀ c, Tryz.f175.body = some c → codeOk Tryz.f175.ntmps c = true := ⟨Tryz.func175, by kernel_rfl, codeOf (by kernel_rfl)⟩
theorem fo176 : Tryz.prog.funcs[176]? = some Tryz.f176 ∧ (Tryz.f176.name == "runtime.NumGoroutine") = false ∧ ∀ c, Tryz.f176.body = some c → codeOk Tryz.f176.ntmps c = true := ⟨Tryz.func176, by kernel_rfl, codeOf (by kernel_rfl)⟩
theorem fo180 : Tryz.prog.funcs[180]? = some Tryz.f180 ∧ (Tryz.f180.name == "runtime.NumGoroutine") = false ∧ ∀ c, Tryz.f180.body = some c → codeOk Tryz.f180.ntmps c = true := ⟨Tryz.func180, by kernel_rfl, codeOf (by kernel_rfl)⟩
theorem fo181 : Tryz.prog.funcs[181]? = some Tryz.f181 ∧ (Tryz.f181.name == "runtime.NumGoroutine") = false ∧ ∀ c, Tryz.f181.body = some c → codeOk Tryz.f181.ntmps c = true := ⟨Tryz.func181, by kernel_rfl, codeOf (by kernel_rfl)⟩
theorem fo182 : Tryz.prog.funcs[182]? = some Tryz.f182 ∧ (Tryz.f182.name == "runtime.NumGoroutine") = false ∧ ∀ c, Tryz.f182.body = some c → codeOk Tryz.f182.ntmps c = true := ⟨Tryz.func182, by kernel_rfl, codeOf (by kernel_rfl)⟩
theorem fo183 : Tryz.prog.funcs[183]? = some Tryz.f183 ∧ (Tryz.f183.name == "runtime.NumGoroutine") = false ∧ ∀ c, Tryz.f183.body = some c → codeOk Tryz.f183.ntmps c = true := ⟨Tryz.func183, by kernel_rfl, codeOf (by kernel_rfl)⟩
theorem fo187 : Tryz.prog.funcs[187]? = some Tryz.f187 ∧ (Tryz.f187.name == "runtime.NumGoroutine") = false ∧ ∀ c, Tryz.f187.body = some c → codeOk Tryz.f187.ntmps c = true := ⟨Tryz.func187, by kernel_rfl, codeOf (by kernel_rfl)⟩
theorem fo188 : Tryz.prog.funcs[188]? = some Tryz.f188 ∧ (Tryz.f188.name == "runtime.NumGoroutine") = false ∧ ∀ c, Tryz.f188.body = some c → codeOk Tryz.f188.ntmps c = true := ⟨Tryz.func188, by kernel_rfl, codeOf (by kernel_rfl)⟩
theorem fo189 : Tryz.prog.funcs[189]? = some Tryz.f189 ∧ (Tryz.f189.name == "runtime.NumGoroutine") = false ∧ ∀ c, Tryz.f189.body = some c → codeOk Tryz.f189.ntmps c = true := ⟨Tryz.func189, by kernel_rfl, codeOf (by kernel_rfl)⟩
theorem fo41 : Tryz.prog.funcs[41]? = some Tryz.f41 ∧ (Tryz.f41.name == "runtime.NumGoroutine") = false ∧ ∀ c, Tryz.f41.body = some c → codeOk Tryz.f41.ntmps c = true := ⟨Tryz.func41, by kernel_rfl, codeOf (by kernel_rfl)⟩
theorem fo4 : Tryz.prog.funcs[4]? = some Tryz.f4 ∧ (Tryz.f4.name == "runtime.NumGoroutine") = false ∧ ∀ c, Tryz.f4.body = some c → codeOk Tryz.f4.ntmps c = true := ⟨Tryz.func4, by kernel_rfl, codeOf (by kernel_rfl)⟩
theorem fo12 : Tryz.prog.funcs[12]? = some Tryz.f12 ∧ (Tryz.f12.name == "runtime.NumGoroutine") = false ∧ ∀ c, Tryz.f12.body = some c → codeOk Tryz.f12.ntmps c = true := ⟨Tryz.func12, by kernel_rfl, codeOf (by kernel_rfl)⟩
theorem fo13 : Tryz.prog.funcs[13]? = some Tryz.f13 ∧ (Tryz.f13.name == "runtime.NumGoroutine") = false ∧ ∀ c, Tryz.f13.body = some c → codeOk Tryz.f13.ntmps c = true := ⟨Tryz.func13, by kernel_rfl, codeOf (by kernel_rfl)⟩
theorem fo14 : Tryz.prog.funcs[14]? = some Tryz.f14 ∧ (Tryz.f14.name == "runtime.NumGoroutine") = false ∧ ∀ c, Tryz.f14.body = some c → codeOk Tryz.f14.ntmps c = true := ⟨Tryz.func14, by kernel_rfl, codeOf (by kernel_rfl)⟩
theorem fo34 : Tryz.prog.funcs[34]? = some Tryz.f34 ∧ (Tryz.f34.name == "runtime.NumGoroutine") = false ∧ ∀ c, Tryz.f34.body = some c → codeOk Tryz.f34.ntmps c = true := ⟨Tryz.func34, by kernel_rfl, codeOf (by kernel_rfl)⟩
theorem fo35 : Tryz.prog.funcs[35]? = some Tryz.f35 ∧ (Tryz.f35.name == "runtime.NumGoroutine") = false ∧ ∀ c, Tryz.f35.body = some c → codeOk Tryz.f35.ntmps c = true := ⟨Tryz.func35, by kernel_rfl, codeOf (by kernel_rfl)⟩
theorem fo36 : Tryz.prog.funcs[36]? = some Tryz.f36 ∧ (Tryz.f36.name == "runtime.NumGoroutine") = false ∧ ∀ c, Tryz.f36.body = some c → codeOk Tryz.f36.ntmps c = true := ⟨Tryz.func36, by kernel_rfl, codeOf (by kernel_rfl)⟩
theorem fo66 : Tryz.prog.funcs[66]? = some Tryz.f66 ∧ (Tryz.f66.name == "runtime.NumGoroutine") = false ∧ ∀ c, Tryz.f66.body = some c → codeOk Tryz.f66.ntmps c = true := ⟨Tryz.func66, by kernel_rfl, codeOf (by kernel_rfl)⟩
theorem fo67 : Tryz.prog.funcs[67]? = some Tryz.f67 ∧ (Tryz.f67.name == "runtime.NumGoroutine") = false ∧ ∀ c, Tryz.f67.body = some c → codeOk Tryz.f67.ntmps c = true := ⟨Tryz.func67, by kernel_rfl, codeOf (by kernel_rfl)⟩
theorem fo5 : Tryz.prog.funcs[5]? = some Tryz.f5 ∧ (Tryz.f5.name == "runtime.NumGoroutine") = false ∧ ∀ c, Tryz.f5.body = some c → codeOk Tryz.f5.ntmps c = true := ⟨Tryz.func5, by kernel_rfl, codeOf (by kernel_rfl)⟩
theorem fo15 : Tryz.prog.funcs[15]? = some Tryz.f15 ∧ (Tryz.f15.name == "runtime.NumGoroutine") = false ∧ ∀ c, Tryz.f15.body = some c → codeOk Tryz.f15.ntmps c = true := ⟨Tryz.func15, by kernel_rfl, codeOf (by kernel_rfl)⟩
theorem fo16 : Tryz.prog.funcs[16]? = some Tryz.f16 ∧ (Tryz.f16.name == "runtime.NumGoroutine") = false ∧ ∀ c, Tryz.f16.body = some c → codeOk Tryz.f16.ntmps c = true := ⟨Tryz.func16, by kernel_rfl, codeOf (by kernel_rfl)⟩
theorem fo38 : Tryz.prog.funcs[38]? = some Tryz.f38 ∧ (Tryz.f38.name == "runtime.NumGoroutine") = false ∧ ∀ c, Tryz.f38.body = some c → codeOk Tryz.f38.ntmps c = true := ⟨Tryz.func38, by kernel_rfl, codeOf (by kernel_rfl)⟩
theorem fo39 : Tryz.prog.funcs[39]? = some Tryz.f39 ∧ (Tryz.f39.name == "runtime.NumGoroutine") = false ∧ ∀ c, Tryz.f39.body = some c → codeOk Tryz.f39.ntmps c = true := ⟨Tryz.func39, by kernel_rfl, codeOf (by kernel_rfl)⟩
theorem fo70 : Tryz.prog.funcs[70]? = some Tryz.f70 ∧ (Tryz.f70.name == "runtime.NumGoroutine") = false ∧ ∀ c, Tryz.f70.body = some c → codeOk Tryz.f70.ntmps c = true := ⟨Tryz.func70, by kernel_rfl, codeOf (by kernel_rfl)⟩
theorem F_ok : FOk Tryz.prog F := by
  refine ⟨?_, by kernel_rfl⟩
  intro f fn h
  unfold F at h
  simp only [Option.map_eq_some_iff] at h
  obtain ⟨q, hq, rfl⟩ := h
  have h1 := List.find?_some hq
  have h2 : ∀ q ∈ ftab, Tryz.prog.funcs[q.1]? = some q.2 ∧ (q.2.name == "runtime.NumGoroutine") = false ∧ ∀ c, q.2.body = some c → codeOk q.2.ntmps c = true := by
    unfold ftab
    simp only [List.forall_mem_cons, List.not_mem_nil, false_imp_iff, implies_true, and_true]
    exact ⟨fo3, fo9, fo10, fo11, fo26, fo27, fo28, fo29, fo30, fo31, fo32, fo33, fo45, fo48, fo54, fo55, fo56, fo57, fo58, fo59, fo60, fo61, fo62, fo63, fo64, fo65, fo74, fo75, fo77, fo78, fo79, fo80, fo81, fo85, fo88, fo89, fo90, fo91, fo92, fo93, fo94, fo95, fo96, fo97, fo98, fo99, fo100, fo115, fo116, fo117, fo118, fo119, fo123, fo124, fo125, fo126, fo127, fo128, fo129, fo130, fo131, fo132, fo133, fo141, fo142, fo144, fo145, fo146, fo147, fo149, fo150, fo151, fo152, fo153, fo154, fo155, fo156, fo157, fo158, fo160, fo161, fo162, fo163, fo164, fo165, fo166, fo167, fo168, fo169, fo170, fo171, fo174, fo175, fo176, fo180, fo181, fo182, fo183, fo187, fo188, fo189, fo41, fo4, fo12, fo13, fo14, fo34, fo35, fo36, fo66, fo67, fo5, fo15, fo16, fo38, fo39, fo70⟩
  have h3 : q.1 = f := by simpa using h1
  rw [← h3]
  exact h2 q (List.mem_of_find?_eq_some hq)
end Go.Proofs.YtefjnnghfloddaaGreat.Abs
