/- A part of a proof of a law of the store, without conditions: its texts are: Fu0. -/
import Derived.Test.YtefjnnghfloddaaGreatGd
/- The program's functions as the executor runs them, each proved to be so. Printed by gen.py, a program of this work. -/
namespace Go.Proofs.YtefjnnghfloddaaGreat.Abs
open Go.Proofs
set_option linter.unusedVariables false
set_option maxRecDepth 100000
def r3_0 : RR := fun D e m =>
 bnd (opBox (e 0) m) fun x0 m0 =>
 some (ups e [(1, x0), (2, .bool false)], m0)
def r3_1 : RR := fun D e m =>
 bp (opFieldAddr T 31 (e 1) 2) m fun x0 m0 =>
 bp (opFieldAddr T 29 x0 0) m0 fun x1 m1 =>
 bp (opLoad T 25 x1 m1) m1 fun x2 m2 =>
 bp (opLen T 25 x2) m2 fun x3 m3 =>
 bp (opBin T .gtr 3 x3 (.int .i64 300)) m3 fun x4 m4 =>
 some (ups e [(3, x0), (4, x1), (5, x2), (6, x3), (7, x4)], m4)
def r3_2 : RR := fun D e m =>
 bnd (D 9 [] m) fun x0 m0 =>
 some (ups e [(8, x0), (2, x0)], m0)
noncomputable def r3_3 : RR := fun D e m =>
 bp (opLoad T 31 (e 1) m) m fun x0 m0 =>
 bnd (D 10 [x0] m0) fun x1 m1 => chkd m0 m1 (
 bp (opLoad T 31 (e 1) m1) m1 fun x2 m2 =>
 bnd (D 11 [x2] m2) fun x3 m3 =>
 bp (opBin T .eql 33 x1 x3) m3 fun x4 m4 =>
 bg x4 true (D 9 [] m4) m4 fun x6 m6 =>
 bnd (pickV x4 x6 (.bool false) m6) fun x7 m7 =>
 some (ups e [(9, x0), (10, x1), (11, x2), (12, x3), (13, x4), (14, x4), (15, x6), (16, x7), (2, x7)], m7))
noncomputable def c3 : RC := fun D => (sq (rg (r3_0 D)) (sq (sq (rg (r3_1 D)) (cnd (fun e => some (e 7)) (sq (rg (r3_2 D)) rt) sk)) (sq (rg (r3_3 D)) rt)))
theorem e3 (a0 : V) (m : Mem) : DD 3 [a0] m = fin (c3 DD) (fun e m => some [e 2]) [a0] m :=
 eOf (f := Tryz.f3) (by kernel_rfl) (by kernel_rfl)
def r9_0 : RR := fun D e m =>
 some (ups e [(0, .bool false)], m)
def r9_1 : RR := fun D e m =>
 bp (opBuild T 31 []) m fun x0 m0 =>
 bnd (D 10 [x0] m0) fun x1 m1 =>
 bp (opBin T .eql 33 x1 (.int .i64 1)) m1 fun x2 m2 =>
 some (ups e [(1, x0), (2, x1), (3, x2), (0, x2)], m2)
noncomputable def c9 : RC := fun D => (sq (rg (r9_0 D)) (sq (rg (r9_1 D)) rt))
theorem e9 (m : Mem) : DD 9 [] m = fin (c9 DD) (fun e m => some [e 0]) [] m :=
 eOf (f := Tryz.f9) (by kernel_rfl) (by kernel_rfl)
def r10_0 : RR := fun D e m =>
 bnd (opBox (e 0) m) fun x0 m0 =>
 some (ups e [(1, x0), (2, .int .i64 0)], m0)
def r10_1 : RR := fun D e m =>
 bp (opFieldAddr T 31 (e 1) 0) m fun x0 m0 =>
 bp (opLoad T 27 x0 m0) m0 fun x1 m1 =>
 bnd (D 26 [x1] m1) fun x2 m2 =>
 some (ups e [(12, x0), (13, x1), (14, x2), (3, x2)], m2)
def r10_2 : RR := fun D e m =>
 bp (opBin T .neq 33 (e 3) (.int .i64 0)) m fun x1 m1 =>
 some (ups e [(15, e 3), (16, x1)], m1)
def r10_3 : RR := fun D e m =>
 some (ups e [(17, e 3), (2, e 3)], m)
def r10_4 : RR := fun D e m =>
 bp (opFieldAddr T 31 (e 1) 0) m fun x0 m0 =>
 bp (opFieldAddr T 27 x0 2) m0 fun x1 m1 =>
 bp (opLoad T 25 x1 m1) m1 fun x2 m2 =>
 bp (opLen T 25 x2) m2 fun x3 m3 =>
 bp (opBin T .eql 3 x3 (.int .i64 0)) m3 fun x4 m4 =>
 some (ups e [(18, x0), (19, x1), (20, x2), (21, x3), (22, x4)], m4)
def r10_5 : RR := fun D e m =>
 some (ups e [(2, .int .i64 9)], m)
def r10_6 : RR := fun D e m =>
 bp (opFieldAddr T 31 (e 1) 0) m fun x0 m0 =>
 bp (opLoad T 27 x0 m0) m0 fun x1 m1 =>
 bp (opFieldAddr T 31 (e 1) 1) m1 fun x2 m2 =>
 bp (opLoad T 3 x2 m2) m2 fun x3 m3 =>
 bp (opFieldAddr T 31 (e 1) 2) m3 fun x4 m4 =>
 bp (opLoad T 29 x4 m4) m4 fun x5 m5 =>
 bnd (D 27 [x1, x3, x5] m5) fun x6 m6 =>
 some (ups e [(23, x0), (24, x1), (25, x2), (26, x3), (27, x4), (28, x5), (29, x6), (4, x6)], m6)
def r10_7 : RR := fun D e m =>
 bp (opBin T .neq 33 (e 4) (.int .i64 0)) m fun x1 m1 =>
 some (ups e [(30, e 4), (31, x1)], m1)
def r10_8 : RR := fun D e m =>
 some (ups e [(32, e 4), (2, e 4)], m)
def r10_9 : RR := fun D e m =>
 some (ups e [(5, .int .i64 0)], m)
def r10_10 : RR := fun D e m =>
 some (ups e [(6, .int .i64 0)], m)
def r10_11 : RR := fun D e m =>
 bp (opFieldAddr T 31 (e 1) 1) m fun x1 m1 =>
 bp (opLoad T 3 x1 m1) m1 fun x2 m2 =>
 bp (opBin T .sub 3 x2 (.int .i64 1)) m2 fun x3 m3 =>
 bp (opBin T .quo 3 x3 (.int .i64 2)) m3 fun x4 m4 =>
 bp (opBin T .leq 3 (e 6) x4) m4 fun x5 m5 =>
 some (ups e [(33, e 6), (34, x1), (35, x2), (36, x3), (37, x4), (38, x5)], m5)
def r10_12 : RR := fun D e m =>
 bp (opFieldAddr T 31 (e 1) 0) m fun x0 m0 =>
 bp (opFieldAddr T 27 x0 1) m0 fun x1 m1 =>
 bp (opLoad T 3 x1 m1) m1 fun x2 m2 =>
 bnd (D 28 [x2, e 6] m2) fun x4 m4 =>
 bnd (extV x4 0 m4) fun x6 m6 =>
 bnd (extV x4 1 m6) fun x7 m7 =>
 some (ups e [(42, x0), (43, x1), (44, x2), (45, e 6), (46, x4), (41, x4), (47, x6), (48, x7), (7, x6), (8, x7)], m7)
def r10_13 : RR := fun D e m =>
 bp (opBin T .sub 3 (.int .i64 65536) (e 5)) m fun x2 m2 =>
 bp (opBin T .gtr 3 (e 7) x2) m2 fun x3 m3 =>
 some (ups e [(49, e 7), (50, e 5), (51, x2), (52, x3)], m3)
def r10_14 : RR := fun D e m =>
 some (ups e [(2, .int .i64 8)], m)
def r10_15 : RR := fun D e m =>
 bp (opBin T .add 3 (e 5) (e 7)) m fun x2 m2 =>
 some (ups e [(53, e 5), (54, e 7), (55, x2), (5, x2)], m2)
def r10_16 : RR := fun D e m =>
 bp (opBin T .add 3 (e 6) (.int .i64 1)) m fun x1 m1 =>
 some (ups e [(39, e 6), (40, x1), (6, x1)], m1)
noncomputable def l10_17 : RC := fun D => (sq (sq (rg (r10_11 D)) (cnd (fun e => some (e 38)) sk (exi 0))) (sq (blk 1 (sq (rg (r10_12 D)) (sq (sq (rg (r10_13 D)) (cnd (fun e => some (e 52)) (sq (rg (r10_14 D)) rt) sk)) (rg (r10_15 D))))) (rg (r10_16 D))))
def r10_18 : RR := fun D e m =>
 bp (opFieldAddr T 31 (e 1) 4) m fun x0 m0 =>
 bp (opLoad T 3 x0 m0) m0 fun x1 m1 =>
 bp (opBin T .lss 3 x1 (.int .i64 1)) m1 fun x2 m2 =>
 bg x2 false (lft (opFieldAddr T 31 (e 1) 4) m2) m2 fun x4 m4 =>
 bg x2 false (lft (opLoad T 3 x4 m4) m4) m4 fun x5 m5 =>
 bg x2 false (lft (opBin T .gtr 3 x5 (.int .i64 16)) m5) m5 fun x6 m6 =>
 bnd (pickV x2 (.bool true) x6 m6) fun x7 m7 =>
 bg x7 false (lft (opFieldAddr T 31 (e 1) 3) m7) m7 fun x9 m9 =>
 bg x7 false (lft (opLoad T 22 x9 m9) m9) m9 fun x10 m10 =>
 bg x7 false (lft (opLen T 22 x10) m10) m10 fun x11 m11 =>
 bg x7 false (lft (opBin T .lss 3 x11 (.int .i64 1)) m11) m11 fun x12 m12 =>
 bnd (pickV x7 (.bool true) x12 m12) fun x13 m13 =>
 bg x13 false (lft (opFieldAddr T 31 (e 1) 3) m13) m13 fun x15 m15 =>
 bg x13 false (lft (opLoad T 22 x15 m15) m15) m15 fun x16 m16 =>
 bg x13 false (lft (opLen T 22 x16) m16) m16 fun x17 m17 =>
 bg x13 false (lft (opBin T .gtr 3 x17 (.int .i64 64)) m17) m17 fun x18 m18 =>
 bnd (pickV x13 (.bool true) x18 m18) fun x19 m19 =>
 bg x19 false (lft (opFieldAddr T 31 (e 1) 3) m19) m19 fun x21 m21 =>
 bg x19 false (lft (opLoad T 22 x21 m21) m21) m21 fun x22 m22 =>
 bg x19 false (D 29 [x22] m22) m22 fun x23 m23 =>
 bg x19 false (lft (opBin T .lss 3 x23 (.int .i64 1)) m23) m23 fun x24 m24 =>
 bnd (pickV x19 (.bool true) x24 m24) fun x25 m25 =>
 some (ups e [(56, x0), (57, x1), (58, x2), (59, x2), (60, x4), (61, x5), (62, x6), (63, x7), (64, x7), (65, x9), (66, x10), (67, x11), (68, x12), (69, x13), (70, x13), (71, x15), (72, x16), (73, x17), (74, x18), (75, x19), (76, x19), (77, x21), (78, x22), (79, x23), (80, x24), (81, x25)], m25)
def r10_19 : RR := fun D e m =>
 some (ups e [(2, .int .i64 6)], m)
def r10_20 : RR := fun D e m =>
 some (ups e [(9, .int .i64 0)], m)
def r10_21 : RR := fun D e m =>
 bp (opFieldAddr T 31 (e 1) 3) m fun x0 m0 =>
 bp (opLoad T 22 x0 m0) m0 fun x1 m1 =>
 bp (opLen T 22 x1) m1 fun x2 m2 =>
 some (ups e [(82, x0), (83, x1), (84, x2), (85, .int .i64 0)], m2)
def r10_22 : RR := fun D e m =>
 bp (opBin T .lss 3 (e 85) (e 84)) m fun x0 m0 =>
 some (ups e [(86, x0)], m0)
def r10_23 : RR := fun D e m =>
 bp (opIndexAddr T 22 (e 83) (e 85)) m fun x0 m0 =>
 bp (opLoad T 3 x0 m0) m0 fun x1 m1 =>
 some (ups e [(87, x0), (88, x1), (11, x1)], m1)
def r10_24 : RR := fun D e m =>
 bp (opBin T .sub 3 (.int .i64 256) (e 9)) m fun x2 m2 =>
 bp (opBin T .gtr 3 (e 11) x2) m2 fun x3 m3 =>
 some (ups e [(89, e 11), (90, e 9), (91, x2), (92, x3)], m3)
def r10_25 : RR := fun D e m =>
 some (ups e [(2, .int .i64 8)], m)
def r10_26 : RR := fun D e m =>
 bp (opBin T .add 3 (e 9) (e 11)) m fun x2 m2 =>
 some (ups e [(93, e 9), (94, e 11), (95, x2), (9, x2)], m2)
def r10_27 : RR := fun D e m =>
 bp (opBin T .add 3 (e 85) (.int .i64 1)) m fun x0 m0 =>
 some (ups e [(96, x0), (85, x0)], m0)
noncomputable def l10_28 : RC := fun D => (sq (rg (r10_22 D)) (sq (cnd (fun e => some (e 86)) sk (exi 2)) (sq (blk 3 (sq (rg (r10_23 D)) (sq (sq (rg (r10_24 D)) (cnd (fun e => some (e 92)) (sq (rg (r10_25 D)) rt) sk)) (rg (r10_26 D))))) (rg (r10_27 D)))))
def r10_29 : RR := fun D e m =>
 bp (opFieldAddr T 31 (e 1) 0) m fun x1 m1 =>
 bp (opFieldAddr T 27 x1 1) m1 fun x2 m2 =>
 bp (opLoad T 3 x2 m2) m2 fun x3 m3 =>
 bp (opBin T .lss 3 (e 9) x3) m3 fun x4 m4 =>
 some (ups e [(97, e 9), (98, x1), (99, x2), (100, x3), (101, x4)], m4)
def r10_30 : RR := fun D e m =>
 some (ups e [(2, .int .i64 10)], m)
def r10_31 : RR := fun D e m =>
 some (ups e [(2, .int .i64 0)], m)
noncomputable def c10 : RC := fun D => (sq (rg (r10_0 D)) (sq (sq (rg (r10_1 D)) (sq (rg (r10_2 D)) (cnd (fun e => some (e 16)) (sq (rg (r10_3 D)) rt) sk))) (sq (sq (rg (r10_4 D)) (cnd (fun e => some (e 22)) (sq (rg (r10_5 D)) rt) sk)) (sq (sq (rg (r10_6 D)) (sq (rg (r10_7 D)) (cnd (fun e => some (e 31)) (sq (rg (r10_8 D)) rt) sk))) (sq (rg (r10_9 D)) (sq (sq (rg (r10_10 D)) (blk 0 (loopD (l10_17 D)))) (sq (sq (rg (r10_18 D)) (cnd (fun e => some (e 81)) (sq (rg (r10_19 D)) rt) sk)) (sq (rg (r10_20 D)) (sq (sq (rg (r10_21 D)) (blk 2 (loopD (l10_28 D)))) (sq (sq (rg (r10_29 D)) (cnd (fun e => some (e 101)) (sq (rg (r10_30 D)) rt) sk)) (sq (rg (r10_31 D)) rt)))))))))))
theorem e10 (a0 : V) (m : Mem) : DD 10 [a0] m = fin (c10 DD) (fun e m => some [e 2]) [a0] m :=
 eOf (f := Tryz.f10) (by kernel_rfl) (by kernel_rfl)
def r11_0 : RR := fun D e m =>
 bnd (opBox (e 0) m) fun x0 m0 =>
 some (ups e [(1, x0), (2, .int .i64 0)], m0)
def r11_1 : RR := fun D e m =>
 bp (opFieldAddr T 31 (e 1) 0) m fun x0 m0 =>
 bp (opLoad T 27 x0 m0) m0 fun x1 m1 =>
 bnd (D 30 [x1] m1) fun x2 m2 =>
 some (ups e [(7, x0), (8, x1), (9, x2), (3, x2)], m2)
def r11_2 : RR := fun D e m =>
 bp (opBin T .neq 33 (e 3) (.int .i64 0)) m fun x1 m1 =>
 some (ups e [(10, e 3), (11, x1)], m1)
def r11_3 : RR := fun D e m =>
 some (ups e [(12, e 3), (2, e 3)], m)
def r11_4 : RR := fun D e m =>
 bp (opFieldAddr T 31 (e 1) 0) m fun x0 m0 =>
 bp (opFieldAddr T 27 x0 2) m0 fun x1 m1 =>
 bp (opLoad T 25 x1 m1) m1 fun x2 m2 =>
 bp (opLen T 25 x2) m2 fun x3 m3 =>
 bp (opBin T .eql 3 x3 (.int .i64 0)) m3 fun x4 m4 =>
 some (ups e [(13, x0), (14, x1), (15, x2), (16, x3), (17, x4)], m4)
def r11_5 : RR := fun D e m =>
 some (ups e [(2, .int .i64 9)], m)
def r11_6 : RR := fun D e m =>
 bp (opFieldAddr T 31 (e 1) 0) m fun x0 m0 =>
 bp (opLoad T 27 x0 m0) m0 fun x1 m1 =>
 bp (opFieldAddr T 31 (e 1) 1) m1 fun x2 m2 =>
 bp (opLoad T 3 x2 m2) m2 fun x3 m3 =>
 bp (opFieldAddr T 31 (e 1) 2) m3 fun x4 m4 =>
 bp (opLoad T 29 x4 m4) m4 fun x5 m5 =>
 bnd (D 31 [x1, x3, x5] m5) fun x6 m6 =>
 some (ups e [(18, x0), (19, x1), (20, x2), (21, x3), (22, x4), (23, x5), (24, x6), (3, x6)], m6)
def r11_7 : RR := fun D e m =>
 bp (opBin T .neq 33 (e 3) (.int .i64 0)) m fun x1 m1 =>
 some (ups e [(25, e 3), (26, x1)], m1)
def r11_8 : RR := fun D e m =>
 some (ups e [(27, e 3), (2, e 3)], m)
def r11_9 : RR := fun D e m =>
 bp (opFieldAddr T 31 (e 1) 0) m fun x0 m0 =>
 bp (opFieldAddr T 27 x0 1) m0 fun x1 m1 =>
 bp (opLoad T 3 x1 m1) m1 fun x2 m2 =>
 bp (opFieldAddr T 31 (e 1) 1) m2 fun x3 m3 =>
 bp (opLoad T 3 x3 m3) m3 fun x4 m4 =>
 bp (opBin T .sub 3 x4 (.int .i64 1)) m4 fun x5 m5 =>
 bp (opBin T .quo 3 x5 (.int .i64 2)) m5 fun x6 m6 =>
 bnd (D 32 [x2, x6] m6) fun x7 m7 =>
 bp (opBin T .gtr 3 x7 (.int .i64 65536)) m7 fun x8 m8 =>
 some (ups e [(28, x0), (29, x1), (30, x2), (31, x3), (32, x4), (33, x5), (34, x6), (35, x7), (36, x8)], m8)
def r11_10 : RR := fun D e m =>
 some (ups e [(2, .int .i64 8)], m)
def r11_11 : RR := fun D e m =>
 bp (opFieldAddr T 31 (e 1) 4) m fun x0 m0 =>
 bp (opLoad T 3 x0 m0) m0 fun x1 m1 =>
 bp (opBin T .lss 3 x1 (.int .i64 1)) m1 fun x2 m2 =>
 bg x2 false (lft (opFieldAddr T 31 (e 1) 4) m2) m2 fun x4 m4 =>
 bg x2 false (lft (opLoad T 3 x4 m4) m4) m4 fun x5 m5 =>
 bg x2 false (lft (opBin T .gtr 3 x5 (.int .i64 16)) m5) m5 fun x6 m6 =>
 bnd (pickV x2 (.bool true) x6 m6) fun x7 m7 =>
 bg x7 false (lft (opFieldAddr T 31 (e 1) 3) m7) m7 fun x9 m9 =>
 bg x7 false (lft (opLoad T 22 x9 m9) m9) m9 fun x10 m10 =>
 bg x7 false (lft (opLen T 22 x10) m10) m10 fun x11 m11 =>
 bg x7 false (lft (opBin T .lss 3 x11 (.int .i64 1)) m11) m11 fun x12 m12 =>
 bnd (pickV x7 (.bool true) x12 m12) fun x13 m13 =>
 bg x13 false (lft (opFieldAddr T 31 (e 1) 3) m13) m13 fun x15 m15 =>
 bg x13 false (lft (opLoad T 22 x15 m15) m15) m15 fun x16 m16 =>
 bg x13 false (lft (opLen T 22 x16) m16) m16 fun x17 m17 =>
 bg x13 false (lft (opBin T .gtr 3 x17 (.int .i64 64)) m17) m17 fun x18 m18 =>
 bnd (pickV x13 (.bool true) x18 m18) fun x19 m19 =>
 some (ups e [(37, x0), (38, x1), (39, x2), (40, x2), (41, x4), (42, x5), (43, x6), (44, x7), (45, x7), (46, x9), (47, x10), (48, x11), (49, x12), (50, x13), (51, x13), (52, x15), (53, x16), (54, x17), (55, x18), (56, x19)], m19)
def r11_12 : RR := fun D e m =>
 some (ups e [(2, .int .i64 6)], m)
def r11_13 : RR := fun D e m =>
 some (ups e [(4, .int .i64 0)], m)
def r11_14 : RR := fun D e m =>
 bp (opFieldAddr T 31 (e 1) 3) m fun x1 m1 =>
 bp (opLoad T 22 x1 m1) m1 fun x2 m2 =>
 bp (opLen T 22 x2) m2 fun x3 m3 =>
 bp (opBin T .lss 3 (e 4) x3) m3 fun x4 m4 =>
 some (ups e [(57, e 4), (58, x1), (59, x2), (60, x3), (61, x4)], m4)
def r11_15 : RR := fun D e m =>
 bp (opFieldAddr T 31 (e 1) 3) m fun x0 m0 =>
 bp (opLoad T 22 x0 m0) m0 fun x1 m1 =>
 bp (opIndexAddr T 22 x1 (e 4)) m1 fun x3 m3 =>
 bp (opLoad T 3 x3 m3) m3 fun x4 m4 =>
 bp (opBin T .lss 3 x4 (.int .i64 1)) m4 fun x5 m5 =>
 some (ups e [(64, x0), (65, x1), (66, e 4), (67, x3), (68, x4), (69, x5)], m5)
def r11_16 : RR := fun D e m =>
 some (ups e [(2, .int .i64 6)], m)
def r11_17 : RR := fun D e m =>
 bp (opBin T .add 3 (e 4) (.int .i64 1)) m fun x1 m1 =>
 some (ups e [(62, e 4), (63, x1), (4, x1)], m1)
noncomputable def l11_18 : RC := fun D => (sq (sq (rg (r11_14 D)) (cnd (fun e => some (e 61)) sk (exi 0))) (sq (blk 1 (sq (rg (r11_15 D)) (cnd (fun e => some (e 69)) (sq (rg (r11_16 D)) rt) sk))) (rg (r11_17 D))))
def r11_19 : RR := fun D e m =>
 some (ups e [(5, .int .i64 256)], m)
def r11_20 : RR := fun D e m =>
 some (ups e [(6, .int .i64 0)], m)
def r11_21 : RR := fun D e m =>
 bp (opFieldAddr T 31 (e 1) 3) m fun x1 m1 =>
 bp (opLoad T 22 x1 m1) m1 fun x2 m2 =>
 bp (opLen T 22 x2) m2 fun x3 m3 =>
 bp (opBin T .lss 3 (e 6) x3) m3 fun x4 m4 =>
 some (ups e [(70, e 6), (71, x1), (72, x2), (73, x3), (74, x4)], m4)
def r11_22 : RR := fun D e m =>
 bp (opFieldAddr T 31 (e 1) 3) m fun x0 m0 =>
 bp (opLoad T 22 x0 m0) m0 fun x1 m1 =>
 bp (opIndexAddr T 22 x1 (e 6)) m1 fun x3 m3 =>
 bp (opLoad T 3 x3 m3) m3 fun x4 m4 =>
 bp (opBin T .gtr 3 x4 (e 5)) m4 fun x6 m6 =>
 some (ups e [(77, x0), (78, x1), (79, e 6), (80, x3), (81, x4), (82, e 5), (83, x6)], m6)
def r11_23 : RR := fun D e m =>
 some (ups e [(2, .int .i64 8)], m)
def r11_24 : RR := fun D e m =>
 bp (opFieldAddr T 31 (e 1) 3) m fun x1 m1 =>
 bp (opLoad T 22 x1 m1) m1 fun x2 m2 =>
 bp (opIndexAddr T 22 x2 (e 6)) m2 fun x4 m4 =>
 bp (opLoad T 3 x4 m4) m4 fun x5 m5 =>
 bp (opBin T .sub 3 (e 5) x5) m5 fun x6 m6 =>
 some (ups e [(84, e 5), (85, x1), (86, x2), (87, e 6), (88, x4), (89, x5), (90, x6), (5, x6)], m6)
def r11_25 : RR := fun D e m =>
 bp (opBin T .add 3 (e 6) (.int .i64 1)) m fun x1 m1 =>
 some (ups e [(75, e 6), (76, x1), (6, x1)], m1)
noncomputable def l11_26 : RC := fun D => (sq (sq (rg (r11_21 D)) (cnd (fun e => some (e 74)) sk (exi 2))) (sq (blk 3 (sq (sq (rg (r11_22 D)) (cnd (fun e => some (e 83)) (sq (rg (r11_23 D)) rt) sk)) (rg (r11_24 D)))) (rg (r11_25 D))))
noncomputable def r11_27 : RR := fun D e m =>
 bp (opLoad T 31 (e 1) m) m fun x0 m0 =>
 bnd (D 33 [x0] m0) fun x1 m1 => chkd m0 m1 (
 bp (opFieldAddr T 31 (e 1) 0) m1 fun x2 m2 =>
 bp (opFieldAddr T 27 x2 1) m2 fun x3 m3 =>
 bp (opLoad T 3 x3 m3) m3 fun x4 m4 =>
 bp (opBin T .lss 3 x1 x4) m4 fun x5 m5 =>
 some (ups e [(91, x0), (92, x1), (93, x2), (94, x3), (95, x4), (96, x5)], m5))
def r11_28 : RR := fun D e m =>
 some (ups e [(2, .int .i64 10)], m)
def r11_29 : RR := fun D e m =>
 some (ups e [(2, .int .i64 0)], m)
noncomputable def c11 : RC := fun D => (sq (rg (r11_0 D)) (sq (rg (r11_1 D)) (sq (sq (rg (r11_2 D)) (cnd (fun e => some (e 11)) (sq (rg (r11_3 D)) rt) sk)) (sq (sq (rg (r11_4 D)) (cnd (fun e => some (e 17)) (sq (rg (r11_5 D)) rt) sk)) (sq (rg (r11_6 D)) (sq (sq (rg (r11_7 D)) (cnd (fun e => some (e 26)) (sq (rg (r11_8 D)) rt) sk)) (sq (sq (rg (r11_9 D)) (cnd (fun e => some (e 36)) (sq (rg (r11_10 D)) rt) sk)) (sq (sq (rg (r11_11 D)) (cnd (fun e => some (e 56)) (sq (rg (r11_12 D)) rt) sk)) (sq (sq (rg (r11_13 D)) (blk 0 (loopD (l11_18 D)))) (sq (rg (r11_19 D)) (sq (sq (rg (r11_20 D)) (blk 2 (loopD (l11_26 D)))) (sq (sq (rg (r11_27 D)) (cnd (fun e => some (e 96)) (sq (rg (r11_28 D)) rt) sk)) (sq (rg (r11_29 D)) rt)))))))))))))
theorem e11 (a0 : V) (m : Mem) : DD 11 [a0] m = fin (c11 DD) (fun e m => some [e 2]) [a0] m :=
 eOf (f := Tryz.f11) (by kernel_rfl) (by kernel_rfl)
def r26_0 : RR := fun D e m =>
 bnd (opBox (e 0) m) fun x0 m0 =>
 some (ups e [(1, x0), (2, .int .i64 0)], m0)
def r26_1 : RR := fun D e m =>
 bp (opFieldAddr T 27 (e 1) 0) m fun x0 m0 =>
 bp (opLoad T 24 x0 m0) m0 fun x1 m1 =>
 bnd (D 55 [x1] m1) fun x2 m2 =>
 bp (opBin T .neq 33 x2 (.int .i64 0)) m2 fun x3 m3 =>
 some (ups e [(4, x0), (5, x1), (6, x2), (7, x3)], m3)
def r26_2 : RR := fun D e m =>
 some (ups e [(2, .int .i64 1)], m)
def r26_3 : RR := fun D e m =>
 bp (opFieldAddr T 27 (e 1) 1) m fun x0 m0 =>
 bp (opLoad T 3 x0 m0) m0 fun x1 m1 =>
 bnd (D 56 [x1] m1) fun x2 m2 =>
 some (ups e [(8, x0), (9, x1), (10, x2), (3, x2)], m2)
def r26_4 : RR := fun D e m =>
 bp (opBin T .neq 33 (e 3) (.int .i64 0)) m fun x1 m1 =>
 some (ups e [(11, e 3), (12, x1)], m1)
def r26_5 : RR := fun D e m =>
 some (ups e [(13, e 3), (2, e 3)], m)
noncomputable def r26_6 : RR := fun D e m =>
 bp (opFieldAddr T 27 (e 1) 0) m fun x0 m0 =>
 bp (opLoad T 24 x0 m0) m0 fun x1 m1 =>
 bp (opLoad T 27 (e 1) m1) m1 fun x2 m2 =>
 bnd (D 58 [x2] m2) fun x3 m3 => chkd m2 m3 (
 bnd (D 57 [x1, x3] m3) fun x4 m4 =>
 some (ups e [(14, x0), (15, x1), (16, x2), (17, x3), (18, x4), (2, x4)], m4))
noncomputable def c26 : RC := fun D => (sq (rg (r26_0 D)) (sq (sq (rg (r26_1 D)) (cnd (fun e => some (e 7)) (sq (rg (r26_2 D)) rt) sk)) (sq (sq (rg (r26_3 D)) (sq (rg (r26_4 D)) (cnd (fun e => some (e 12)) (sq (rg (r26_5 D)) rt) sk))) (sq (rg (r26_6 D)) rt))))
theorem e26 (a0 : V) (m : Mem) : DD 26 [a0] m = fin (c26 DD) (fun e m => some [e 2]) [a0] m :=
 eOf (f := Tryz.f26) (by kernel_rfl) (by kernel_rfl)
def r27_0 : RR := fun D e m =>
 bnd (opBox (e 0) m) fun x0 m0 =>
 bnd (opBox (e 2) m0) fun x1 m1 =>
 some (ups e [(3, x0), (5, x1), (6, .int .i64 0)], m1)
noncomputable def r27_1 : RR := fun D e m =>
 bp (opLoad T 27 (e 3) m) m fun x0 m0 =>
 bp (opFieldAddr T 27 (e 3) 2) m0 fun x1 m1 =>
 bp (opLoad T 25 x1 m1) m1 fun x2 m2 =>
 bp (opLen T 25 x2) m2 fun x3 m3 =>
 bp (opLoad T 27 (e 3) m3) m3 fun x4 m4 =>
 bnd (D 60 [x4, e 1] m4) fun x6 m6 => chkd m4 m6 (
 bp (opLoad T 29 (e 5) m6) m6 fun x7 m7 =>
 bnd (D 59 [x0, x3, x6, x7] m7) fun x8 m8 =>
 some (ups e [(7, x0), (8, x1), (9, x2), (10, x3), (11, x4), (12, e 1), (13, x6), (14, x7), (15, x8), (6, x8)], m8))
noncomputable def c27 : RC := fun D => (sq (rg (r27_0 D)) (sq (rg (r27_1 D)) rt))
theorem e27 (a0 a1 a2 : V) (m : Mem) : DD 27 [a0, a1, a2] m = fin (c27 DD) (fun e m => some [e 6]) [a0, a1, a2] m :=
 eOf (f := Tryz.f27) (by kernel_rfl) (by kernel_rfl)
def r28_0 : RR := fun D e m =>
 some (ups e [(4, .int .i64 0), (5, .int .i64 0)], m)
def r28_1 : RR := fun D e m =>
 bp (opBin T .lss 3 (e 0) (.int .i64 0)) m fun x1 m1 =>
 bg x1 false (some ((e 0), m1)) m1 fun x3 m3 =>
 bg x1 false (lft (opBin T .gtr 3 x3 (.int .i64 64)) m3) m3 fun x4 m4 =>
 bnd (pickV x1 (.bool true) x4 m4) fun x5 m5 =>
 some (ups e [(6, e 0), (7, x1), (8, x1), (9, x3), (10, x4), (11, x5)], m5)
def r28_2 : RR := fun D e m =>
 some (ups e [(4, .int .i64 0), (5, .int .i64 6)], m)
def r28_3 : RR := fun D e m =>
 bnd (D 61 [e 0, e 1] m) fun x2 m2 =>
 some (ups e [(12, e 0), (13, e 1), (14, x2), (4, x2), (5, .int .i64 0)], m2)
noncomputable def c28 : RC := fun D => (sq (rg (r28_0 D)) (sq (sq (rg (r28_1 D)) (cnd (fun e => some (e 11)) (sq (rg (r28_2 D)) rt) sk)) (sq (rg (r28_3 D)) rt)))
theorem e28 (a0 a1 : V) (m : Mem) : DD 28 [a0, a1] m = fin (c28 DD) (fun e m => some [e 4, e 5]) [a0, a1] m :=
 eOf (f := Tryz.f28) (by kernel_rfl) (by kernel_rfl)
def r29_0 : RR := fun D e m =>
 some (ups e [(2, .int .i64 0)], m)
def r29_1 : RR := fun D e m =>
 bp (opLen T 22 (e 0)) m fun x1 m1 =>
 bp (opBin T .lss 3 x1 (.int .i64 1)) m1 fun x2 m2 =>
 some (ups e [(5, e 0), (6, x1), (7, x2)], m2)
def r29_2 : RR := fun D e m =>
 bnd none fun x0 m0 =>
 bnd none fun x1 m1 =>
 some (ups e [(8, x0)], m1)
def r29_3 : RR := fun D e m =>
 bp (opIndexAddr T 22 (e 0) (.int .i64 0)) m fun x1 m1 =>
 bp (opLoad T 3 x1 m1) m1 fun x2 m2 =>
 some (ups e [(9, e 0), (10, x1), (11, x2), (3, x2)], m2)
def r29_4 : RR := fun D e m =>
 some (ups e [(4, .int .i64 1)], m)
def r29_5 : RR := fun D e m =>
 bp (opLen T 22 (e 0)) m fun x2 m2 =>
 bp (opBin T .lss 3 (e 4) x2) m2 fun x3 m3 =>
 some (ups e [(12, e 4), (13, e 0), (14, x2), (15, x3)], m3)
def r29_6 : RR := fun D e m =>
 bp (opIndexAddr T 22 (e 0) (e 4)) m fun x3 m3 =>
 bp (opLoad T 3 x3 m3) m3 fun x4 m4 =>
 bp (opMin [e 3, x4]) m4 fun x5 m5 =>
 some (ups e [(18, e 3), (19, e 0), (20, e 4), (21, x3), (22, x4), (23, x5), (3, x5)], m5)
def r29_7 : RR := fun D e m =>
 bp (opBin T .add 3 (e 4) (.int .i64 1)) m fun x1 m1 =>
 some (ups e [(16, e 4), (17, x1), (4, x1)], m1)
noncomputable def l29_8 : RC := fun D => (sq (sq (rg (r29_5 D)) (cnd (fun e => some (e 15)) sk (exi 0))) (sq (blk 1 (rg (r29_6 D))) (rg (r29_7 D))))
def r29_9 : RR := fun D e m =>
 some (ups e [(24, e 3), (2, e 3)], m)
noncomputable def c29 : RC := fun D => (sq (rg (r29_0 D)) (sq (sq (rg (r29_1 D)) (cnd (fun e => some (e 7)) (rg (r29_2 D)) sk)) (sq (rg (r29_3 D)) (sq (sq (rg (r29_4 D)) (blk 0 (loopD (l29_8 D)))) (sq (rg (r29_9 D)) rt)))))
theorem e29 (a0 : V) (m : Mem) : DD 29 [a0] m = fin (c29 DD) (fun e m => some [e 2]) [a0] m :=
 eOf (f := Tryz.f29) (by kernel_rfl) (by kernel_rfl)
def r30_0 : RR := fun D e m =>
 bnd (opBox (e 0) m) fun x0 m0 =>
 some (ups e [(1, x0), (2, .int .i64 0)], m0)
def r30_1 : RR := fun D e m =>
 bp (opFieldAddr T 27 (e 1) 0) m fun x0 m0 =>
 bp (opLoad T 24 x0 m0) m0 fun x1 m1 =>
 bnd (D 62 [x1] m1) fun x2 m2 =>
 some (ups e [(4, x0), (5, x1), (6, x2), (3, x2)], m2)
def r30_2 : RR := fun D e m =>
 bp (opBin T .neq 33 (e 3) (.int .i64 0)) m fun x1 m1 =>
 some (ups e [(7, e 3), (8, x1)], m1)
def r30_3 : RR := fun D e m =>
 some (ups e [(9, e 3), (2, e 3)], m)
def r30_4 : RR := fun D e m =>
 bp (opFieldAddr T 27 (e 1) 1) m fun x0 m0 =>
 bp (opLoad T 3 x0 m0) m0 fun x1 m1 =>
 bp (opBin T .lss 3 x1 (.int .i64 1)) m1 fun x2 m2 =>
 bg x2 false (lft (opFieldAddr T 27 (e 1) 1) m2) m2 fun x4 m4 =>
 bg x2 false (lft (opLoad T 3 x4 m4) m4) m4 fun x5 m5 =>
 bg x2 false (lft (opBin T .gtr 3 x5 (.int .i64 64)) m5) m5 fun x6 m6 =>
 bnd (pickV x2 (.bool true) x6 m6) fun x7 m7 =>
 some (ups e [(10, x0), (11, x1), (12, x2), (13, x2), (14, x4), (15, x5), (16, x6), (17, x7)], m7)
def r30_5 : RR := fun D e m =>
 some (ups e [(2, .int .i64 4)], m)
def r30_6 : RR := fun D e m =>
 bp (opFieldAddr T 27 (e 1) 0) m fun x0 m0 =>
 bp (opLoad T 24 x0 m0) m0 fun x1 m1 =>
 bp (opFieldAddr T 27 (e 1) 1) m1 fun x2 m2 =>
 bp (opLoad T 3 x2 m2) m2 fun x3 m3 =>
 bp (opFieldAddr T 27 (e 1) 2) m3 fun x4 m4 =>
 bp (opLoad T 25 x4 m4) m4 fun x5 m5 =>
 bp (opBuild T 88 [(0, x3), (1, x5)]) m5 fun x6 m6 =>
 bnd (D 63 [x1, x6] m6) fun x7 m7 =>
 some (ups e [(18, x0), (19, x1), (20, x2), (21, x3), (22, x4), (23, x5), (24, x6), (25, x7), (2, x7)], m7)
noncomputable def c30 : RC := fun D => (sq (rg (r30_0 D)) (sq (rg (r30_1 D)) (sq (sq (rg (r30_2 D)) (cnd (fun e => some (e 8)) (sq (rg (r30_3 D)) rt) sk)) (sq (sq (rg (r30_4 D)) (cnd (fun e => some (e 17)) (sq (rg (r30_5 D)) rt) sk)) (sq (rg (r30_6 D)) rt)))))
theorem e30 (a0 : V) (m : Mem) : DD 30 [a0] m = fin (c30 DD) (fun e m => some [e 2]) [a0] m :=
 eOf (f := Tryz.f30) (by kernel_rfl) (by kernel_rfl)
def r31_0 : RR := fun D e m =>
 bnd (opBox (e 0) m) fun x0 m0 =>
 bnd (opBox (e 2) m0) fun x1 m1 =>
 some (ups e [(3, x0), (5, x1), (6, .int .i64 0)], m1)
def r31_1 : RR := fun D e m =>
 bp (opLoad T 27 (e 3) m) m fun x0 m0 =>
 bnd (D 30 [x0] m0) fun x1 m1 =>
 some (ups e [(8, x0), (9, x1), (7, x1)], m1)
def r31_2 : RR := fun D e m =>
 bp (opBin T .neq 33 (e 7) (.int .i64 0)) m fun x1 m1 =>
 some (ups e [(10, e 7), (11, x1)], m1)
def r31_3 : RR := fun D e m =>
 some (ups e [(12, e 7), (6, e 7)], m)
def r31_4 : RR := fun D e m =>
 bp (opBin T .lss 3 (e 1) (.int .i64 1)) m fun x1 m1 =>
 bg x1 false (some ((e 1), m1)) m1 fun x3 m3 =>
 bg x1 false (lft (opFieldAddr T 27 (e 3) 1) m3) m3 fun x4 m4 =>
 bg x1 false (lft (opLoad T 3 x4 m4) m4) m4 fun x5 m5 =>
 bg x1 false (lft (opBin T .add 3 x5 (.int .i64 1)) m5) m5 fun x6 m6 =>
 bg x1 false (lft (opBin T .gtr 3 x3 x6) m6) m6 fun x7 m7 =>
 bnd (pickV x1 (.bool true) x7 m7) fun x8 m8 =>
 some (ups e [(13, e 1), (14, x1), (15, x1), (16, x3), (17, x4), (18, x5), (19, x6), (20, x7), (21, x8)], m8)
def r31_5 : RR := fun D e m =>
 some (ups e [(6, .int .i64 6)], m)
def r31_6 : RR := fun D e m =>
 bp (opLoad T 27 (e 3) m) m fun x0 m0 =>
 bp (opFieldAddr T 27 (e 3) 2) m0 fun x1 m1 =>
 bp (opLoad T 25 x1 m1) m1 fun x2 m2 =>
 bp (opLen T 25 x2) m2 fun x3 m3 =>
 bp (opBin T .sub 3 (e 1) (.int .i64 1)) m3 fun x5 m5 =>
 bp (opLoad T 29 (e 5) m5) m5 fun x6 m6 =>
 bnd (D 64 [x0, x3, x5, x6] m6) fun x7 m7 =>
 some (ups e [(22, x0), (23, x1), (24, x2), (25, x3), (26, e 1), (27, x5), (28, x6), (29, x7), (6, x7)], m7)
noncomputable def c31 : RC := fun D => (sq (rg (r31_0 D)) (sq (rg (r31_1 D)) (sq (sq (rg (r31_2 D)) (cnd (fun e => some (e 11)) (sq (rg (r31_3 D)) rt) sk)) (sq (sq (rg (r31_4 D)) (cnd (fun e => some (e 21)) (sq (rg (r31_5 D)) rt) sk)) (sq (rg (r31_6 D)) rt)))))
theorem e31 (a0 a1 a2 : V) (m : Mem) : DD 31 [a0, a1, a2] m = fin (c31 DD) (fun e m => some [e 6]) [a0, a1, a2] m :=
 eOf (f := Tryz.f31) (by kernel_rfl) (by kernel_rfl)
def r32_0 : RR := fun D e m =>
 some (ups e [(4, .int .i64 0)], m)
def r32_1 : RR := fun D e m =>
 some (ups e [(5, .int .i64 0)], m)
def r32_2 : RR := fun D e m =>
 some (ups e [(6, .int .i64 0)], m)
def r32_3 : RR := fun D e m =>
 bp (opBin T .leq 3 (e 6) (e 1)) m fun x2 m2 =>
 bg x2 true (some ((e 6), m2)) m2 fun x4 m4 =>
 bg x2 true (some ((e 0), m4)) m4 fun x5 m5 =>
 bg x2 true (lft (opBin T .leq 3 x4 x5) m5) m5 fun x6 m6 =>
 bnd (pickV x2 x6 (.bool false) m6) fun x7 m7 =>
 some (ups e [(9, e 6), (10, e 1), (11, x2), (12, x2), (13, x4), (14, x5), (15, x6), (16, x7)], m7)
def r32_4 : RR := fun D e m =>
 bnd (D 65 [e 0, e 6] m) fun x2 m2 =>
 bnd (extV x2 0 m2) fun x4 m4 =>
 bnd (extV x2 1 m4) fun x5 m5 =>
 some (ups e [(20, e 0), (21, e 6), (22, x2), (19, x2), (23, x4), (24, x5), (7, x4), (8, x5)], m5)
def r32_5 : RR := fun D e m =>
 bp (opMin [e 7, .int .i64 65537]) m fun x2 m2 =>
 bp (opBin T .add 3 (e 5) x2) m2 fun x3 m3 =>
 some (ups e [(25, e 5), (26, e 7), (27, x2), (28, x3), (5, x3)], m3)
def r32_6 : RR := fun D e m =>
 bp (opMin [e 5, .int .i64 65537]) m fun x1 m1 =>
 some (ups e [(29, e 5), (30, x1), (5, x1)], m1)
def r32_7 : RR := fun D e m =>
 bp (opBin T .add 3 (e 6) (.int .i64 1)) m fun x1 m1 =>
 some (ups e [(17, e 6), (18, x1), (6, x1)], m1)
noncomputable def l32_8 : RC := fun D => (sq (sq (rg (r32_3 D)) (cnd (fun e => some (e 16)) sk (exi 0))) (sq (blk 1 (sq (rg (r32_4 D)) (sq (rg (r32_5 D)) (rg (r32_6 D))))) (rg (r32_7 D))))
def r32_9 : RR := fun D e m =>
 some (ups e [(31, e 5), (4, e 5)], m)
noncomputable def c32 : RC := fun D => (sq (rg (r32_0 D)) (sq (rg (r32_1 D)) (sq (sq (rg (r32_2 D)) (blk 0 (loopD (l32_8 D)))) (sq (rg (r32_9 D)) rt))))
theorem e32 (a0 a1 : V) (m : Mem) : DD 32 [a0, a1] m = fin (c32 DD) (fun e m => some [e 4]) [a0, a1] m :=
 eOf (f := Tryz.f32) (by kernel_rfl) (by kernel_rfl)
def r33_0 : RR := fun D e m =>
 bnd (opBox (e 0) m) fun x0 m0 =>
 some (ups e [(1, x0), (2, .int .i64 0)], m0)
def r33_1 : RR := fun D e m =>
 some (ups e [(3, .int .i64 0)], m)
def r33_2 : RR := fun D e m =>
 some (ups e [(4, .int .i64 0)], m)
def r33_3 : RR := fun D e m =>
 bp (opFieldAddr T 31 (e 1) 3) m fun x1 m1 =>
 bp (opLoad T 22 x1 m1) m1 fun x2 m2 =>
 bp (opLen T 22 x2) m2 fun x3 m3 =>
 bp (opBin T .lss 3 (e 4) x3) m3 fun x4 m4 =>
 some (ups e [(5, e 4), (6, x1), (7, x2), (8, x3), (9, x4)], m4)
def r33_4 : RR := fun D e m =>
 bp (opFieldAddr T 31 (e 1) 3) m fun x1 m1 =>
 bp (opLoad T 22 x1 m1) m1 fun x2 m2 =>
 bp (opIndexAddr T 22 x2 (e 4)) m2 fun x4 m4 =>
 bp (opLoad T 3 x4 m4) m4 fun x5 m5 =>
 bp (opBin T .add 3 (e 3) x5) m5 fun x6 m6 =>
 some (ups e [(12, e 3), (13, x1), (14, x2), (15, e 4), (16, x4), (17, x5), (18, x6), (3, x6)], m6)
def r33_5 : RR := fun D e m =>
 bp (opBin T .add 3 (e 4) (.int .i64 1)) m fun x1 m1 =>
 some (ups e [(10, e 4), (11, x1), (4, x1)], m1)
noncomputable def l33_6 : RC := fun D => (sq (sq (rg (r33_3 D)) (cnd (fun e => some (e 9)) sk (exi 0))) (sq (blk 1 (rg (r33_4 D))) (rg (r33_5 D))))
def r33_7 : RR := fun D e m =>
 some (ups e [(19, e 3), (2, e 3)], m)
noncomputable def c33 : RC := fun D => (sq (rg (r33_0 D)) (sq (rg (r33_1 D)) (sq (sq (rg (r33_2 D)) (blk 0 (loopD (l33_6 D)))) (sq (rg (r33_7 D)) rt))))
theorem e33 (a0 : V) (m : Mem) : DD 33 [a0] m = fin (c33 DD) (fun e m => some [e 2]) [a0] m :=
 eOf (f := Tryz.f33) (by kernel_rfl) (by kernel_rfl)
def r45_0 : RR := fun D e m =>
 bnd (opBox (e 0) m) fun x0 m0 =>
 some (ups e [(1, x0), (2, .nilp), (3, .int .i64 0)], m0)
def r45_1 : RR := fun D e m =>
 bp (opLoad T 24 (e 1) m) m fun x0 m0 =>
 bnd (D 77 [x0] m0) fun x1 m1 =>
 bp (opUn .not x1) m1 fun x2 m2 =>
 some (ups e [(9, x0), (10, x1), (11, x2)], m2)
def r45_2 : RR := fun D e m =>
 some (ups e [(2, .nilp), (3, .int .i64 1)], m)
def r45_3 : RR := fun D e m =>
 bp (opFieldAddr T 24 (e 1) 0) m fun x0 m0 =>
 bp (opLoad T 3 x0 m0) m0 fun x1 m1 =>
 bp (opFieldAddr T 24 (e 1) 1) m1 fun x2 m2 =>
 bp (opLoad T 3 x2 m2) m2 fun x3 m3 =>
 bnd (D 78 [x1, x3] m3) fun x4 m4 =>
 some (ups e [(12, x0), (13, x1), (14, x2), (15, x3), (16, x4), (4, x4)], m4)
def r45_4 : RR := fun D e m =>
 bp (opLoad T 24 (e 1) m) m fun x0 m0 =>
 bnd (D 79 [x0, e 4] m0) fun x2 m2 =>
 some (ups e [(17, x0), (18, e 4), (19, x2), (5, x2)], m2)
def r45_5 : RR := fun D e m =>
 bp (opBin T .eql 22 (e 5) .nils) m fun x1 m1 =>
 some (ups e [(20, e 5), (21, x1)], m1)
def r45_6 : RR := fun D e m =>
 some (ups e [(2, .nilp), (3, .int .i64 1)], m)
noncomputable def r45_7 : RR := fun D e m =>
 bp (opFieldAddr T 24 (e 1) 0) m fun x0 m0 =>
 bp (opLoad T 3 x0 m0) m0 fun x1 m1 =>
 bp (opFieldAddr T 24 (e 1) 1) m1 fun x2 m2 =>
 bp (opLoad T 3 x2 m2) m2 fun x3 m3 =>
 bnd (opBuildSlice T 22 0 [] m3) fun x4 m4 =>
 bp (opFieldAddr T 24 (e 1) 2) m4 fun x5 m5 =>
 bp (opLoad T 22 x5 m5) m5 fun x6 m6 =>
 bnd (opAppend T 22 22 x4 x6 m6) fun x7 m7 => chkd m6 m7 (
 bp (opBuild T 24 [(0, x1), (1, x3), (2, x7)]) m7 fun x8 m8 =>
 bnd (opMakeSlice T 22 (e 4) (e 4) m8) fun x12 m12 =>
 bp (opBuild T 107 [(0, x8), (1, e 4), (2, e 5), (3, x12)]) m12 fun x13 m13 =>
 bnd (opBox x13 m13) fun x14 m14 =>
 some (ups e [(22, x0), (23, x1), (24, x2), (25, x3), (26, x4), (27, x5), (28, x6), (29, x7), (30, x8), (31, e 4), (32, e 5), (33, e 4), (34, x12), (35, x13), (36, x14), (6, x14)], m14))
def r45_8 : RR := fun D e m =>
 bp (opLen T 22 (e 5)) m fun x1 m1 =>
 some (ups e [(37, e 5), (38, x1), (39, .int .i64 0)], m1)
def r45_9 : RR := fun D e m =>
 bp (opBin T .lss 3 (e 39) (e 38)) m fun x0 m0 =>
 some (ups e [(40, x0)], m0)
def r45_10 : RR := fun D e m =>
 bp (opIndexAddr T 22 (e 37) (e 39)) m fun x1 m1 =>
 bp (opLoad T 3 x1 m1) m1 fun x2 m2 =>
 some (ups e [(41, e 39), (42, x1), (43, x2), (7, e 39), (8, x2)], m2)
def r45_11 : RR := fun D e m =>
 bnd (nilChk (e 6) m) fun x1 m1 =>
 bp (opFieldAddr T 107 x1 3) m1 fun x2 m2 =>
 bp (opLoad T 22 x2 m2) m2 fun x3 m3 =>
 bp (opIndexAddr T 22 x3 (e 8)) m3 fun x6 m6 =>
 bnd ((opStore T 3 x6 (e 7) m6).map (V.undef, ·)) fun x7 m7 =>
 some (ups e [(44, e 6), (45, x1), (46, x2), (47, x3), (48, e 8), (49, e 7), (50, x6)], m7)
def r45_12 : RR := fun D e m =>
 bp (opBin T .add 3 (e 39) (.int .i64 1)) m fun x0 m0 =>
 some (ups e [(51, x0), (39, x0)], m0)
noncomputable def l45_13 : RC := fun D => (sq (rg (r45_9 D)) (sq (cnd (fun e => some (e 40)) sk (exi 0)) (sq (blk 1 (sq (rg (r45_10 D)) (rg (r45_11 D)))) (rg (r45_12 D)))))
def r45_14 : RR := fun D e m =>
 some (ups e [(52, e 6), (2, e 6), (3, .int .i64 0)], m)
noncomputable def c45 : RC := fun D => (sq (rg (r45_0 D)) (sq (sq (rg (r45_1 D)) (cnd (fun e => some (e 11)) (sq (rg (r45_2 D)) rt) sk)) (sq (rg (r45_3 D)) (sq (rg (r45_4 D)) (sq (sq (rg (r45_5 D)) (cnd (fun e => some (e 21)) (sq (rg (r45_6 D)) rt) sk)) (sq (rg (r45_7 D)) (sq (sq (rg (r45_8 D)) (blk 0 (loopD (l45_13 D)))) (sq (rg (r45_14 D)) rt))))))))
theorem e45 (a0 : V) (m : Mem) : DD 45 [a0] m = fin (c45 DD) (fun e m => some [e 2, e 3]) [a0] m :=
 eOf (f := Tryz.f45) (by kernel_rfl) (by kernel_rfl)
def r48_0 : RR := fun D e m =>
 some (ups e [(4, .bool false)], m)
def r48_1 : RR := fun D e m =>
 bp (opBin T .geq 3 (e 1) (.int .i64 0)) m fun x1 m1 =>
 bg x1 true (some ((e 1), m1)) m1 fun x3 m3 =>
 bg x1 true (some ((e 0), m3)) m3 fun x4 m4 =>
 bg x1 true (nilChk x4 m4) m4 fun x5 m5 =>
 bg x1 true (lft (opFieldAddr T 107 x5 1) m5) m5 fun x6 m6 =>
 bg x1 true (lft (opLoad T 3 x6 m6) m6) m6 fun x7 m7 =>
 bg x1 true (lft (opBin T .lss 3 x3 x7) m7) m7 fun x8 m8 =>
 bnd (pickV x1 x8 (.bool false) m8) fun x9 m9 =>
 some (ups e [(5, e 1), (6, x1), (7, x1), (8, x3), (9, x4), (10, x5), (11, x6), (12, x7), (13, x8), (14, x9), (4, x9)], m9)
noncomputable def c48 : RC := fun D => (sq (rg (r48_0 D)) (sq (rg (r48_1 D)) rt))
theorem e48 (a0 a1 : V) (m : Mem) : DD 48 [a0, a1] m = fin (c48 DD) (fun e m => some [e 4]) [a0, a1] m :=
 eOf (f := Tryz.f48) (by kernel_rfl) (by kernel_rfl)
def r54_0 : RR := fun D e m =>
 bnd (opBox (e 0) m) fun x0 m0 =>
 some (ups e [(3, x0), (6, .int .i64 0)], m0)
def r54_1 : RR := fun D e m =>
 bp (opLoad T 24 (e 3) m) m fun x0 m0 =>
 bnd (D 88 [x0, e 1] m0) fun x2 m2 =>
 some (ups e [(10, x0), (11, e 1), (12, x2), (7, x2)], m2)
def r54_2 : RR := fun D e m =>
 bp (opLoad T 24 (e 3) m) m fun x0 m0 =>
 bnd (D 88 [x0, e 2] m0) fun x2 m2 =>
 some (ups e [(13, x0), (14, e 2), (15, x2), (8, x2)], m2)
def r54_3 : RR := fun D e m =>
 some (ups e [(9, .int .i64 0)], m)
def r54_4 : RR := fun D e m =>
 bp (opLen T 22 (e 7)) m fun x2 m2 =>
 bp (opBin T .lss 3 (e 9) x2) m2 fun x3 m3 =>
 some (ups e [(16, e 9), (17, e 7), (18, x2), (19, x3)], m3)
def r54_5 : RR := fun D e m =>
 bp (opIndexAddr T 22 (e 7) (e 9)) m fun x4 m4 =>
 bp (opLoad T 3 x4 m4) m4 fun x5 m5 =>
 bp (opIndexAddr T 22 (e 8) (e 9)) m5 fun x8 m8 =>
 bp (opLoad T 3 x8 m8) m8 fun x9 m9 =>
 bp (opBin T .add 3 x5 x9) m9 fun x10 m10 =>
 bp (opFieldAddr T 24 (e 3) 0) m10 fun x11 m11 =>
 bp (opLoad T 3 x11 m11) m11 fun x12 m12 =>
 bp (opBin T .rem 3 x10 x12) m12 fun x13 m13 =>
 bp (opIndexAddr T 22 (e 7) (e 9)) m13 fun x14 m14 =>
 bnd ((opStore T 3 x14 x13 m14).map (V.undef, ·)) fun x15 m15 =>
 some (ups e [(22, e 7), (23, e 9), (24, e 7), (25, e 9), (26, x4), (27, x5), (28, e 8), (29, e 9), (30, x8), (31, x9), (32, x10), (33, x11), (34, x12), (35, x13), (36, x14)], m15)
def r54_6 : RR := fun D e m =>
 bp (opBin T .add 3 (e 9) (.int .i64 1)) m fun x1 m1 =>
 some (ups e [(20, e 9), (21, x1), (9, x1)], m1)
noncomputable def l54_7 : RC := fun D => (sq (sq (rg (r54_4 D)) (cnd (fun e => some (e 19)) sk (exi 0))) (sq (blk 1 (rg (r54_5 D))) (rg (r54_6 D))))
def r54_8 : RR := fun D e m =>
 bp (opLoad T 24 (e 3) m) m fun x0 m0 =>
 bnd (D 89 [x0, e 7] m0) fun x2 m2 =>
 some (ups e [(37, x0), (38, e 7), (39, x2), (6, x2)], m2)
noncomputable def c54 : RC := fun D => (sq (rg (r54_0 D)) (sq (rg (r54_1 D)) (sq (rg (r54_2 D)) (sq (sq (rg (r54_3 D)) (blk 0 (loopD (l54_7 D)))) (sq (rg (r54_8 D)) rt)))))
theorem e54 (a0 a1 a2 : V) (m : Mem) : DD 54 [a0, a1, a2] m = fin (c54 DD) (fun e m => some [e 6]) [a0, a1, a2] m :=
 eOf (f := Tryz.f54) (by kernel_rfl) (by kernel_rfl)
def r55_0 : RR := fun D e m =>
 bnd (opBox (e 0) m) fun x0 m0 =>
 some (ups e [(1, x0), (2, .int .i64 0)], m0)
noncomputable def r55_1 : RR := fun D e m =>
 bp (opLoad T 24 (e 1) m) m fun x0 m0 =>
 bnd (D 77 [x0] m0) fun x1 m1 =>
 bp (opUn .not x1) m1 fun x2 m2 =>
 bg x2 false (lft (opLoad T 24 (e 1) m2) m2) m2 fun x4 m4 =>
 bg x2 false (lft (opFieldAddr T 24 (e 1) 0) m4) m4 fun x5 m5 =>
 bg x2 false (lft (opLoad T 3 x5 m5) m5) m5 fun x6 m6 =>
 bg x2 false (lft (opFieldAddr T 24 (e 1) 1) m6) m6 fun x7 m7 =>
 bg x2 false (lft (opLoad T 3 x7 m7) m7) m7 fun x8 m8 =>
 bg x2 false (D 78 [x6, x8] m8) m8 fun x9 m9 => chkd m8 m9 (
 bg x2 false (D 79 [x4, x9] m9) m9 fun x10 m10 =>
 bg x2 false (lft (opBin T .eql 22 x10 .nils) m10) m10 fun x11 m11 =>
 bnd (pickV x2 (.bool true) x11 m11) fun x12 m12 =>
 some (ups e [(3, x0), (4, x1), (5, x2), (6, x2), (7, x4), (8, x5), (9, x6), (10, x7), (11, x8), (12, x9), (13, x10), (14, x11), (15, x12)], m12))
def r55_2 : RR := fun D e m =>
 some (ups e [(2, .int .i64 1)], m)
def r55_3 : RR := fun D e m =>
 some (ups e [(2, .int .i64 0)], m)
noncomputable def c55 : RC := fun D => (sq (rg (r55_0 D)) (sq (sq (rg (r55_1 D)) (cnd (fun e => some (e 15)) (sq (rg (r55_2 D)) rt) sk)) (sq (rg (r55_3 D)) rt)))
theorem e55 (a0 : V) (m : Mem) : DD 55 [a0] m = fin (c55 DD) (fun e m => some [e 2]) [a0] m :=
 eOf (f := Tryz.f55) (by kernel_rfl) (by kernel_rfl)
def r56_0 : RR := fun D e m =>
 some (ups e [(2, .int .i64 0)], m)
def r56_1 : RR := fun D e m =>
 bp (opBin T .lss 3 (e 0) (.int .i64 1)) m fun x1 m1 =>
 bg x1 false (some ((e 0), m1)) m1 fun x3 m3 =>
 bg x1 false (lft (opBin T .gtr 3 x3 (.int .i64 64)) m3) m3 fun x4 m4 =>
 bnd (pickV x1 (.bool true) x4 m4) fun x5 m5 =>
 some (ups e [(3, e 0), (4, x1), (5, x1), (6, x3), (7, x4), (8, x5)], m5)
def r56_2 : RR := fun D e m =>
 some (ups e [(2, .int .i64 4)], m)
def r56_3 : RR := fun D e m =>
 some (ups e [(2, .int .i64 0)], m)
noncomputable def c56 : RC := fun D => (sq (rg (r56_0 D)) (sq (sq (rg (r56_1 D)) (cnd (fun e => some (e 8)) (sq (rg (r56_2 D)) rt) sk)) (sq (rg (r56_3 D)) rt)))
theorem e56 (a0 : V) (m : Mem) : DD 56 [a0] m = fin (c56 DD) (fun e m => some [e 2]) [a0] m :=
 eOf (f := Tryz.f56) (by kernel_rfl) (by kernel_rfl)
def r57_0 : RR := fun D e m =>
 bnd (opBox (e 0) m) fun x0 m0 =>
 bnd (opBox (e 1) m0) fun x1 m1 =>
 some (ups e [(2, x0), (3, x1), (4, .int .i64 0)], m1)
def r57_1 : RR := fun D e m =>
 bp (opLoad T 24 (e 2) m) m fun x0 m0 =>
 bp (opLoad T 88 (e 3) m0) m0 fun x1 m1 =>
 bnd (D 90 [x0, x1] m1) fun x2 m2 =>
 bnd (extV x2 0 m2) fun x4 m4 =>
 bnd (extV x2 1 m4) fun x5 m5 =>
 bnd (opAlloc T 118 m5) fun x6 m6 =>
 bnd ((opStore T 118 x6 x4 m6).map (V.undef, ·)) fun x7 m7 =>
 some (ups e [(8, x0), (9, x1), (10, x2), (7, x2), (11, x4), (12, x5), (5, x6), (6, x5)], m7)
def r57_2 : RR := fun D e m =>
 some (ups e [(13, e 6), (4, e 6)], m)
noncomputable def c57 : RC := fun D => (sq (rg (r57_0 D)) (sq (rg (r57_1 D)) (sq (rg (r57_2 D)) rt)))
theorem e57 (a0 a1 : V) (m : Mem) : DD 57 [a0, a1] m = fin (c57 DD) (fun e m => some [e 4]) [a0, a1] m :=
 eOf (f := Tryz.f57) (by kernel_rfl) (by kernel_rfl)
def r58_0 : RR := fun D e m =>
 bnd (opBox (e 0) m) fun x0 m0 =>
 bnd (opAlloc T 88 m0) fun x1 m1 =>
 some (ups e [(1, x0), (2, x1)], m1)
def r58_1 : RR := fun D e m =>
 bp (opFieldAddr T 27 (e 1) 1) m fun x0 m0 =>
 bp (opLoad T 3 x0 m0) m0 fun x1 m1 =>
 bp (opFieldAddr T 27 (e 1) 2) m1 fun x2 m2 =>
 bp (opLoad T 25 x2 m2) m2 fun x3 m3 =>
 bp (opBuild T 88 [(0, x1), (1, x3)]) m3 fun x4 m4 =>
 bnd ((opStore T 88 (e 2) x4 m4).map (V.undef, ·)) fun x5 m5 =>
 some (ups e [(3, x0), (4, x1), (5, x2), (6, x3), (7, x4)], m5)
noncomputable def c58 : RC := fun D => (sq (rg (r58_0 D)) (sq (rg (r58_1 D)) rt))
theorem e58 (a0 : V) (m : Mem) : DD 58 [a0] m = fin (c58 DD) (fun e m => resVs T e m Tryz.f58.results.toList) [a0] m :=
 eOf (f := Tryz.f58) (by kernel_rfl) (by kernel_rfl)
def r59_0 : RR := fun D e m =>
 bnd (opBox (e 0) m) fun x0 m0 =>
 bnd (opBox (e 3) m0) fun x1 m1 =>
 some (ups e [(4, x0), (7, x1), (8, .int .i64 0)], m1)
def r59_1 : RR := fun D e m =>
 bp (opLoad T 27 (e 4) m) m fun x0 m0 =>
 bnd (D 91 [x0, e 1, e 2] m0) fun x3 m3 =>
 bnd (extV x3 0 m3) fun x5 m5 =>
 bnd (extV x3 1 m5) fun x6 m6 =>
 some (ups e [(12, x0), (13, e 1), (14, e 2), (15, x3), (11, x3), (16, x5), (17, x6), (9, x5), (10, x6)], m6)
def r59_2 : RR := fun D e m =>
 bp (opBin T .neq 33 (e 10) (.int .i64 0)) m fun x1 m1 =>
 some (ups e [(18, e 10), (19, x1)], m1)
def r59_3 : RR := fun D e m =>
 some (ups e [(20, e 10), (8, e 10)], m)
def r59_4 : RR := fun D e m =>
 bp (opLoad T 29 (e 7) m) m fun x1 m1 =>
 bnd (D 92 [e 9, x1] m1) fun x2 m2 =>
 some (ups e [(21, e 9), (22, x1), (23, x2), (8, x2)], m2)
noncomputable def c59 : RC := fun D => (sq (rg (r59_0 D)) (sq (rg (r59_1 D)) (sq (sq (rg (r59_2 D)) (cnd (fun e => some (e 19)) (sq (rg (r59_3 D)) rt) sk)) (sq (rg (r59_4 D)) rt))))
theorem e59 (a0 a1 a2 a3 : V) (m : Mem) : DD 59 [a0, a1, a2, a3] m = fin (c59 DD) (fun e m => some [e 8]) [a0, a1, a2, a3] m :=
 eOf (f := Tryz.f59) (by kernel_rfl) (by kernel_rfl)
def r60_0 : RR := fun D e m =>
 bnd (opBox (e 0) m) fun x0 m0 =>
 some (ups e [(2, x0), (4, .int .i64 0)], m0)
def r60_1 : RR := fun D e m =>
 bp (opBin T .lss 3 (e 1) (.int .i64 1)) m fun x1 m1 =>
 bg x1 false (some ((e 1), m1)) m1 fun x3 m3 =>
 bg x1 false (lft (opFieldAddr T 27 (e 2) 1) m3) m3 fun x4 m4 =>
 bg x1 false (lft (opLoad T 3 x4 m4) m4) m4 fun x5 m5 =>
 bg x1 false (lft (opBin T .add 3 x5 (.int .i64 1)) m5) m5 fun x6 m6 =>
 bg x1 false (lft (opBin T .gtr 3 x3 x6) m6) m6 fun x7 m7 =>
 bnd (pickV x1 (.bool true) x7 m7) fun x8 m8 =>
 some (ups e [(5, e 1), (6, x1), (7, x1), (8, x3), (9, x4), (10, x5), (11, x6), (12, x7), (13, x8)], m8)
def r60_2 : RR := fun D e m =>
 some (ups e [(4, (.int .i64 (-1)))], m)
def r60_3 : RR := fun D e m =>
 bp (opBin T .sub 3 (e 1) (.int .i64 1)) m fun x1 m1 =>
 some (ups e [(14, e 1), (15, x1), (4, x1)], m1)
noncomputable def c60 : RC := fun D => (sq (rg (r60_0 D)) (sq (sq (rg (r60_1 D)) (cnd (fun e => some (e 13)) (sq (rg (r60_2 D)) rt) sk)) (sq (rg (r60_3 D)) rt)))
theorem e60 (a0 a1 : V) (m : Mem) : DD 60 [a0, a1] m = fin (c60 DD) (fun e m => some [e 4]) [a0, a1] m :=
 eOf (f := Tryz.f60) (by kernel_rfl) (by kernel_rfl)
def r61_0 : RR := fun D e m =>
 some (ups e [(4, .int .i64 0)], m)
def r61_1 : RR := fun D e m =>
 bp (opBin T .lss 3 (e 1) (.int .i64 0)) m fun x1 m1 =>
 bg x1 false (some ((e 1), m1)) m1 fun x3 m3 =>
 bg x1 false (some ((e 0), m3)) m3 fun x4 m4 =>
 bg x1 false (lft (opBin T .gtr 3 x3 x4) m4) m4 fun x5 m5 =>
 bnd (pickV x1 (.bool true) x5 m5) fun x6 m6 =>
 some (ups e [(8, e 1), (9, x1), (10, x1), (11, x3), (12, x4), (13, x5), (14, x6)], m6)
def r61_2 : RR := fun D e m =>
 some (ups e [(4, .int .i64 0)], m)
def r61_3 : RR := fun D e m =>
 bp (opBin T .add 3 (e 0) (.int .i64 1)) m fun x1 m1 =>
 bnd (opMakeSlice T 22 x1 x1 m1) fun x2 m2 =>
 some (ups e [(15, e 0), (16, x1), (17, x2), (5, x2)], m2)
def r61_4 : RR := fun D e m =>
 bp (opIndexAddr T 22 (e 5) (.int .i64 0)) m fun x1 m1 =>
 bnd ((opStore T 3 x1 (.int .i64 1) m1).map (V.undef, ·)) fun x2 m2 =>
 some (ups e [(18, e 5), (19, x1)], m2)
def r61_5 : RR := fun D e m =>
 some (ups e [(6, .int .i64 1)], m)
def r61_6 : RR := fun D e m =>
 bp (opBin T .leq 3 (e 6) (e 0)) m fun x2 m2 =>
 some (ups e [(20, e 6), (21, e 0), (22, x2)], m2)
def r61_7 : RR := fun D e m =>
 some (ups e [(25, e 6), (7, e 6)], m)
def r61_8 : RR := fun D e m =>
 bp (opBin T .gtr 3 (e 7) (.int .i64 0)) m fun x1 m1 =>
 some (ups e [(26, e 7), (27, x1)], m1)
def r61_9 : RR := fun D e m =>
 bp (opIndexAddr T 22 (e 5) (e 7)) m fun x2 m2 =>
 bp (opLoad T 3 x2 m2) m2 fun x3 m3 =>
 bp (opBin T .sub 3 (e 7) (.int .i64 1)) m3 fun x6 m6 =>
 bp (opIndexAddr T 22 (e 5) x6) m6 fun x7 m7 =>
 bp (opLoad T 3 x7 m7) m7 fun x8 m8 =>
 bp (opBin T .add 3 x3 x8) m8 fun x9 m9 =>
 bp (opIndexAddr T 22 (e 5) (e 7)) m9 fun x10 m10 =>
 bnd ((opStore T 3 x10 x9 m10).map (V.undef, ·)) fun x11 m11 =>
 some (ups e [(30, e 5), (31, e 7), (32, x2), (33, x3), (34, e 5), (35, e 7), (36, x6), (37, x7), (38, x8), (39, x9), (40, x10)], m11)
def r61_10 : RR := fun D e m =>
 bp (opBin T .sub 3 (e 7) (.int .i64 1)) m fun x1 m1 =>
 some (ups e [(28, e 7), (29, x1), (7, x1)], m1)
noncomputable def l61_11 : RC := fun D => (sq (sq (rg (r61_8 D)) (cnd (fun e => some (e 27)) sk (exi 2))) (sq (blk 3 (rg (r61_9 D))) (rg (r61_10 D))))
def r61_12 : RR := fun D e m =>
 bp (opBin T .add 3 (e 6) (.int .i64 1)) m fun x1 m1 =>
 some (ups e [(23, e 6), (24, x1), (6, x1)], m1)
noncomputable def l61_13 : RC := fun D => (sq (sq (rg (r61_6 D)) (cnd (fun e => some (e 22)) sk (exi 0))) (sq (blk 1 (sq (rg (r61_7 D)) (blk 2 (loopD (l61_11 D))))) (rg (r61_12 D))))
def r61_14 : RR := fun D e m =>
 bp (opIndexAddr T 22 (e 5) (e 1)) m fun x2 m2 =>
 bp (opLoad T 3 x2 m2) m2 fun x3 m3 =>
 some (ups e [(41, e 5), (42, e 1), (43, x2), (44, x3), (4, x3)], m3)
noncomputable def c61 : RC := fun D => (sq (rg (r61_0 D)) (sq (sq (rg (r61_1 D)) (cnd (fun e => some (e 14)) (sq (rg (r61_2 D)) rt) sk)) (sq (rg (r61_3 D)) (sq (rg (r61_4 D)) (sq (sq (rg (r61_5 D)) (blk 0 (loopD (l61_13 D)))) (sq (rg (r61_14 D)) rt))))))
theorem e61 (a0 a1 : V) (m : Mem) : DD 61 [a0, a1] m = fin (c61 DD) (fun e m => some [e 4]) [a0, a1] m :=
 eOf (f := Tryz.f61) (by kernel_rfl) (by kernel_rfl)
def r62_0 : RR := fun D e m =>
 bnd (opBox (e 0) m) fun x0 m0 =>
 some (ups e [(1, x0), (2, .int .i64 0)], m0)
def r62_1 : RR := fun D e m =>
 bp (opLoad T 24 (e 1) m) m fun x0 m0 =>
 bnd (D 93 [x0] m0) fun x1 m1 =>
 bp (opBin T .eql 3 x1 (.int .i64 0)) m1 fun x2 m2 =>
 bg x2 false (lft (opFieldAddr T 24 (e 1) 0) m2) m2 fun x4 m4 =>
 bg x2 false (lft (opLoad T 3 x4 m4) m4) m4 fun x5 m5 =>
 bg x2 false (D 94 [x5] m5) m5 fun x6 m6 =>
 bg x2 false (lft (opUn .not x6) m6) m6 fun x7 m7 =>
 bnd (pickV x2 (.bool true) x7 m7) fun x8 m8 =>
 some (ups e [(4, x0), (5, x1), (6, x2), (7, x2), (8, x4), (9, x5), (10, x6), (11, x7), (12, x8)], m8)
def r62_2 : RR := fun D e m =>
 some (ups e [(2, .int .i64 1)], m)
def r62_3 : RR := fun D e m =>
 bp (opFieldAddr T 24 (e 1) 1) m fun x0 m0 =>
 bp (opLoad T 3 x0 m0) m0 fun x1 m1 =>
 bp (opBin T .eql 3 x1 (.int .i64 1)) m1 fun x2 m2 =>
 some (ups e [(13, x0), (14, x1), (15, x2)], m2)
def r62_4 : RR := fun D e m =>
 bp (opFieldAddr T 24 (e 1) 2) m fun x0 m0 =>
 bp (opLoad T 22 x0 m0) m0 fun x1 m1 =>
 bp (opLen T 22 x1) m1 fun x2 m2 =>
 bp (opBin T .neq 3 x2 (.int .i64 0)) m2 fun x3 m3 =>
 some (ups e [(16, x0), (17, x1), (18, x2), (19, x3)], m3)
def r62_5 : RR := fun D e m =>
 some (ups e [(2, .int .i64 1)], m)
def r62_6 : RR := fun D e m =>
 some (ups e [(2, .int .i64 0)], m)
def r62_7 : RR := fun D e m =>
 bp (opFieldAddr T 24 (e 1) 2) m fun x0 m0 =>
 bp (opLoad T 22 x0 m0) m0 fun x1 m1 =>
 bp (opLen T 22 x1) m1 fun x2 m2 =>
 bp (opFieldAddr T 24 (e 1) 1) m2 fun x3 m3 =>
 bp (opLoad T 3 x3 m3) m3 fun x4 m4 =>
 bp (opBin T .neq 3 x2 x4) m4 fun x5 m5 =>
 some (ups e [(20, x0), (21, x1), (22, x2), (23, x3), (24, x4), (25, x5)], m5)
def r62_8 : RR := fun D e m =>
 some (ups e [(2, .int .i64 1)], m)
def r62_9 : RR := fun D e m =>
 some (ups e [(3, .int .i64 0)], m)
def r62_10 : RR := fun D e m =>
 bp (opFieldAddr T 24 (e 1) 1) m fun x1 m1 =>
 bp (opLoad T 3 x1 m1) m1 fun x2 m2 =>
 bp (opBin T .lss 3 (e 3) x2) m2 fun x3 m3 =>
 some (ups e [(26, e 3), (27, x1), (28, x2), (29, x3)], m3)
def r62_11 : RR := fun D e m =>
 bp (opFieldAddr T 24 (e 1) 2) m fun x0 m0 =>
 bp (opLoad T 22 x0 m0) m0 fun x1 m1 =>
 bp (opIndexAddr T 22 x1 (e 3)) m1 fun x3 m3 =>
 bp (opLoad T 3 x3 m3) m3 fun x4 m4 =>
 bp (opBin T .lss 3 x4 (.int .i64 0)) m4 fun x5 m5 =>
 bg x5 false (lft (opFieldAddr T 24 (e 1) 2) m5) m5 fun x7 m7 =>
 bg x5 false (lft (opLoad T 22 x7 m7) m7) m7 fun x8 m8 =>
 bg x5 false (some ((e 3), m8)) m8 fun x9 m9 =>
 bg x5 false (lft (opIndexAddr T 22 x8 x9) m9) m9 fun x10 m10 =>
 bg x5 false (lft (opLoad T 3 x10 m10) m10) m10 fun x11 m11 =>
 bg x5 false (lft (opFieldAddr T 24 (e 1) 0) m11) m11 fun x12 m12 =>
 bg x5 false (lft (opLoad T 3 x12 m12) m12) m12 fun x13 m13 =>
 bg x5 false (lft (opBin T .geq 3 x11 x13) m13) m13 fun x14 m14 =>
 bnd (pickV x5 (.bool true) x14 m14) fun x15 m15 =>
 some (ups e [(32, x0), (33, x1), (34, e 3), (35, x3), (36, x4), (37, x5), (38, x5), (39, x7), (40, x8), (41, x9), (42, x10), (43, x11), (44, x12), (45, x13), (46, x14), (47, x15)], m15)
def r62_12 : RR := fun D e m =>
 some (ups e [(2, .int .i64 1)], m)
def r62_13 : RR := fun D e m =>
 bp (opBin T .add 3 (e 3) (.int .i64 1)) m fun x1 m1 =>
 some (ups e [(30, e 3), (31, x1), (3, x1)], m1)
noncomputable def l62_14 : RC := fun D => (sq (sq (rg (r62_10 D)) (cnd (fun e => some (e 29)) sk (exi 0))) (sq (blk 1 (sq (rg (r62_11 D)) (cnd (fun e => some (e 47)) (sq (rg (r62_12 D)) rt) sk))) (rg (r62_13 D))))
def r62_15 : RR := fun D e m =>
 bp (opFieldAddr T 24 (e 1) 2) m fun x0 m0 =>
 bp (opLoad T 22 x0 m0) m0 fun x1 m1 =>
 bp (opFieldAddr T 24 (e 1) 0) m1 fun x2 m2 =>
 bp (opLoad T 3 x2 m2) m2 fun x3 m3 =>
 bnd (D 95 [x1, x3] m3) fun x4 m4 =>
 bp (opUn .not x4) m4 fun x5 m5 =>
 some (ups e [(48, x0), (49, x1), (50, x2), (51, x3), (52, x4), (53, x5)], m5)
def r62_16 : RR := fun D e m =>
 some (ups e [(2, .int .i64 1)], m)
def r62_17 : RR := fun D e m =>
 some (ups e [(2, .int .i64 0)], m)
noncomputable def c62 : RC := fun D => (sq (rg (r62_0 D)) (sq (sq (rg (r62_1 D)) (cnd (fun e => some (e 12)) (sq (rg (r62_2 D)) rt) sk)) (sq (sq (rg (r62_3 D)) (cnd (fun e => some (e 15)) (sq (sq (rg (r62_4 D)) (cnd (fun e => some (e 19)) (sq (rg (r62_5 D)) rt) sk)) (sq (rg (r62_6 D)) rt)) sk)) (sq (sq (rg (r62_7 D)) (cnd (fun e => some (e 25)) (sq (rg (r62_8 D)) rt) sk)) (sq (sq (rg (r62_9 D)) (blk 0 (loopD (l62_14 D)))) (sq (sq (rg (r62_15 D)) (cnd (fun e => some (e 53)) (sq (rg (r62_16 D)) rt) sk)) (sq (rg (r62_17 D)) rt)))))))
theorem e62 (a0 : V) (m : Mem) : DD 62 [a0] m = fin (c62 DD) (fun e m => some [e 2]) [a0] m :=
 eOf (f := Tryz.f62) (by kernel_rfl) (by kernel_rfl)
def r63_0 : RR := fun D e m =>
 bnd (opBox (e 0) m) fun x0 m0 =>
 bnd (opBox (e 1) m0) fun x1 m1 =>
 some (ups e [(2, x0), (3, x1), (4, .int .i64 0)], m1)
def r63_1 : RR := fun D e m =>
 bp (opLoad T 24 (e 2) m) m fun x0 m0 =>
 bp (opLoad T 88 (e 3) m0) m0 fun x1 m1 =>
 bnd (D 96 [x0, x1] m1) fun x2 m2 =>
 some (ups e [(8, x0), (9, x1), (10, x2), (5, x2)], m2)
def r63_2 : RR := fun D e m =>
 bp (opBin T .neq 33 (e 5) (.int .i64 0)) m fun x1 m1 =>
 some (ups e [(11, e 5), (12, x1)], m1)
def r63_3 : RR := fun D e m =>
 some (ups e [(13, e 5), (4, e 5)], m)
def r63_4 : RR := fun D e m =>
 bp (opLoad T 24 (e 2) m) m fun x0 m0 =>
 bp (opFieldAddr T 88 (e 3) 1) m0 fun x1 m1 =>
 bp (opLoad T 25 x1 m1) m1 fun x2 m2 =>
 bp (opFieldAddr T 88 (e 3) 0) m2 fun x3 m3 =>
 bp (opLoad T 3 x3 m3) m3 fun x4 m4 =>
 bnd (D 97 [x0, x2, x4] m4) fun x5 m5 =>
 bnd (extV x5 0 m5) fun x7 m7 =>
 bnd (extV x5 1 m7) fun x8 m8 =>
 some (ups e [(15, x0), (16, x1), (17, x2), (18, x3), (19, x4), (20, x5), (14, x5), (21, x7), (22, x8), (6, x7), (7, x8)], m8)
def r63_5 : RR := fun D e m =>
 bp (opFieldAddr T 88 (e 3) 1) m fun x1 m1 =>
 bp (opLoad T 25 x1 m1) m1 fun x2 m2 =>
 bnd (D 98 [e 6, x2] m2) fun x3 m3 =>
 bp (opUn .not x3) m3 fun x4 m4 =>
 some (ups e [(23, e 6), (24, x1), (25, x2), (26, x3), (27, x4)], m4)
def r63_6 : RR := fun D e m =>
 some (ups e [(4, .int .i64 5)], m)
def r63_7 : RR := fun D e m =>
 some (ups e [(4, .int .i64 0)], m)
noncomputable def c63 : RC := fun D => (sq (rg (r63_0 D)) (sq (rg (r63_1 D)) (sq (sq (rg (r63_2 D)) (cnd (fun e => some (e 12)) (sq (rg (r63_3 D)) rt) sk)) (sq (rg (r63_4 D)) (sq (sq (rg (r63_5 D)) (cnd (fun e => some (e 27)) (sq (rg (r63_6 D)) rt) sk)) (sq (rg (r63_7 D)) rt))))))
theorem e63 (a0 a1 : V) (m : Mem) : DD 63 [a0, a1] m = fin (c63 DD) (fun e m => some [e 4]) [a0, a1] m :=
 eOf (f := Tryz.f63) (by kernel_rfl) (by kernel_rfl)
def r64_0 : RR := fun D e m =>
 bnd (opBox (e 0) m) fun x0 m0 =>
 bnd (opBox (e 3) m0) fun x1 m1 =>
 some (ups e [(4, x0), (7, x1), (8, .int .i64 0)], m1)
def r64_1 : RR := fun D e m =>
 bp (opLoad T 27 (e 4) m) m fun x0 m0 =>
 bnd (D 99 [x0, e 1, e 2] m0) fun x3 m3 =>
 some (ups e [(10, x0), (11, e 1), (12, e 2), (13, x3), (9, x3)], m3)
def r64_2 : RR := fun D e m =>
 bp (opBin T .neq 33 (e 9) (.int .i64 0)) m fun x1 m1 =>
 some (ups e [(14, e 9), (15, x1)], m1)
def r64_3 : RR := fun D e m =>
 some (ups e [(16, e 9), (8, e 9)], m)
def r64_4 : RR := fun D e m =>
 bp (opLoad T 27 (e 4) m) m fun x0 m0 =>
 bp (opBuild T 130 [(0, x0), (1, e 1), (2, e 2)]) m0 fun x3 m3 =>
 bp (opLoad T 29 (e 7) m3) m3 fun x4 m4 =>
 bnd (D 100 [x3, x4] m4) fun x5 m5 =>
 some (ups e [(17, x0), (18, e 1), (19, e 2), (20, x3), (21, x4), (22, x5), (8, x5)], m5)
noncomputable def c64 : RC := fun D => (sq (rg (r64_0 D)) (sq (rg (r64_1 D)) (sq (sq (rg (r64_2 D)) (cnd (fun e => some (e 15)) (sq (rg (r64_3 D)) rt) sk)) (sq (rg (r64_4 D)) rt))))
theorem e64 (a0 a1 a2 a3 : V) (m : Mem) : DD 64 [a0, a1, a2, a3] m = fin (c64 DD) (fun e m => some [e 8]) [a0, a1, a2, a3] m :=
 eOf (f := Tryz.f64) (by kernel_rfl) (by kernel_rfl)
def r65_0 : RR := fun D e m =>
 some (ups e [(4, .int .i64 0), (5, .int .i64 0)], m)
def r65_1 : RR := fun D e m =>
 bp (opBin T .lss 3 (e 0) (.int .i64 0)) m fun x1 m1 =>
 bg x1 false (some ((e 0), m1)) m1 fun x3 m3 =>
 bg x1 false (lft (opBin T .gtr 3 x3 (.int .i64 64)) m3) m3 fun x4 m4 =>
 bnd (pickV x1 (.bool true) x4 m4) fun x5 m5 =>
 some (ups e [(9, e 0), (10, x1), (11, x1), (12, x3), (13, x4), (14, x5)], m5)
def r65_2 : RR := fun D e m =>
 some (ups e [(4, .int .i64 0), (5, .int .i64 6)], m)
def r65_3 : RR := fun D e m =>
 bp (opBin T .lss 3 (e 1) (.int .i64 0)) m fun x1 m1 =>
 bg x1 false (some ((e 1), m1)) m1 fun x3 m3 =>
 bg x1 false (some ((e 0), m3)) m3 fun x4 m4 =>
 bg x1 false (lft (opBin T .gtr 3 x3 x4) m4) m4 fun x5 m5 =>
 bnd (pickV x1 (.bool true) x5 m5) fun x6 m6 =>
 some (ups e [(15, e 1), (16, x1), (17, x1), (18, x3), (19, x4), (20, x5), (21, x6)], m6)
def r65_4 : RR := fun D e m =>
 some (ups e [(4, .int .i64 0), (5, .int .i64 0)], m)
def r65_5 : RR := fun D e m =>
 bp (opBin T .add 3 (e 0) (.int .i64 1)) m fun x1 m1 =>
 bnd (opMakeSlice T 22 x1 x1 m1) fun x2 m2 =>
 some (ups e [(22, e 0), (23, x1), (24, x2), (6, x2)], m2)
def r65_6 : RR := fun D e m =>
 bp (opIndexAddr T 22 (e 6) (.int .i64 0)) m fun x1 m1 =>
 bnd ((opStore T 3 x1 (.int .i64 1) m1).map (V.undef, ·)) fun x2 m2 =>
 some (ups e [(25, e 6), (26, x1)], m2)
def r65_7 : RR := fun D e m =>
 some (ups e [(7, .int .i64 1)], m)
def r65_8 : RR := fun D e m =>
 bp (opBin T .leq 3 (e 7) (e 0)) m fun x2 m2 =>
 some (ups e [(27, e 7), (28, e 0), (29, x2)], m2)
def r65_9 : RR := fun D e m =>
 some (ups e [(32, e 7), (8, e 7)], m)
def r65_10 : RR := fun D e m =>
 bp (opBin T .geq 3 (e 8) (.int .i64 1)) m fun x1 m1 =>
 some (ups e [(33, e 8), (34, x1)], m1)
def r65_11 : RR := fun D e m =>
 bp (opIndexAddr T 22 (e 6) (e 8)) m fun x2 m2 =>
 bp (opLoad T 3 x2 m2) m2 fun x3 m3 =>
 bp (opBin T .sub 3 (e 8) (.int .i64 1)) m3 fun x6 m6 =>
 bp (opIndexAddr T 22 (e 6) x6) m6 fun x7 m7 =>
 bp (opLoad T 3 x7 m7) m7 fun x8 m8 =>
 bp (opBin T .add 3 x3 x8) m8 fun x9 m9 =>
 bp (opIndexAddr T 22 (e 6) (e 8)) m9 fun x10 m10 =>
 bnd ((opStore T 3 x10 x9 m10).map (V.undef, ·)) fun x11 m11 =>
 some (ups e [(37, e 6), (38, e 8), (39, x2), (40, x3), (41, e 6), (42, e 8), (43, x6), (44, x7), (45, x8), (46, x9), (47, x10)], m11)
def r65_12 : RR := fun D e m =>
 bp (opBin T .sub 3 (e 8) (.int .i64 1)) m fun x1 m1 =>
 some (ups e [(35, e 8), (36, x1), (8, x1)], m1)
noncomputable def l65_13 : RC := fun D => (sq (sq (rg (r65_10 D)) (cnd (fun e => some (e 34)) sk (exi 2))) (sq (blk 3 (rg (r65_11 D))) (rg (r65_12 D))))
def r65_14 : RR := fun D e m =>
 bp (opBin T .add 3 (e 7) (.int .i64 1)) m fun x1 m1 =>
 some (ups e [(30, e 7), (31, x1), (7, x1)], m1)
noncomputable def l65_15 : RC := fun D => (sq (sq (rg (r65_8 D)) (cnd (fun e => some (e 29)) sk (exi 0))) (sq (blk 1 (sq (rg (r65_9 D)) (blk 2 (loopD (l65_13 D))))) (rg (r65_14 D))))
def r65_16 : RR := fun D e m =>
 bp (opIndexAddr T 22 (e 6) (e 1)) m fun x2 m2 =>
 bp (opLoad T 3 x2 m2) m2 fun x3 m3 =>
 some (ups e [(48, e 6), (49, e 1), (50, x2), (51, x3), (4, x3), (5, .int .i64 0)], m3)
noncomputable def c65 : RC := fun D => (sq (rg (r65_0 D)) (sq (sq (rg (r65_1 D)) (cnd (fun e => some (e 14)) (sq (rg (r65_2 D)) rt) sk)) (sq (sq (rg (r65_3 D)) (cnd (fun e => some (e 21)) (sq (rg (r65_4 D)) rt) sk)) (sq (rg (r65_5 D)) (sq (rg (r65_6 D)) (sq (sq (rg (r65_7 D)) (blk 0 (loopD (l65_15 D)))) (sq (rg (r65_16 D)) rt)))))))
theorem e65 (a0 a1 : V) (m : Mem) : DD 65 [a0, a1] m = fin (c65 DD) (fun e m => some [e 4, e 5]) [a0, a1] m :=
 eOf (f := Tryz.f65) (by kernel_rfl) (by kernel_rfl)
def r74_0 : RR := fun D e m =>
 bnd (opBox (e 0) m) fun x0 m0 =>
 some (ups e [(2, x0), (4, .bool false)], m0)
def r74_1 : RR := fun D e m =>
 bp (opBin T .geq 3 (e 1) (.int .i64 0)) m fun x1 m1 =>
 bg x1 true (some ((e 1), m1)) m1 fun x3 m3 =>
 bg x1 true (lft (opLoad T 24 (e 2) m3) m3) m3 fun x4 m4 =>
 bg x1 true (D 93 [x4] m4) m4 fun x5 m5 =>
 bg x1 true (lft (opBin T .lss 3 x3 x5) m5) m5 fun x6 m6 =>
 bnd (pickV x1 x6 (.bool false) m6) fun x7 m7 =>
 some (ups e [(5, e 1), (6, x1), (7, x1), (8, x3), (9, x4), (10, x5), (11, x6), (12, x7), (4, x7)], m7)
noncomputable def c74 : RC := fun D => (sq (rg (r74_0 D)) (sq (rg (r74_1 D)) rt))
theorem e74 (a0 a1 : V) (m : Mem) : DD 74 [a0, a1] m = fin (c74 DD) (fun e m => some [e 4]) [a0, a1] m :=
 eOf (f := Tryz.f74) (by kernel_rfl) (by kernel_rfl)
def r75_0 : RR := fun D e m =>
 bnd (opBox (e 0) m) fun x0 m0 =>
 some (ups e [(4, x0), (8, .nils)], m0)
def r75_1 : RR := fun D e m =>
 bp (opLen T 22 (e 1)) m fun x1 m1 =>
 bnd (opMakeSlice T 22 x1 x1 m1) fun x2 m2 =>
 some (ups e [(11, e 1), (12, x1), (13, x2), (9, x2)], m2)
def r75_2 : RR := fun D e m =>
 some (ups e [(10, .int .i64 0)], m)
def r75_3 : RR := fun D e m =>
 bp (opLen T 22 (e 1)) m fun x2 m2 =>
 bp (opBin T .lss 3 (e 10) x2) m2 fun x3 m3 =>
 some (ups e [(14, e 10), (15, e 1), (16, x2), (17, x3)], m3)
def r75_4 : RR := fun D e m =>
 bp (opIndexAddr T 22 (e 1) (e 10)) m fun x4 m4 =>
 bp (opLoad T 3 x4 m4) m4 fun x5 m5 =>
 bp (opIndexAddr T 22 (e 9) (e 10)) m5 fun x6 m6 =>
 bnd ((opStore T 3 x6 x5 m6).map (V.undef, ·)) fun x7 m7 =>
 some (ups e [(20, e 9), (21, e 10), (22, e 1), (23, e 10), (24, x4), (25, x5), (26, x6)], m7)
def r75_5 : RR := fun D e m =>
 bp (opIndexAddr T 22 (e 3) (e 10)) m fun x2 m2 =>
 bp (opLoad T 3 x2 m2) m2 fun x3 m3 =>
 bp (opBin T .neq 3 x3 (.int .i64 0)) m3 fun x4 m4 =>
 some (ups e [(27, e 3), (28, e 10), (29, x2), (30, x3), (31, x4)], m4)
noncomputable def r75_6 : RR := fun D e m =>
 bp (opLoad T 24 (e 4) m) m fun x2 m2 =>
 bp (opIndexAddr T 22 (e 1) (e 10)) m2 fun x5 m5 =>
 bp (opLoad T 3 x5 m5) m5 fun x6 m6 =>
 bp (opLoad T 24 (e 4) m6) m6 fun x7 m7 =>
 bp (opIndexAddr T 22 (e 3) (e 10)) m7 fun x11 m11 =>
 bp (opLoad T 3 x11 m11) m11 fun x12 m12 =>
 bnd (D 115 [x7, e 2, x12] m12) fun x13 m13 => chkd m12 m13 (
 bnd (D 54 [x2, x6, x13] m13) fun x14 m14 =>
 bp (opIndexAddr T 22 (e 9) (e 10)) m14 fun x15 m15 =>
 bnd ((opStore T 3 x15 x14 m15).map (V.undef, ·)) fun x16 m16 =>
 some (ups e [(32, e 9), (33, e 10), (34, x2), (35, e 1), (36, e 10), (37, x5), (38, x6), (39, x7), (40, e 2), (41, e 3), (42, e 10), (43, x11), (44, x12), (45, x13), (46, x14), (47, x15)], m16))
def r75_7 : RR := fun D e m =>
 bp (opBin T .add 3 (e 10) (.int .i64 1)) m fun x1 m1 =>
 some (ups e [(18, e 10), (19, x1), (10, x1)], m1)
noncomputable def l75_8 : RC := fun D => (sq (sq (rg (r75_3 D)) (cnd (fun e => some (e 17)) sk (exi 0))) (sq (blk 1 (sq (rg (r75_4 D)) (sq (rg (r75_5 D)) (cnd (fun e => some (e 31)) (rg (r75_6 D)) sk)))) (rg (r75_7 D))))
def r75_9 : RR := fun D e m =>
 some (ups e [(48, e 9), (8, e 9)], m)
noncomputable def c75 : RC := fun D => (sq (rg (r75_0 D)) (sq (rg (r75_1 D)) (sq (sq (rg (r75_2 D)) (blk 0 (loopD (l75_8 D)))) (sq (rg (r75_9 D)) rt))))
theorem e75 (a0 a1 a2 a3 : V) (m : Mem) : DD 75 [a0, a1, a2, a3] m = fin (c75 DD) (fun e m => some [e 8]) [a0, a1, a2, a3] m :=
 eOf (f := Tryz.f75) (by kernel_rfl) (by kernel_rfl)
def r77_0 : RR := fun D e m =>
 bnd (opBox (e 0) m) fun x0 m0 =>
 some (ups e [(1, x0), (2, .bool false)], m0)
def r77_1 : RR := fun D e m =>
 bp (opFieldAddr T 24 (e 1) 0) m fun x0 m0 =>
 bp (opLoad T 3 x0 m0) m0 fun x1 m1 =>
 bp (opFieldAddr T 24 (e 1) 1) m1 fun x2 m2 =>
 bp (opLoad T 3 x2 m2) m2 fun x3 m3 =>
 bnd (D 78 [x1, x3] m3) fun x4 m4 =>
 bp (opBin T .eql 3 x4 (.int .i64 0)) m4 fun x5 m5 =>
 bg x5 false (lft (opFieldAddr T 24 (e 1) 0) m5) m5 fun x7 m7 =>
 bg x5 false (lft (opLoad T 3 x7 m7) m7) m7 fun x8 m8 =>
 bg x5 false (D 116 [x8] m8) m8 fun x9 m9 =>
 bg x5 false (lft (opUn .not x9) m9) m9 fun x10 m10 =>
 bnd (pickV x5 (.bool true) x10 m10) fun x11 m11 =>
 some (ups e [(5, x0), (6, x1), (7, x2), (8, x3), (9, x4), (10, x5), (11, x5), (12, x7), (13, x8), (14, x9), (15, x10), (16, x11)], m11)
def r77_2 : RR := fun D e m =>
 some (ups e [(2, .bool false)], m)
def r77_3 : RR := fun D e m =>
 bp (opFieldAddr T 24 (e 1) 1) m fun x0 m0 =>
 bp (opLoad T 3 x0 m0) m0 fun x1 m1 =>
 bp (opBin T .eql 3 x1 (.int .i64 1)) m1 fun x2 m2 =>
 some (ups e [(17, x0), (18, x1), (19, x2)], m2)
def r77_4 : RR := fun D e m =>
 bp (opFieldAddr T 24 (e 1) 2) m fun x0 m0 =>
 bp (opLoad T 22 x0 m0) m0 fun x1 m1 =>
 bp (opLen T 22 x1) m1 fun x2 m2 =>
 bp (opBin T .eql 3 x2 (.int .i64 0)) m2 fun x3 m3 =>
 some (ups e [(20, x0), (21, x1), (22, x2), (23, x3), (2, x3)], m3)
def r77_5 : RR := fun D e m =>
 bp (opFieldAddr T 24 (e 1) 2) m fun x0 m0 =>
 bp (opLoad T 22 x0 m0) m0 fun x1 m1 =>
 bp (opLen T 22 x1) m1 fun x2 m2 =>
 bp (opFieldAddr T 24 (e 1) 1) m2 fun x3 m3 =>
 bp (opLoad T 3 x3 m3) m3 fun x4 m4 =>
 bp (opBin T .neq 3 x2 x4) m4 fun x5 m5 =>
 some (ups e [(24, x0), (25, x1), (26, x2), (27, x3), (28, x4), (29, x5)], m5)
def r77_6 : RR := fun D e m =>
 some (ups e [(2, .bool false)], m)
def r77_7 : RR := fun D e m =>
 bp (opFieldAddr T 24 (e 1) 2) m fun x0 m0 =>
 bp (opLoad T 22 x0 m0) m0 fun x1 m1 =>
 bp (opLen T 22 x1) m1 fun x2 m2 =>
 some (ups e [(30, x0), (31, x1), (32, x2), (33, .int .i64 0)], m2)
def r77_8 : RR := fun D e m =>
 bp (opBin T .lss 3 (e 33) (e 32)) m fun x0 m0 =>
 some (ups e [(34, x0)], m0)
def r77_9 : RR := fun D e m =>
 bp (opIndexAddr T 22 (e 31) (e 33)) m fun x0 m0 =>
 bp (opLoad T 3 x0 m0) m0 fun x1 m1 =>
 some (ups e [(35, x0), (36, x1), (4, x1)], m1)
def r77_10 : RR := fun D e m =>
 bp (opBin T .lss 3 (e 4) (.int .i64 0)) m fun x1 m1 =>
 bg x1 false (some ((e 4), m1)) m1 fun x3 m3 =>
 bg x1 false (lft (opFieldAddr T 24 (e 1) 0) m3) m3 fun x4 m4 =>
 bg x1 false (lft (opLoad T 3 x4 m4) m4) m4 fun x5 m5 =>
 bg x1 false (lft (opBin T .geq 3 x3 x5) m5) m5 fun x6 m6 =>
 bnd (pickV x1 (.bool true) x6 m6) fun x7 m7 =>
 some (ups e [(37, e 4), (38, x1), (39, x1), (40, x3), (41, x4), (42, x5), (43, x6), (44, x7)], m7)
def r77_11 : RR := fun D e m =>
 some (ups e [(2, .bool false)], m)
def r77_12 : RR := fun D e m =>
 bp (opBin T .add 3 (e 33) (.int .i64 1)) m fun x0 m0 =>
 some (ups e [(45, x0), (33, x0)], m0)
noncomputable def l77_13 : RC := fun D => (sq (rg (r77_8 D)) (sq (cnd (fun e => some (e 34)) sk (exi 0)) (sq (blk 1 (sq (rg (r77_9 D)) (sq (rg (r77_10 D)) (cnd (fun e => some (e 44)) (sq (rg (r77_11 D)) rt) sk)))) (rg (r77_12 D)))))
def r77_14 : RR := fun D e m =>
 some (ups e [(2, .bool true)], m)
noncomputable def c77 : RC := fun D => (sq (rg (r77_0 D)) (sq (sq (rg (r77_1 D)) (cnd (fun e => some (e 16)) (sq (rg (r77_2 D)) rt) sk)) (sq (sq (rg (r77_3 D)) (cnd (fun e => some (e 19)) (sq (rg (r77_4 D)) rt) sk)) (sq (sq (rg (r77_5 D)) (cnd (fun e => some (e 29)) (sq (rg (r77_6 D)) rt) sk)) (sq (sq (rg (r77_7 D)) (blk 0 (loopD (l77_13 D)))) (sq (rg (r77_14 D)) rt))))))
theorem e77 (a0 : V) (m : Mem) : DD 77 [a0] m = fin (c77 DD) (fun e m => some [e 2]) [a0] m :=
 eOf (f := Tryz.f77) (by kernel_rfl) (by kernel_rfl)
def r78_0 : RR := fun D e m =>
 some (ups e [(4, .int .i64 0)], m)
def r78_1 : RR := fun D e m =>
 bp (opBin T .lss 3 (e 0) (.int .i64 2)) m fun x1 m1 =>
 bg x1 false (some ((e 0), m1)) m1 fun x3 m3 =>
 bg x1 false (lft (opBin T .gtr 3 x3 (.int .i64 256)) m3) m3 fun x4 m4 =>
 bnd (pickV x1 (.bool true) x4 m4) fun x5 m5 =>
 bg x5 false (some ((e 1), m5)) m5 fun x7 m7 =>
 bg x5 false (lft (opBin T .lss 3 x7 (.int .i64 1)) m7) m7 fun x8 m8 =>
 bnd (pickV x5 (.bool true) x8 m8) fun x9 m9 =>
 bg x9 false (some ((e 1), m9)) m9 fun x11 m11 =>
 bg x9 false (lft (opBin T .gtr 3 x11 (.int .i64 8)) m11) m11 fun x12 m12 =>
 bnd (pickV x9 (.bool true) x12 m12) fun x13 m13 =>
 some (ups e [(6, e 0), (7, x1), (8, x1), (9, x3), (10, x4), (11, x5), (12, x5), (13, x7), (14, x8), (15, x9), (16, x9), (17, x11), (18, x12), (19, x13)], m13)
def r78_2 : RR := fun D e m =>
 some (ups e [(4, .int .i64 0)], m)
def r78_3 : RR := fun D e m =>
 some (ups e [(5, .int .i64 1)], m)
def r78_4 : RR := fun D e m =>
 some (ups e [(20, e 1), (21, .int .i64 0)], m)
def r78_5 : RR := fun D e m =>
 bp (opBin T .lss 3 (e 21) (e 20)) m fun x0 m0 =>
 some (ups e [(22, x0)], m0)
def r78_6 : RR := fun D e m =>
 bp (opBin T .mul 3 (e 5) (e 0)) m fun x2 m2 =>
 some (ups e [(23, e 5), (24, e 0), (25, x2), (5, x2)], m2)
def r78_7 : RR := fun D e m =>
 bp (opBin T .gtr 3 (e 5) (.int .i64 256)) m fun x1 m1 =>
 some (ups e [(26, e 5), (27, x1)], m1)
def r78_8 : RR := fun D e m =>
 some (ups e [(4, .int .i64 0)], m)
def r78_9 : RR := fun D e m =>
 bp (opBin T .add 3 (e 21) (.int .i64 1)) m fun x0 m0 =>
 some (ups e [(28, x0), (21, x0)], m0)
noncomputable def l78_10 : RC := fun D => (sq (rg (r78_5 D)) (sq (cnd (fun e => some (e 22)) sk (exi 0)) (sq (blk 1 (sq (rg (r78_6 D)) (sq (rg (r78_7 D)) (cnd (fun e => some (e 27)) (sq (rg (r78_8 D)) rt) sk)))) (rg (r78_9 D)))))
def r78_11 : RR := fun D e m =>
 some (ups e [(29, e 5), (4, e 5)], m)
noncomputable def c78 : RC := fun D => (sq (rg (r78_0 D)) (sq (sq (rg (r78_1 D)) (cnd (fun e => some (e 19)) (sq (rg (r78_2 D)) rt) sk)) (sq (rg (r78_3 D)) (sq (sq (rg (r78_4 D)) (blk 0 (loopD (l78_10 D)))) (sq (rg (r78_11 D)) rt)))))
theorem e78 (a0 a1 : V) (m : Mem) : DD 78 [a0, a1] m = fin (c78 DD) (fun e m => some [e 4]) [a0, a1] m :=
 eOf (f := Tryz.f78) (by kernel_rfl) (by kernel_rfl)
def r79_0 : RR := fun D e m =>
 bnd (opBox (e 0) m) fun x0 m0 =>
 some (ups e [(2, x0), (4, .nils)], m0)
def r79_1 : RR := fun D e m =>
 some (ups e [(5, .int .i64 1)], m)
def r79_2 : RR := fun D e m =>
 bp (opBin T .lss 3 (e 5) (e 1)) m fun x2 m2 =>
 some (ups e [(7, e 5), (8, e 1), (9, x2)], m2)
def r79_3 : RR := fun D e m =>
 bp (opLoad T 24 (e 2) m) m fun x0 m0 =>
 bnd (D 117 [x0, e 1, e 5] m0) fun x3 m3 =>
 some (ups e [(12, x0), (13, e 1), (14, e 5), (15, x3), (6, x3)], m3)
def r79_4 : RR := fun D e m =>
 bp (opLen T 22 (e 6)) m fun x1 m1 =>
 bp (opBin T .sub 3 (e 1) (.int .i64 1)) m1 fun x3 m3 =>
 bp (opBin T .eql 3 x1 x3) m3 fun x4 m4 =>
 bg x4 true (lft (opLoad T 24 (e 2) m4) m4) m4 fun x6 m6 =>
 bg x4 true (some ((e 6), m6)) m6 fun x7 m7 =>
 bg x4 true (some ((e 1), m7)) m7 fun x8 m8 =>
 bg x4 true (lft (opBin T .sub 3 x8 (.int .i64 2)) m8) m8 fun x9 m9 =>
 bg x4 true (lft (opIndexAddr T 22 x7 x9) m9) m9 fun x10 m10 =>
 bg x4 true (lft (opLoad T 3 x10 m10) m10) m10 fun x11 m11 =>
 bg x4 true (some ((e 5), m11)) m11 fun x12 m12 =>
 bg x4 true (D 118 [x6, x11, x12] m12) m12 fun x13 m13 =>
 bg x4 true (lft (opBin T .eql 3 x13 (.int .i64 1)) m13) m13 fun x14 m14 =>
 bnd (pickV x4 x14 (.bool false) m14) fun x15 m15 =>
 some (ups e [(16, e 6), (17, x1), (18, e 1), (19, x3), (20, x4), (21, x4), (22, x6), (23, x7), (24, x8), (25, x9), (26, x10), (27, x11), (28, x12), (29, x13), (30, x14), (31, x15)], m15)
def r79_5 : RR := fun D e m =>
 some (ups e [(32, e 6), (4, e 6)], m)
def r79_6 : RR := fun D e m =>
 bp (opBin T .add 3 (e 5) (.int .i64 1)) m fun x1 m1 =>
 some (ups e [(10, e 5), (11, x1), (5, x1)], m1)
noncomputable def l79_7 : RC := fun D => (sq (sq (rg (r79_2 D)) (cnd (fun e => some (e 9)) sk (exi 0))) (sq (blk 1 (sq (rg (r79_3 D)) (sq (rg (r79_4 D)) (cnd (fun e => some (e 31)) (sq (rg (r79_5 D)) rt) sk)))) (rg (r79_6 D))))
def r79_8 : RR := fun D e m =>
 some (ups e [(4, .nils)], m)
noncomputable def c79 : RC := fun D => (sq (rg (r79_0 D)) (sq (sq (rg (r79_1 D)) (blk 0 (loopD (l79_7 D)))) (sq (rg (r79_8 D)) rt)))
theorem e79 (a0 a1 : V) (m : Mem) : DD 79 [a0, a1] m = fin (c79 DD) (fun e m => some [e 4]) [a0, a1] m :=
 eOf (f := Tryz.f79) (by kernel_rfl) (by kernel_rfl)
def r80_0 : RR := fun D e m =>
 some (ups e [(4, .int .i64 0)], m)
def r80_1 : RR := fun D e m =>
 bp (opLen T 22 (e 0)) m fun x1 m1 =>
 some (ups e [(6, e 0), (7, x1), (8, .int .i64 0)], m1)
def r80_2 : RR := fun D e m =>
 bp (opBin T .lss 3 (e 8) (e 7)) m fun x0 m0 =>
 some (ups e [(9, x0)], m0)
def r80_3 : RR := fun D e m =>
 some (ups e [(10, e 8), (5, e 8)], m)
def r80_4 : RR := fun D e m =>
 bp (opIndexAddr T 22 (e 0) (e 5)) m fun x3 m3 =>
 bp (opLoad T 3 x3 m3) m3 fun x4 m4 =>
 bnd (callV D (e 1) [x4] m4) fun x5 m5 =>
 some (ups e [(11, e 1), (12, e 0), (13, e 5), (14, x3), (15, x4), (16, x5)], m5)
def r80_5 : RR := fun D e m =>
 some (ups e [(17, e 5), (4, e 5)], m)
def r80_6 : RR := fun D e m =>
 bp (opBin T .add 3 (e 8) (.int .i64 1)) m fun x0 m0 =>
 some (ups e [(18, x0), (8, x0)], m0)
noncomputable def l80_7 : RC := fun D => (sq (rg (r80_2 D)) (sq (cnd (fun e => some (e 9)) sk (exi 0)) (sq (blk 1 (sq (rg (r80_3 D)) (sq (rg (r80_4 D)) (cnd (fun e => some (e 16)) (sq (rg (r80_5 D)) rt) sk)))) (rg (r80_6 D)))))
def r80_8 : RR := fun D e m =>
 some (ups e [(4, (.int .i64 (-1)))], m)
noncomputable def c80 : RC := fun D => (sq (rg (r80_0 D)) (sq (sq (rg (r80_1 D)) (blk 0 (loopD (l80_7 D)))) (sq (rg (r80_8 D)) rt)))
theorem e80 (a0 a1 : V) (m : Mem) : DD 80 [a0, a1] m = fin (c80 DD) (fun e m => some [e 4]) [a0, a1] m :=
 eOf (f := Tryz.f80) (by kernel_rfl) (by kernel_rfl)
def r81_0 : RR := fun D e m =>
 some (ups e [(4, .bool false)], m)
def r81_1 : RR := fun D e m =>
 bnd (D 119 [e 0, e 1] m) fun x2 m2 =>
 bp (opBin T .geq 3 x2 (.int .i64 0)) m2 fun x3 m3 =>
 some (ups e [(5, e 0), (6, e 1), (7, x2), (8, x3), (4, x3)], m3)
noncomputable def c81 : RC := fun D => (sq (rg (r81_0 D)) (sq (rg (r81_1 D)) rt))
theorem e81 (a0 a1 : V) (m : Mem) : DD 81 [a0, a1] m = fin (c81 DD) (fun e m => some [e 4]) [a0, a1] m :=
 eOf (f := Tryz.f81) (by kernel_rfl) (by kernel_rfl)
def r85_0 : RR := fun D e m =>
 some (ups e [(4, .nils)], m)
def r85_1 : RR := fun D e m =>
 bp (opLen T 22 (e 1)) m fun x1 m1 =>
 bnd (opMakeSlice T 22 x1 x1 m1) fun x2 m2 =>
 some (ups e [(7, e 1), (8, x1), (9, x2), (5, x2)], m2)
def r85_2 : RR := fun D e m =>
 some (ups e [(6, .int .i64 0)], m)
def r85_3 : RR := fun D e m =>
 bp (opLen T 22 (e 1)) m fun x2 m2 =>
 bp (opBin T .lss 3 (e 6) x2) m2 fun x3 m3 =>
 some (ups e [(10, e 6), (11, e 1), (12, x2), (13, x3)], m3)
def r85_4 : RR := fun D e m =>
 bp (opIndexAddr T 22 (e 1) (e 6)) m fun x5 m5 =>
 bp (opLoad T 3 x5 m5) m5 fun x6 m6 =>
 bp (opIndexAddr T 22 (e 0) x6) m6 fun x7 m7 =>
 bp (opLoad T 3 x7 m7) m7 fun x8 m8 =>
 bp (opIndexAddr T 22 (e 5) (e 6)) m8 fun x9 m9 =>
 bnd ((opStore T 3 x9 x8 m9).map (V.undef, ·)) fun x10 m10 =>
 some (ups e [(16, e 5), (17, e 6), (18, e 0), (19, e 1), (20, e 6), (21, x5), (22, x6), (23, x7), (24, x8), (25, x9)], m10)
def r85_5 : RR := fun D e m =>
 bp (opBin T .add 3 (e 6) (.int .i64 1)) m fun x1 m1 =>
 some (ups e [(14, e 6), (15, x1), (6, x1)], m1)
noncomputable def l85_6 : RC := fun D => (sq (sq (rg (r85_3 D)) (cnd (fun e => some (e 13)) sk (exi 0))) (sq (blk 1 (rg (r85_4 D))) (rg (r85_5 D))))
def r85_7 : RR := fun D e m =>
 some (ups e [(26, e 5), (4, e 5)], m)
noncomputable def c85 : RC := fun D => (sq (rg (r85_0 D)) (sq (rg (r85_1 D)) (sq (sq (rg (r85_2 D)) (blk 0 (loopD (l85_6 D)))) (sq (rg (r85_7 D)) rt))))
theorem e85 (a0 a1 : V) (m : Mem) : DD 85 [a0, a1] m = fin (c85 DD) (fun e m => some [e 4]) [a0, a1] m :=
 eOf (f := Tryz.f85) (by kernel_rfl) (by kernel_rfl)
def r88_0 : RR := fun D e m =>
 bnd (opBox (e 0) m) fun x0 m0 =>
 some (ups e [(2, x0), (4, .nils)], m0)
noncomputable def r88_1 : RR := fun D e m =>
 bp (opLoad T 24 (e 2) m) m fun x0 m0 =>
 bnd (D 124 [x0, e 1] m0) fun x2 m2 => chkd m0 m2 (
 bp (opFieldAddr T 24 (e 2) 0) m2 fun x3 m3 =>
 bp (opLoad T 3 x3 m3) m3 fun x4 m4 =>
 bp (opFieldAddr T 24 (e 2) 1) m4 fun x5 m5 =>
 bp (opLoad T 3 x5 m5) m5 fun x6 m6 =>
 bnd (D 123 [x2, x4, x6] m6) fun x7 m7 =>
 some (ups e [(5, x0), (6, e 1), (7, x2), (8, x3), (9, x4), (10, x5), (11, x6), (12, x7), (4, x7)], m7))
noncomputable def c88 : RC := fun D => (sq (rg (r88_0 D)) (sq (rg (r88_1 D)) rt))
theorem e88 (a0 a1 : V) (m : Mem) : DD 88 [a0, a1] m = fin (c88 DD) (fun e m => some [e 4]) [a0, a1] m :=
 eOf (f := Tryz.f88) (by kernel_rfl) (by kernel_rfl)
def r89_0 : RR := fun D e m =>
 bnd (opBox (e 0) m) fun x0 m0 =>
 some (ups e [(2, x0), (4, .int .i64 0)], m0)
def r89_1 : RR := fun D e m =>
 some (ups e [(5, .int .i64 0)], m)
def r89_2 : RR := fun D e m =>
 bp (opLen T 22 (e 1)) m fun x1 m1 =>
 bp (opBin T .sub 3 x1 (.int .i64 1)) m1 fun x2 m2 =>
 some (ups e [(7, e 1), (8, x1), (9, x2), (6, x2)], m2)
def r89_3 : RR := fun D e m =>
 bp (opBin T .geq 3 (e 6) (.int .i64 0)) m fun x1 m1 =>
 some (ups e [(10, e 6), (11, x1)], m1)
def r89_4 : RR := fun D e m =>
 bp (opFieldAddr T 24 (e 2) 0) m fun x1 m1 =>
 bp (opLoad T 3 x1 m1) m1 fun x2 m2 =>
 bp (opBin T .mul 3 (e 5) x2) m2 fun x3 m3 =>
 bp (opIndexAddr T 22 (e 1) (e 6)) m3 fun x6 m6 =>
 bp (opLoad T 3 x6 m6) m6 fun x7 m7 =>
 bp (opBin T .add 3 x3 x7) m7 fun x8 m8 =>
 some (ups e [(14, e 5), (15, x1), (16, x2), (17, x3), (18, e 1), (19, e 6), (20, x6), (21, x7), (22, x8), (5, x8)], m8)
def r89_5 : RR := fun D e m =>
 bp (opBin T .sub 3 (e 6) (.int .i64 1)) m fun x1 m1 =>
 some (ups e [(12, e 6), (13, x1), (6, x1)], m1)
noncomputable def l89_6 : RC := fun D => (sq (sq (rg (r89_3 D)) (cnd (fun e => some (e 11)) sk (exi 0))) (sq (blk 1 (rg (r89_4 D))) (rg (r89_5 D))))
def r89_7 : RR := fun D e m =>
 some (ups e [(23, e 5), (4, e 5)], m)
noncomputable def c89 : RC := fun D => (sq (rg (r89_0 D)) (sq (rg (r89_1 D)) (sq (sq (rg (r89_2 D)) (blk 0 (loopD (l89_6 D)))) (sq (rg (r89_7 D)) rt))))
theorem e89 (a0 a1 : V) (m : Mem) : DD 89 [a0, a1] m = fin (c89 DD) (fun e m => some [e 4]) [a0, a1] m :=
 eOf (f := Tryz.f89) (by kernel_rfl) (by kernel_rfl)
def r90_0 : RR := fun D e m =>
 bnd (opBox (e 0) m) fun x0 m0 =>
 bnd (opBox (e 1) m0) fun x1 m1 =>
 bnd (opAlloc T 118 m1) fun x2 m2 =>
 some (ups e [(2, x0), (3, x1), (4, x2), (5, .int .i64 0)], m2)
def r90_1 : RR := fun D e m =>
 bp (opLoad T 24 (e 2) m) m fun x0 m0 =>
 bp (opLoad T 88 (e 3) m0) m0 fun x1 m1 =>
 bnd (D 125 [x0, x1] m1) fun x2 m2 =>
 bnd (extV x2 0 m2) fun x4 m4 =>
 bnd (extV x2 1 m4) fun x5 m5 =>
 bnd (extV x2 2 m5) fun x6 m6 =>
 bnd (opAlloc T 88 m6) fun x7 m7 =>
 bnd ((opStore T 88 x7 x4 m7).map (V.undef, ·)) fun x8 m8 =>
 some (ups e [(11, x0), (12, x1), (13, x2), (10, x2), (14, x4), (15, x5), (16, x6), (6, x7), (7, x5), (8, x6)], m8)
def r90_2 : RR := fun D e m =>
 bp (opBin T .neq 33 (e 8) (.int .i64 0)) m fun x1 m1 =>
 some (ups e [(17, e 8), (18, x1)], m1)
def r90_3 : RR := fun D e m =>
 bp (opBuild T 118 []) m fun x0 m0 =>
 bnd ((opStore T 118 (e 4) x0 m0).map (V.undef, ·)) fun x2 m2 =>
 some (ups e [(19, x0), (20, e 8), (5, e 8)], m2)
def r90_4 : RR := fun D e m =>
 bp (opFieldAddr T 88 (e 6) 1) m fun x0 m0 =>
 bp (opLoad T 25 x0 m0) m0 fun x1 m1 =>
 bp (opFieldAddr T 88 (e 3) 1) m1 fun x2 m2 =>
 bp (opLoad T 25 x2 m2) m2 fun x3 m3 =>
 bnd (D 126 [x1, x3, (.fn 127 [] [])] m3) fun x4 m4 =>
 bp (opUn .not x4) m4 fun x5 m5 =>
 some (ups e [(21, x0), (22, x1), (23, x2), (24, x3), (25, x4), (26, x5)], m5)
def r90_5 : RR := fun D e m =>
 bp (opBuild T 118 []) m fun x0 m0 =>
 bnd ((opStore T 118 (e 4) x0 m0).map (V.undef, ·)) fun x1 m1 =>
 some (ups e [(27, x0), (5, .int .i64 5)], m1)
def r90_6 : RR := fun D e m =>
 bp (opLoad T 24 (e 2) m) m fun x0 m0 =>
 bnd (D 45 [x0] m0) fun x1 m1 =>
 bnd (extV x1 0 m1) fun x3 m3 =>
 bnd (extV x1 1 m3) fun x4 m4 =>
 some (ups e [(29, x0), (30, x1), (28, x1), (31, x3), (32, x4), (9, x3), (8, x4)], m4)
def r90_7 : RR := fun D e m =>
 bp (opLoad T 88 (e 3) m) m fun x1 m1 =>
 bp (opBuild T 118 [(0, e 9), (1, x1), (2, e 7)]) m1 fun x3 m3 =>
 bnd ((opStore T 118 (e 4) x3 m3).map (V.undef, ·)) fun x5 m5 =>
 some (ups e [(33, e 9), (34, x1), (35, e 7), (36, x3), (37, e 8), (5, e 8)], m5)
noncomputable def c90 : RC := fun D => (sq (rg (r90_0 D)) (sq (rg (r90_1 D)) (sq (sq (rg (r90_2 D)) (cnd (fun e => some (e 18)) (sq (rg (r90_3 D)) rt) sk)) (sq (sq (rg (r90_4 D)) (cnd (fun e => some (e 26)) (sq (rg (r90_5 D)) rt) sk)) (sq (rg (r90_6 D)) (sq (rg (r90_7 D)) rt))))))
theorem e90 (a0 a1 : V) (m : Mem) : DD 90 [a0, a1] m = fin (c90 DD) (fun e m => resVs T e m Tryz.f90.results.toList) [a0, a1] m :=
 eOf (f := Tryz.f90) (by kernel_rfl) (by kernel_rfl)
def r91_0 : RR := fun D e m =>
 bnd (opBox (e 0) m) fun x0 m0 =>
 some (ups e [(3, x0), (6, .nilp), (7, .int .i64 0)], m0)
def r91_1 : RR := fun D e m =>
 bp (opLoad T 27 (e 3) m) m fun x0 m0 =>
 bnd (D 128 [x0, e 2] m0) fun x2 m2 =>
 bnd (extV x2 0 m2) fun x4 m4 =>
 bnd (extV x2 1 m4) fun x5 m5 =>
 some (ups e [(11, x0), (12, e 2), (13, x2), (10, x2), (14, x4), (15, x5), (8, x4), (9, x5)], m5)
def r91_2 : RR := fun D e m =>
 bp (opBin T .neq 33 (e 9) (.int .i64 0)) m fun x1 m1 =>
 some (ups e [(16, e 9), (17, x1)], m1)
def r91_3 : RR := fun D e m =>
 some (ups e [(18, e 9), (6, .nilp), (7, e 9)], m)
def r91_4 : RR := fun D e m =>
 bp (opBin T .lss 3 (e 1) (.int .i64 0)) m fun x1 m1 =>
 bg x1 false (some ((e 1), m1)) m1 fun x3 m3 =>
 bg x1 false (lft (opFieldAddr T 27 (e 3) 2) m3) m3 fun x4 m4 =>
 bg x1 false (lft (opLoad T 25 x4 m4) m4) m4 fun x5 m5 =>
 bg x1 false (lft (opLen T 25 x5) m5) m5 fun x6 m6 =>
 bg x1 false (lft (opBin T .gtr 3 x3 x6) m6) m6 fun x7 m7 =>
 bnd (pickV x1 (.bool true) x7 m7) fun x8 m8 =>
 bg x8 false (some ((e 2), m8)) m8 fun x10 m10 =>
 bg x8 false (lft (opBin T .lss 3 x10 (.int .i64 0)) m10) m10 fun x11 m11 =>
 bnd (pickV x8 (.bool true) x11 m11) fun x12 m12 =>
 bg x12 false (some ((e 2), m12)) m12 fun x14 m14 =>
 bg x12 false (lft (opFieldAddr T 27 (e 3) 1) m14) m14 fun x15 m15 =>
 bg x12 false (lft (opLoad T 3 x15 m15) m15) m15 fun x16 m16 =>
 bg x12 false (lft (opBin T .gtr 3 x14 x16) m16) m16 fun x17 m17 =>
 bnd (pickV x12 (.bool true) x17 m17) fun x18 m18 =>
 some (ups e [(19, e 1), (20, x1), (21, x1), (22, x3), (23, x4), (24, x5), (25, x6), (26, x7), (27, x8), (28, x8), (29, x10), (30, x11), (31, x12), (32, x12), (33, x14), (34, x15), (35, x16), (36, x17), (37, x18)], m18)
def r91_5 : RR := fun D e m =>
 some (ups e [(6, .nilp), (7, .int .i64 6)], m)
def r91_6 : RR := fun D e m =>
 bnd (nilChk (e 8) m) fun x2 m2 =>
 bp (opFieldAddr T 157 x2 4) m2 fun x3 m3 =>
 bnd ((opStore T 3 x3 (e 1) m3).map (V.undef, ·)) fun x4 m4 =>
 some (ups e [(38, e 8), (39, e 1), (40, x2), (41, x3)], m4)
def r91_7 : RR := fun D e m =>
 some (ups e [(42, e 8), (6, e 8), (7, .int .i64 0)], m)
noncomputable def c91 : RC := fun D => (sq (rg (r91_0 D)) (sq (rg (r91_1 D)) (sq (sq (rg (r91_2 D)) (cnd (fun e => some (e 17)) (sq (rg (r91_3 D)) rt) sk)) (sq (sq (rg (r91_4 D)) (cnd (fun e => some (e 37)) (sq (rg (r91_5 D)) rt) sk)) (sq (rg (r91_6 D)) (sq (rg (r91_7 D)) rt))))))
theorem e91 (a0 a1 a2 : V) (m : Mem) : DD 91 [a0, a1, a2] m = fin (c91 DD) (fun e m => some [e 6, e 7]) [a0, a1, a2] m :=
 eOf (f := Tryz.f91) (by kernel_rfl) (by kernel_rfl)
def r92_0 : RR := fun D e m =>
 bnd (opBox (e 1) m) fun x0 m0 =>
 some (ups e [(3, x0), (4, .int .i64 0)], m0)
def r92_1 : RR := fun D e m =>
 bp (opFieldAddr T 29 (e 3) 0) m fun x1 m1 =>
 bp (opLoad T 25 x1 m1) m1 fun x2 m2 =>
 bnd (nilChk (e 0) m2) fun x3 m3 =>
 bp (opFieldAddr T 157 x3 6) m3 fun x4 m4 =>
 bnd ((opStore T 25 x4 x2 m4).map (V.undef, ·)) fun x5 m5 =>
 some (ups e [(6, e 0), (7, x1), (8, x2), (9, x3), (10, x4)], m5)
def r92_2 : RR := fun D e m =>
 bnd (D 129 [e 0, .nils, .nils] m) fun x1 m1 =>
 some (ups e [(11, e 0), (12, x1), (5, x1)], m1)
def r92_3 : RR := fun D e m =>
 bp (opBin T .eql 33 (e 5) (.int .i64 0)) m fun x1 m1 =>
 bg x1 true (some ((e 0), m1)) m1 fun x3 m3 =>
 bg x1 true (nilChk x3 m3) m3 fun x4 m4 =>
 bg x1 true (lft (opFieldAddr T 157 x4 7) m4) m4 fun x5 m5 =>
 bg x1 true (lft (opLoad T 3 x5 m5) m5) m5 fun x6 m6 =>
 bg x1 true (some ((e 0), m6)) m6 fun x7 m7 =>
 bg x1 true (nilChk x7 m7) m7 fun x8 m8 =>
 bg x1 true (lft (opFieldAddr T 157 x8 6) m8) m8 fun x9 m9 =>
 bg x1 true (lft (opLoad T 25 x9 m9) m9) m9 fun x10 m10 =>
 bg x1 true (lft (opLen T 25 x10) m10) m10 fun x11 m11 =>
 bg x1 true (lft (opBin T .lss 3 x6 x11) m11) m11 fun x12 m12 =>
 bnd (pickV x1 x12 (.bool false) m12) fun x13 m13 =>
 some (ups e [(13, e 5), (14, x1), (15, x1), (16, x3), (17, x4), (18, x5), (19, x6), (20, x7), (21, x8), (22, x9), (23, x10), (24, x11), (25, x12), (26, x13)], m13)
def r92_4 : RR := fun D e m =>
 some (ups e [(4, .int .i64 13)], m)
def r92_5 : RR := fun D e m =>
 some (ups e [(27, e 5), (4, e 5)], m)
noncomputable def c92 : RC := fun D => (sq (rg (r92_0 D)) (sq (rg (r92_1 D)) (sq (rg (r92_2 D)) (sq (sq (rg (r92_3 D)) (cnd (fun e => some (e 26)) (sq (rg (r92_4 D)) rt) sk)) (sq (rg (r92_5 D)) rt)))))
theorem e92 (a0 a1 : V) (m : Mem) : DD 92 [a0, a1] m = fin (c92 DD) (fun e m => some [e 4]) [a0, a1] m :=
 eOf (f := Tryz.f92) (by kernel_rfl) (by kernel_rfl)
def r93_0 : RR := fun D e m =>
 bnd (opBox (e 0) m) fun x0 m0 =>
 some (ups e [(1, x0), (2, .int .i64 0)], m0)
def r93_1 : RR := fun D e m =>
 bp (opFieldAddr T 24 (e 1) 0) m fun x0 m0 =>
 bp (opLoad T 3 x0 m0) m0 fun x1 m1 =>
 bp (opBin T .lss 3 x1 (.int .i64 2)) m1 fun x2 m2 =>
 bg x2 false (lft (opFieldAddr T 24 (e 1) 1) m2) m2 fun x4 m4 =>
 bg x2 false (lft (opLoad T 3 x4 m4) m4) m4 fun x5 m5 =>
 bg x2 false (lft (opBin T .lss 3 x5 (.int .i64 1)) m5) m5 fun x6 m6 =>
 bnd (pickV x2 (.bool true) x6 m6) fun x7 m7 =>
 bg x7 false (lft (opFieldAddr T 24 (e 1) 1) m7) m7 fun x9 m9 =>
 bg x7 false (lft (opLoad T 3 x9 m9) m9) m9 fun x10 m10 =>
 bg x7 false (lft (opBin T .gtr 3 x10 (.int .i64 8)) m10) m10 fun x11 m11 =>
 bnd (pickV x7 (.bool true) x11 m11) fun x12 m12 =>
 some (ups e [(5, x0), (6, x1), (7, x2), (8, x2), (9, x4), (10, x5), (11, x6), (12, x7), (13, x7), (14, x9), (15, x10), (16, x11), (17, x12)], m12)
def r93_2 : RR := fun D e m =>
 some (ups e [(2, .int .i64 0)], m)
def r93_3 : RR := fun D e m =>
 some (ups e [(3, .int .i64 1)], m)
def r93_4 : RR := fun D e m =>
 some (ups e [(4, .int .i64 0)], m)
def r93_5 : RR := fun D e m =>
 bp (opFieldAddr T 24 (e 1) 1) m fun x1 m1 =>
 bp (opLoad T 3 x1 m1) m1 fun x2 m2 =>
 bp (opBin T .lss 3 (e 4) x2) m2 fun x3 m3 =>
 some (ups e [(18, e 4), (19, x1), (20, x2), (21, x3)], m3)
def r93_6 : RR := fun D e m =>
 bp (opFieldAddr T 24 (e 1) 0) m fun x1 m1 =>
 bp (opLoad T 3 x1 m1) m1 fun x2 m2 =>
 bp (opBin T .quo 3 (.int .i64 256) x2) m2 fun x3 m3 =>
 bp (opBin T .gtr 3 (e 3) x3) m3 fun x4 m4 =>
 some (ups e [(24, e 3), (25, x1), (26, x2), (27, x3), (28, x4)], m4)
def r93_7 : RR := fun D e m =>
 some (ups e [(2, .int .i64 0)], m)
def r93_8 : RR := fun D e m =>
 bp (opFieldAddr T 24 (e 1) 0) m fun x1 m1 =>
 bp (opLoad T 3 x1 m1) m1 fun x2 m2 =>
 bp (opBin T .mul 3 (e 3) x2) m2 fun x3 m3 =>
 some (ups e [(29, e 3), (30, x1), (31, x2), (32, x3), (3, x3)], m3)
def r93_9 : RR := fun D e m =>
 bp (opBin T .add 3 (e 4) (.int .i64 1)) m fun x1 m1 =>
 some (ups e [(22, e 4), (23, x1), (4, x1)], m1)
noncomputable def l93_10 : RC := fun D => (sq (sq (rg (r93_5 D)) (cnd (fun e => some (e 21)) sk (exi 0))) (sq (blk 1 (sq (sq (rg (r93_6 D)) (cnd (fun e => some (e 28)) (sq (rg (r93_7 D)) rt) sk)) (rg (r93_8 D)))) (rg (r93_9 D))))
def r93_11 : RR := fun D e m =>
 some (ups e [(33, e 3), (2, e 3)], m)
noncomputable def c93 : RC := fun D => (sq (rg (r93_0 D)) (sq (sq (rg (r93_1 D)) (cnd (fun e => some (e 17)) (sq (rg (r93_2 D)) rt) sk)) (sq (rg (r93_3 D)) (sq (sq (rg (r93_4 D)) (blk 0 (loopD (l93_10 D)))) (sq (rg (r93_11 D)) rt)))))
theorem e93 (a0 : V) (m : Mem) : DD 93 [a0] m = fin (c93 DD) (fun e m => some [e 2]) [a0] m :=
 eOf (f := Tryz.f93) (by kernel_rfl) (by kernel_rfl)
def r94_0 : RR := fun D e m =>
 some (ups e [(2, .bool false)], m)
def r94_1 : RR := fun D e m =>
 some (ups e [(3, .int .i64 2)], m)
def r94_2 : RR := fun D e m =>
 bp (opBin T .lss 3 (e 3) (e 0)) m fun x2 m2 =>
 some (ups e [(4, e 3), (5, e 0), (6, x2)], m2)
def r94_3 : RR := fun D e m =>
 bp (opBin T .rem 3 (e 0) (e 3)) m fun x2 m2 =>
 bp (opBin T .eql 3 x2 (.int .i64 0)) m2 fun x3 m3 =>
 some (ups e [(9, e 0), (10, e 3), (11, x2), (12, x3)], m3)
def r94_4 : RR := fun D e m =>
 some (ups e [(2, .bool false)], m)
def r94_5 : RR := fun D e m =>
 bp (opBin T .add 3 (e 3) (.int .i64 1)) m fun x1 m1 =>
 some (ups e [(7, e 3), (8, x1), (3, x1)], m1)
noncomputable def l94_6 : RC := fun D => (sq (sq (rg (r94_2 D)) (cnd (fun e => some (e 6)) sk (exi 0))) (sq (blk 1 (sq (rg (r94_3 D)) (cnd (fun e => some (e 12)) (sq (rg (r94_4 D)) rt) sk))) (rg (r94_5 D))))
def r94_7 : RR := fun D e m =>
 some (ups e [(2, .bool true)], m)
noncomputable def c94 : RC := fun D => (sq (rg (r94_0 D)) (sq (sq (rg (r94_1 D)) (blk 0 (loopD (l94_6 D)))) (sq (rg (r94_7 D)) rt)))
theorem e94 (a0 : V) (m : Mem) : DD 94 [a0] m = fin (c94 DD) (fun e m => some [e 2]) [a0] m :=
 eOf (f := Tryz.f94) (by kernel_rfl) (by kernel_rfl)
def r95_0 : RR := fun D e m =>
 some (ups e [(4, .bool false)], m)
def r95_1 : RR := fun D e m =>
 some (ups e [(5, .int .i64 1)], m)
def r95_2 : RR := fun D e m =>
 some (ups e [(6, .int .i64 1)], m)
def r95_3 : RR := fun D e m =>
 bp (opBin T .mul 3 (.int .i64 2) (e 6)) m fun x1 m1 =>
 bp (opLen T 22 (e 0)) m1 fun x3 m3 =>
 bp (opBin T .leq 3 x1 x3) m3 fun x4 m4 =>
 some (ups e [(8, e 6), (9, x1), (10, e 0), (11, x3), (12, x4)], m4)
def r95_4 : RR := fun D e m =>
 bp (opBin T .mul 3 (e 5) (e 1)) m fun x2 m2 =>
 some (ups e [(15, e 5), (16, e 1), (17, x2), (5, x2)], m2)
def r95_5 : RR := fun D e m =>
 some (ups e [(7, .int .i64 0)], m)
def r95_6 : RR := fun D e m =>
 bp (opBin T .lss 3 (e 7) (e 5)) m fun x2 m2 =>
 some (ups e [(18, e 7), (19, e 5), (20, x2)], m2)
def r95_7 : RR := fun D e m =>
 bnd (D 123 [e 7, e 1, e 6] m) fun x3 m3 =>
 bnd (D 130 [x3, e 0, e 1] m3) fun x6 m6 =>
 some (ups e [(23, e 7), (24, e 1), (25, e 6), (26, x3), (27, e 0), (28, e 1), (29, x6)], m6)
def r95_8 : RR := fun D e m =>
 some (ups e [(4, .bool false)], m)
def r95_9 : RR := fun D e m =>
 bp (opBin T .add 3 (e 7) (.int .i64 1)) m fun x1 m1 =>
 some (ups e [(21, e 7), (22, x1), (7, x1)], m1)
noncomputable def l95_10 : RC := fun D => (sq (sq (rg (r95_6 D)) (cnd (fun e => some (e 20)) sk (exi 2))) (sq (blk 3 (sq (rg (r95_7 D)) (cnd (fun e => some (e 29)) (sq (rg (r95_8 D)) rt) sk))) (rg (r95_9 D))))
def r95_11 : RR := fun D e m =>
 bp (opBin T .add 3 (e 6) (.int .i64 1)) m fun x1 m1 =>
 some (ups e [(13, e 6), (14, x1), (6, x1)], m1)
noncomputable def l95_12 : RC := fun D => (sq (sq (rg (r95_3 D)) (cnd (fun e => some (e 12)) sk (exi 0))) (sq (blk 1 (sq (rg (r95_4 D)) (sq (rg (r95_5 D)) (blk 2 (loopD (l95_10 D)))))) (rg (r95_11 D))))
def r95_13 : RR := fun D e m =>
 some (ups e [(4, .bool true)], m)
noncomputable def c95 : RC := fun D => (sq (rg (r95_0 D)) (sq (rg (r95_1 D)) (sq (sq (rg (r95_2 D)) (blk 0 (loopD (l95_12 D)))) (sq (rg (r95_13 D)) rt))))
theorem e95 (a0 a1 : V) (m : Mem) : DD 95 [a0, a1] m = fin (c95 DD) (fun e m => some [e 4]) [a0, a1] m :=
 eOf (f := Tryz.f95) (by kernel_rfl) (by kernel_rfl)
def r96_0 : RR := fun D e m =>
 bnd (opBox (e 0) m) fun x0 m0 =>
 bnd (opBox (e 1) m0) fun x1 m1 =>
 some (ups e [(2, x0), (3, x1), (4, .int .i64 0)], m1)
def r96_1 : RR := fun D e m =>
 bp (opLoad T 24 (e 2) m) m fun x0 m0 =>
 bnd (D 62 [x0] m0) fun x1 m1 =>
 some (ups e [(8, x0), (9, x1), (5, x1)], m1)
def r96_2 : RR := fun D e m =>
 bp (opBin T .neq 33 (e 5) (.int .i64 0)) m fun x1 m1 =>
 some (ups e [(10, e 5), (11, x1)], m1)
def r96_3 : RR := fun D e m =>
 some (ups e [(12, e 5), (4, e 5)], m)
def r96_4 : RR := fun D e m =>
 bp (opFieldAddr T 88 (e 3) 0) m fun x0 m0 =>
 bp (opLoad T 3 x0 m0) m0 fun x1 m1 =>
 bp (opBin T .lss 3 x1 (.int .i64 0)) m1 fun x2 m2 =>
 bg x2 false (lft (opFieldAddr T 88 (e 3) 0) m2) m2 fun x4 m4 =>
 bg x2 false (lft (opLoad T 3 x4 m4) m4) m4 fun x5 m5 =>
 bg x2 false (lft (opBin T .gtr 3 x5 (.int .i64 256)) m5) m5 fun x6 m6 =>
 bnd (pickV x2 (.bool true) x6 m6) fun x7 m7 =>
 bg x7 false (lft (opFieldAddr T 88 (e 3) 1) m7) m7 fun x9 m9 =>
 bg x7 false (lft (opLoad T 25 x9 m9) m9) m9 fun x10 m10 =>
 bg x7 false (lft (opLen T 25 x10) m10) m10 fun x11 m11 =>
 bg x7 false (lft (opBin T .gtr 3 x11 (.int .i64 256)) m11) m11 fun x12 m12 =>
 bnd (pickV x7 (.bool true) x12 m12) fun x13 m13 =>
 some (ups e [(13, x0), (14, x1), (15, x2), (16, x2), (17, x4), (18, x5), (19, x6), (20, x7), (21, x7), (22, x9), (23, x10), (24, x11), (25, x12), (26, x13)], m13)
def r96_5 : RR := fun D e m =>
 some (ups e [(4, .int .i64 3)], m)
def r96_6 : RR := fun D e m =>
 some (ups e [(6, .int .i64 0)], m)
def r96_7 : RR := fun D e m =>
 bp (opFieldAddr T 88 (e 3) 1) m fun x1 m1 =>
 bp (opLoad T 25 x1 m1) m1 fun x2 m2 =>
 bp (opLen T 25 x2) m2 fun x3 m3 =>
 bp (opBin T .lss 3 (e 6) x3) m3 fun x4 m4 =>
 some (ups e [(27, e 6), (28, x1), (29, x2), (30, x3), (31, x4)], m4)
def r96_8 : RR := fun D e m =>
 bp (opFieldAddr T 88 (e 3) 1) m fun x0 m0 =>
 bp (opLoad T 25 x0 m0) m0 fun x1 m1 =>
 bp (opIndexAddr T 25 x1 (e 6)) m1 fun x3 m3 =>
 bp (opLoad T 22 x3 m3) m3 fun x4 m4 =>
 bp (opLen T 22 x4) m4 fun x5 m5 =>
 bp (opFieldAddr T 88 (e 3) 0) m5 fun x6 m6 =>
 bp (opLoad T 3 x6 m6) m6 fun x7 m7 =>
 bp (opBin T .neq 3 x5 x7) m7 fun x8 m8 =>
 some (ups e [(34, x0), (35, x1), (36, e 6), (37, x3), (38, x4), (39, x5), (40, x6), (41, x7), (42, x8)], m8)
def r96_9 : RR := fun D e m =>
 some (ups e [(4, .int .i64 3)], m)
def r96_10 : RR := fun D e m =>
 bp (opBin T .add 3 (e 6) (.int .i64 1)) m fun x1 m1 =>
 some (ups e [(32, e 6), (33, x1), (6, x1)], m1)
noncomputable def l96_11 : RC := fun D => (sq (sq (rg (r96_7 D)) (cnd (fun e => some (e 31)) sk (exi 0))) (sq (blk 1 (sq (rg (r96_8 D)) (cnd (fun e => some (e 42)) (sq (rg (r96_9 D)) rt) sk))) (rg (r96_10 D))))
def r96_12 : RR := fun D e m =>
 some (ups e [(7, .int .i64 0)], m)
def r96_13 : RR := fun D e m =>
 bp (opFieldAddr T 88 (e 3) 1) m fun x1 m1 =>
 bp (opLoad T 25 x1 m1) m1 fun x2 m2 =>
 bp (opLen T 25 x2) m2 fun x3 m3 =>
 bp (opBin T .lss 3 (e 7) x3) m3 fun x4 m4 =>
 some (ups e [(43, e 7), (44, x1), (45, x2), (46, x3), (47, x4)], m4)
def r96_14 : RR := fun D e m =>
 bp (opLoad T 24 (e 2) m) m fun x0 m0 =>
 bp (opFieldAddr T 88 (e 3) 1) m0 fun x1 m1 =>
 bp (opLoad T 25 x1 m1) m1 fun x2 m2 =>
 bp (opIndexAddr T 25 x2 (e 7)) m2 fun x4 m4 =>
 bp (opLoad T 22 x4 m4) m4 fun x5 m5 =>
 bnd (D 41 [x0, x5] m5) fun x6 m6 =>
 some (ups e [(50, x0), (51, x1), (52, x2), (53, e 7), (54, x4), (55, x5), (56, x6), (5, x6)], m6)
def r96_15 : RR := fun D e m =>
 bp (opBin T .neq 33 (e 5) (.int .i64 0)) m fun x1 m1 =>
 some (ups e [(57, e 5), (58, x1)], m1)
def r96_16 : RR := fun D e m =>
 some (ups e [(59, e 5), (4, e 5)], m)
def r96_17 : RR := fun D e m =>
 bp (opBin T .add 3 (e 7) (.int .i64 1)) m fun x1 m1 =>
 some (ups e [(48, e 7), (49, x1), (7, x1)], m1)
noncomputable def l96_18 : RC := fun D => (sq (sq (rg (r96_13 D)) (cnd (fun e => some (e 47)) sk (exi 2))) (sq (blk 3 (sq (rg (r96_14 D)) (sq (rg (r96_15 D)) (cnd (fun e => some (e 58)) (sq (rg (r96_16 D)) rt) sk)))) (rg (r96_17 D))))
def r96_19 : RR := fun D e m =>
 some (ups e [(4, .int .i64 0)], m)
noncomputable def c96 : RC := fun D => (sq (rg (r96_0 D)) (sq (rg (r96_1 D)) (sq (sq (rg (r96_2 D)) (cnd (fun e => some (e 11)) (sq (rg (r96_3 D)) rt) sk)) (sq (sq (rg (r96_4 D)) (cnd (fun e => some (e 26)) (sq (rg (r96_5 D)) rt) sk)) (sq (sq (rg (r96_6 D)) (blk 0 (loopD (l96_11 D)))) (sq (sq (rg (r96_12 D)) (blk 2 (loopD (l96_18 D)))) (sq (rg (r96_19 D)) rt)))))))
theorem e96 (a0 a1 : V) (m : Mem) : DD 96 [a0, a1] m = fin (c96 DD) (fun e m => some [e 4]) [a0, a1] m :=
 eOf (f := Tryz.f96) (by kernel_rfl) (by kernel_rfl)
def r97_0 : RR := fun D e m =>
 bnd (opBox (e 0) m) fun x0 m0 =>
 some (ups e [(3, x0), (6, .nils), (7, .nils)], m0)
def r97_1 : RR := fun D e m =>
 bp (opLoad T 24 (e 3) m) m fun x0 m0 =>
 bnd (D 131 [x0, e 1, e 2] m0) fun x3 m3 =>
 bnd (extV x3 0 m3) fun x5 m5 =>
 bnd (extV x3 1 m5) fun x6 m6 =>
 some (ups e [(11, x0), (12, e 1), (13, e 2), (14, x3), (10, x3), (15, x5), (16, x6), (8, x5), (9, x6)], m6)
def r97_2 : RR := fun D e m =>
 bp (opLen T 22 (e 9)) m fun x2 m2 =>
 bp (opSlice T 25 (e 8) none (some x2) none) m2 fun x3 m3 =>
 some (ups e [(17, e 8), (18, e 9), (19, x2), (20, x3), (21, e 9), (6, x3), (7, e 9)], m3)
noncomputable def c97 : RC := fun D => (sq (rg (r97_0 D)) (sq (rg (r97_1 D)) (sq (rg (r97_2 D)) rt)))
theorem e97 (a0 a1 a2 : V) (m : Mem) : DD 97 [a0, a1, a2] m = fin (c97 DD) (fun e m => some [e 6, e 7]) [a0, a1, a2] m :=
 eOf (f := Tryz.f97) (by kernel_rfl) (by kernel_rfl)
def r98_0 : RR := fun D e m =>
 some (ups e [(4, .bool false)], m)
def r98_1 : RR := fun D e m =>
 bp (opLen T 25 (e 0)) m fun x1 m1 =>
 bp (opLen T 25 (e 1)) m1 fun x3 m3 =>
 bp (opBin T .neq 3 x1 x3) m3 fun x4 m4 =>
 some (ups e [(6, e 0), (7, x1), (8, e 1), (9, x3), (10, x4)], m4)
def r98_2 : RR := fun D e m =>
 some (ups e [(4, .bool false)], m)
def r98_3 : RR := fun D e m =>
 some (ups e [(5, .int .i64 0)], m)
def r98_4 : RR := fun D e m =>
 bp (opLen T 25 (e 0)) m fun x2 m2 =>
 bp (opBin T .lss 3 (e 5) x2) m2 fun x3 m3 =>
 some (ups e [(11, e 5), (12, e 0), (13, x2), (14, x3)], m3)
def r98_5 : RR := fun D e m =>
 bp (opIndexAddr T 25 (e 0) (e 5)) m fun x2 m2 =>
 bp (opLoad T 22 x2 m2) m2 fun x3 m3 =>
 bp (opIndexAddr T 25 (e 1) (e 5)) m3 fun x6 m6 =>
 bp (opLoad T 22 x6 m6) m6 fun x7 m7 =>
 bnd (D 132 [x3, x7] m7) fun x8 m8 =>
 bp (opUn .not x8) m8 fun x9 m9 =>
 some (ups e [(17, e 0), (18, e 5), (19, x2), (20, x3), (21, e 1), (22, e 5), (23, x6), (24, x7), (25, x8), (26, x9)], m9)
def r98_6 : RR := fun D e m =>
 some (ups e [(4, .bool false)], m)
def r98_7 : RR := fun D e m =>
 bp (opBin T .add 3 (e 5) (.int .i64 1)) m fun x1 m1 =>
 some (ups e [(15, e 5), (16, x1), (5, x1)], m1)
noncomputable def l98_8 : RC := fun D => (sq (sq (rg (r98_4 D)) (cnd (fun e => some (e 14)) sk (exi 0))) (sq (blk 1 (sq (rg (r98_5 D)) (cnd (fun e => some (e 26)) (sq (rg (r98_6 D)) rt) sk))) (rg (r98_7 D))))
def r98_9 : RR := fun D e m =>
 some (ups e [(4, .bool true)], m)
noncomputable def c98 : RC := fun D => (sq (rg (r98_0 D)) (sq (sq (rg (r98_1 D)) (cnd (fun e => some (e 10)) (sq (rg (r98_2 D)) rt) sk)) (sq (sq (rg (r98_3 D)) (blk 0 (loopD (l98_8 D)))) (sq (rg (r98_9 D)) rt))))
theorem e98 (a0 a1 : V) (m : Mem) : DD 98 [a0, a1] m = fin (c98 DD) (fun e m => some [e 4]) [a0, a1] m :=
 eOf (f := Tryz.f98) (by kernel_rfl) (by kernel_rfl)
def r99_0 : RR := fun D e m =>
 bnd (opBox (e 0) m) fun x0 m0 =>
 some (ups e [(3, x0), (6, .int .i64 0)], m0)
def r99_1 : RR := fun D e m =>
 bp (opLoad T 27 (e 3) m) m fun x0 m0 =>
 bnd (D 30 [x0] m0) fun x1 m1 =>
 some (ups e [(8, x0), (9, x1), (7, x1)], m1)
def r99_2 : RR := fun D e m =>
 bp (opBin T .eql 33 (e 7) (.int .i64 0)) m fun x1 m1 =>
 bg x1 true (some ((e 1), m1)) m1 fun x3 m3 =>
 bg x1 true (lft (opBin T .lss 3 x3 (.int .i64 0)) m3) m3 fun x4 m4 =>
 bg x1 true (some (x4, m4)) m4 fun x5 m5 =>
 bg x5 false (some ((e 1), m5)) m5 fun x6 m6 =>
 bg x5 false (lft (opFieldAddr T 27 (e 3) 2) m6) m6 fun x7 m7 =>
 bg x5 false (lft (opLoad T 25 x7 m7) m7) m7 fun x8 m8 =>
 bg x5 false (lft (opLen T 25 x8) m8) m8 fun x9 m9 =>
 bg x5 false (lft (opBin T .gtr 3 x6 x9) m9) m9 fun x10 m10 =>
 bg x1 true (pickV x5 (.bool true) x10 m10) m10 fun x11 m11 =>
 bg x1 true (some (x11, m11)) m11 fun x12 m12 =>
 bg x12 false (some ((e 2), m12)) m12 fun x13 m13 =>
 bg x12 false (lft (opBin T .lss 3 x13 (.int .i64 0)) m13) m13 fun x14 m14 =>
 bg x1 true (pickV x12 (.bool true) x14 m14) m14 fun x15 m15 =>
 bg x1 true (some (x15, m15)) m15 fun x16 m16 =>
 bg x16 false (some ((e 2), m16)) m16 fun x17 m17 =>
 bg x16 false (lft (opFieldAddr T 27 (e 3) 1) m17) m17 fun x18 m18 =>
 bg x16 false (lft (opLoad T 3 x18 m18) m18) m18 fun x19 m19 =>
 bg x16 false (lft (opBin T .gtr 3 x17 x19) m19) m19 fun x20 m20 =>
 bg x1 true (pickV x16 (.bool true) x20 m20) m20 fun x21 m21 =>
 bnd (pickV x1 x21 (.bool false) m21) fun x22 m22 =>
 some (ups e [(10, e 7), (11, x1), (12, x1), (13, x3), (14, x4), (15, x5), (16, x6), (17, x7), (18, x8), (19, x9), (20, x10), (21, x11), (22, x12), (23, x13), (24, x14), (25, x15), (26, x16), (27, x17), (28, x18), (29, x19), (30, x20), (31, x21), (32, x22)], m22)
def r99_3 : RR := fun D e m =>
 some (ups e [(6, .int .i64 6)], m)
def r99_4 : RR := fun D e m =>
 some (ups e [(33, e 7), (6, e 7)], m)
noncomputable def c99 : RC := fun D => (sq (rg (r99_0 D)) (sq (rg (r99_1 D)) (sq (sq (rg (r99_2 D)) (cnd (fun e => some (e 32)) (sq (rg (r99_3 D)) rt) sk)) (sq (rg (r99_4 D)) rt))))
theorem e99 (a0 a1 a2 : V) (m : Mem) : DD 99 [a0, a1, a2] m = fin (c99 DD) (fun e m => some [e 6]) [a0, a1, a2] m :=
 eOf (f := Tryz.f99) (by kernel_rfl) (by kernel_rfl)
def r100_0 : RR := fun D e m =>
 bnd (opBox (e 0) m) fun x0 m0 =>
 bnd (opBox (e 1) m0) fun x1 m1 =>
 some (ups e [(2, x0), (3, x1), (4, .int .i64 0)], m1)
def r100_1 : RR := fun D e m =>
 bp (opLoad T 130 (e 2) m) m fun x0 m0 =>
 bp (opFieldAddr T 29 (e 3) 0) m0 fun x1 m1 =>
 bp (opLoad T 25 x1 m1) m1 fun x2 m2 =>
 bnd (D 133 [x0, .nils, .nils, x2] m2) fun x3 m3 =>
 bnd (extV x3 0 m3) fun x5 m5 =>
 bnd (extV x3 1 m5) fun x6 m6 =>
 some (ups e [(8, x0), (9, x1), (10, x2), (11, x3), (7, x3), (12, x5), (13, x6), (5, x5), (6, x6)], m6)
def r100_2 : RR := fun D e m =>
 bp (opUn .not (e 6)) m fun x1 m1 =>
 bg x1 false (some ((e 5), m1)) m1 fun x3 m3 =>
 bg x1 false (lft (opLen T 25 x3) m3) m3 fun x4 m4 =>
 bg x1 false (lft (opBin T .gtr 3 x4 (.int .i64 0)) m4) m4 fun x5 m5 =>
 bnd (pickV x1 (.bool true) x5 m5) fun x6 m6 =>
 some (ups e [(14, e 6), (15, x1), (16, x1), (17, x3), (18, x4), (19, x5), (20, x6)], m6)
def r100_3 : RR := fun D e m =>
 some (ups e [(4, .int .i64 13)], m)
def r100_4 : RR := fun D e m =>
 some (ups e [(4, .int .i64 0)], m)
noncomputable def c100 : RC := fun D => (sq (rg (r100_0 D)) (sq (rg (r100_1 D)) (sq (sq (rg (r100_2 D)) (cnd (fun e => some (e 20)) (sq (rg (r100_3 D)) rt) sk)) (sq (rg (r100_4 D)) rt))))
theorem e100 (a0 a1 : V) (m : Mem) : DD 100 [a0, a1] m = fin (c100 DD) (fun e m => some [e 4]) [a0, a1] m :=
 eOf (f := Tryz.f100) (by kernel_rfl) (by kernel_rfl)
def r115_0 : RR := fun D e m =>
 bnd (opBox (e 0) m) fun x0 m0 =>
 some (ups e [(3, x0), (6, .int .i64 0)], m0)
def r115_1 : RR := fun D e m =>
 bp (opLoad T 24 (e 3) m) m fun x0 m0 =>
 bnd (D 88 [x0, e 1] m0) fun x2 m2 =>
 some (ups e [(14, x0), (15, e 1), (16, x2), (7, x2)], m2)
def r115_2 : RR := fun D e m =>
 bp (opLoad T 24 (e 3) m) m fun x0 m0 =>
 bnd (D 88 [x0, e 2] m0) fun x2 m2 =>
 some (ups e [(17, x0), (18, e 2), (19, x2), (8, x2)], m2)
def r115_3 : RR := fun D e m =>
 bp (opFieldAddr T 24 (e 3) 1) m fun x0 m0 =>
 bp (opLoad T 3 x0 m0) m0 fun x1 m1 =>
 bp (opBin T .mul 3 (.int .i64 2) x1) m1 fun x2 m2 =>
 bp (opBin T .sub 3 x2 (.int .i64 1)) m2 fun x3 m3 =>
 bnd (opMakeSlice T 22 x3 x3 m3) fun x4 m4 =>
 some (ups e [(20, x0), (21, x1), (22, x2), (23, x3), (24, x4), (9, x4)], m4)
def r115_4 : RR := fun D e m =>
 some (ups e [(10, .int .i64 0)], m)
def r115_5 : RR := fun D e m =>
 bp (opFieldAddr T 24 (e 3) 1) m fun x1 m1 =>
 bp (opLoad T 3 x1 m1) m1 fun x2 m2 =>
 bp (opBin T .lss 3 (e 10) x2) m2 fun x3 m3 =>
 some (ups e [(25, e 10), (26, x1), (27, x2), (28, x3)], m3)
def r115_6 : RR := fun D e m =>
 some (ups e [(11, .int .i64 0)], m)
def r115_7 : RR := fun D e m =>
 bp (opFieldAddr T 24 (e 3) 1) m fun x1 m1 =>
 bp (opLoad T 3 x1 m1) m1 fun x2 m2 =>
 bp (opBin T .lss 3 (e 11) x2) m2 fun x3 m3 =>
 some (ups e [(31, e 11), (32, x1), (33, x2), (34, x3)], m3)
def r115_8 : RR := fun D e m =>
 bp (opBin T .add 3 (e 10) (e 11)) m fun x3 m3 =>
 bp (opBin T .add 3 (e 10) (e 11)) m3 fun x7 m7 =>
 bp (opIndexAddr T 22 (e 9) x7) m7 fun x8 m8 =>
 bp (opLoad T 3 x8 m8) m8 fun x9 m9 =>
 bp (opIndexAddr T 22 (e 7) (e 10)) m9 fun x12 m12 =>
 bp (opLoad T 3 x12 m12) m12 fun x13 m13 =>
 bp (opIndexAddr T 22 (e 8) (e 11)) m13 fun x16 m16 =>
 bp (opLoad T 3 x16 m16) m16 fun x17 m17 =>
 bp (opBin T .mul 3 x13 x17) m17 fun x18 m18 =>
 bp (opBin T .add 3 x9 x18) m18 fun x19 m19 =>
 bp (opFieldAddr T 24 (e 3) 0) m19 fun x20 m20 =>
 bp (opLoad T 3 x20 m20) m20 fun x21 m21 =>
 bp (opBin T .rem 3 x19 x21) m21 fun x22 m22 =>
 bp (opIndexAddr T 22 (e 9) x3) m22 fun x23 m23 =>
 bnd ((opStore T 3 x23 x22 m23).map (V.undef, ·)) fun x24 m24 =>
 some (ups e [(37, e 9), (38, e 10), (39, e 11), (40, x3), (41, e 9), (42, e 10), (43, e 11), (44, x7), (45, x8), (46, x9), (47, e 7), (48, e 10), (49, x12), (50, x13), (51, e 8), (52, e 11), (53, x16), (54, x17), (55, x18), (56, x19), (57, x20), (58, x21), (59, x22), (60, x23)], m24)
def r115_9 : RR := fun D e m =>
 bp (opBin T .add 3 (e 11) (.int .i64 1)) m fun x1 m1 =>
 some (ups e [(35, e 11), (36, x1), (11, x1)], m1)
noncomputable def l115_10 : RC := fun D => (sq (sq (rg (r115_7 D)) (cnd (fun e => some (e 34)) sk (exi 2))) (sq (blk 3 (rg (r115_8 D))) (rg (r115_9 D))))
def r115_11 : RR := fun D e m =>
 bp (opBin T .add 3 (e 10) (.int .i64 1)) m fun x1 m1 =>
 some (ups e [(29, e 10), (30, x1), (10, x1)], m1)
noncomputable def l115_12 : RC := fun D => (sq (sq (rg (r115_5 D)) (cnd (fun e => some (e 28)) sk (exi 0))) (sq (blk 1 (sq (rg (r115_6 D)) (blk 2 (loopD (l115_10 D))))) (rg (r115_11 D))))
def r115_13 : RR := fun D e m =>
 bp (opFieldAddr T 24 (e 3) 1) m fun x0 m0 =>
 bp (opLoad T 3 x0 m0) m0 fun x1 m1 =>
 bp (opBin T .mul 3 (.int .i64 2) x1) m1 fun x2 m2 =>
 bp (opBin T .sub 3 x2 (.int .i64 2)) m2 fun x3 m3 =>
 some (ups e [(61, x0), (62, x1), (63, x2), (64, x3), (12, x3)], m3)
def r115_14 : RR := fun D e m =>
 bp (opFieldAddr T 24 (e 3) 1) m fun x1 m1 =>
 bp (opLoad T 3 x1 m1) m1 fun x2 m2 =>
 bp (opBin T .geq 3 (e 12) x2) m2 fun x3 m3 =>
 some (ups e [(65, e 12), (66, x1), (67, x2), (68, x3)], m3)
def r115_15 : RR := fun D e m =>
 some (ups e [(13, .int .i64 0)], m)
def r115_16 : RR := fun D e m =>
 bp (opFieldAddr T 24 (e 3) 1) m fun x1 m1 =>
 bp (opLoad T 3 x1 m1) m1 fun x2 m2 =>
 bp (opBin T .lss 3 (e 13) x2) m2 fun x3 m3 =>
 some (ups e [(71, e 13), (72, x1), (73, x2), (74, x3)], m3)
def r115_17 : RR := fun D e m =>
 bp (opFieldAddr T 24 (e 3) 1) m fun x2 m2 =>
 bp (opLoad T 3 x2 m2) m2 fun x3 m3 =>
 bp (opBin T .sub 3 (e 12) x3) m3 fun x4 m4 =>
 bp (opBin T .add 3 x4 (e 13)) m4 fun x6 m6 =>
 bp (opFieldAddr T 24 (e 3) 1) m6 fun x9 m9 =>
 bp (opLoad T 3 x9 m9) m9 fun x10 m10 =>
 bp (opBin T .sub 3 (e 12) x10) m10 fun x11 m11 =>
 bp (opBin T .add 3 x11 (e 13)) m11 fun x13 m13 =>
 bp (opIndexAddr T 22 (e 9) x13) m13 fun x14 m14 =>
 bp (opLoad T 3 x14 m14) m14 fun x15 m15 =>
 bp (opFieldAddr T 24 (e 3) 0) m15 fun x16 m16 =>
 bp (opLoad T 3 x16 m16) m16 fun x17 m17 =>
 bp (opIndexAddr T 22 (e 9) (e 12)) m17 fun x20 m20 =>
 bp (opLoad T 3 x20 m20) m20 fun x21 m21 =>
 bp (opBin T .sub 3 x17 x21) m21 fun x22 m22 =>
 bp (opFieldAddr T 24 (e 3) 2) m22 fun x23 m23 =>
 bp (opLoad T 22 x23 m23) m23 fun x24 m24 =>
 bp (opIndexAddr T 22 x24 (e 13)) m24 fun x26 m26 =>
 bp (opLoad T 3 x26 m26) m26 fun x27 m27 =>
 bp (opBin T .mul 3 x22 x27) m27 fun x28 m28 =>
 bp (opBin T .add 3 x15 x28) m28 fun x29 m29 =>
 bp (opFieldAddr T 24 (e 3) 0) m29 fun x30 m30 =>
 bp (opLoad T 3 x30 m30) m30 fun x31 m31 =>
 bp (opBin T .rem 3 x29 x31) m31 fun x32 m32 =>
 bp (opIndexAddr T 22 (e 9) x6) m32 fun x33 m33 =>
 bnd ((opStore T 3 x33 x32 m33).map (V.undef, ·)) fun x34 m34 =>
 some (ups e [(77, e 9), (78, e 12), (79, x2), (80, x3), (81, x4), (82, e 13), (83, x6), (84, e 9), (85, e 12), (86, x9), (87, x10), (88, x11), (89, e 13), (90, x13), (91, x14), (92, x15), (93, x16), (94, x17), (95, e 9), (96, e 12), (97, x20), (98, x21), (99, x22), (100, x23), (101, x24), (102, e 13), (103, x26), (104, x27), (105, x28), (106, x29), (107, x30), (108, x31), (109, x32), (110, x33)], m34)
def r115_18 : RR := fun D e m =>
 bp (opBin T .add 3 (e 13) (.int .i64 1)) m fun x1 m1 =>
 some (ups e [(75, e 13), (76, x1), (13, x1)], m1)
noncomputable def l115_19 : RC := fun D => (sq (sq (rg (r115_16 D)) (cnd (fun e => some (e 74)) sk (exi 6))) (sq (blk 7 (rg (r115_17 D))) (rg (r115_18 D))))
def r115_20 : RR := fun D e m =>
 bp (opBin T .sub 3 (e 12) (.int .i64 1)) m fun x1 m1 =>
 some (ups e [(69, e 12), (70, x1), (12, x1)], m1)
noncomputable def l115_21 : RC := fun D => (sq (sq (rg (r115_14 D)) (cnd (fun e => some (e 68)) sk (exi 4))) (sq (blk 5 (sq (rg (r115_15 D)) (blk 6 (loopD (l115_19 D))))) (rg (r115_20 D))))
def r115_22 : RR := fun D e m =>
 bp (opLoad T 24 (e 3) m) m fun x0 m0 =>
 bp (opFieldAddr T 24 (e 3) 1) m0 fun x2 m2 =>
 bp (opLoad T 3 x2 m2) m2 fun x3 m3 =>
 bp (opSlice T 22 (e 9) none (some x3) none) m3 fun x4 m4 =>
 bnd (D 89 [x0, x4] m4) fun x5 m5 =>
 some (ups e [(111, x0), (112, e 9), (113, x2), (114, x3), (115, x4), (116, x5), (6, x5)], m5)
noncomputable def c115 : RC := fun D => (sq (rg (r115_0 D)) (sq (rg (r115_1 D)) (sq (rg (r115_2 D)) (sq (rg (r115_3 D)) (sq (sq (rg (r115_4 D)) (blk 0 (loopD (l115_12 D)))) (sq (sq (rg (r115_13 D)) (blk 4 (loopD (l115_21 D)))) (sq (rg (r115_22 D)) rt)))))))
theorem e115 (a0 a1 a2 : V) (m : Mem) : DD 115 [a0, a1, a2] m = fin (c115 DD) (fun e m => some [e 6]) [a0, a1, a2] m :=
 eOf (f := Tryz.f115) (by kernel_rfl) (by kernel_rfl)
def r116_0 : RR := fun D e m =>
 some (ups e [(2, .bool false)], m)
def r116_1 : RR := fun D e m =>
 some (ups e [(3, .int .i64 2)], m)
def r116_2 : RR := fun D e m =>
 bp (opBin T .mul 3 (e 3) (e 3)) m fun x2 m2 =>
 bp (opBin T .leq 3 x2 (e 0)) m2 fun x4 m4 =>
 some (ups e [(4, e 3), (5, e 3), (6, x2), (7, e 0), (8, x4)], m4)
def r116_3 : RR := fun D e m =>
 bp (opBin T .rem 3 (e 0) (e 3)) m fun x2 m2 =>
 bp (opBin T .eql 3 x2 (.int .i64 0)) m2 fun x3 m3 =>
 some (ups e [(11, e 0), (12, e 3), (13, x2), (14, x3)], m3)
def r116_4 : RR := fun D e m =>
 some (ups e [(2, .bool false)], m)
def r116_5 : RR := fun D e m =>
 bp (opBin T .add 3 (e 3) (.int .i64 1)) m fun x1 m1 =>
 some (ups e [(9, e 3), (10, x1), (3, x1)], m1)
noncomputable def l116_6 : RC := fun D => (sq (sq (rg (r116_2 D)) (cnd (fun e => some (e 8)) sk (exi 0))) (sq (blk 1 (sq (rg (r116_3 D)) (cnd (fun e => some (e 14)) (sq (rg (r116_4 D)) rt) sk))) (rg (r116_5 D))))
def r116_7 : RR := fun D e m =>
 bp (opBin T .geq 3 (e 0) (.int .i64 2)) m fun x1 m1 =>
 some (ups e [(15, e 0), (16, x1), (2, x1)], m1)
noncomputable def c116 : RC := fun D => (sq (rg (r116_0 D)) (sq (sq (rg (r116_1 D)) (blk 0 (loopD (l116_6 D)))) (sq (rg (r116_7 D)) rt)))
theorem e116 (a0 : V) (m : Mem) : DD 116 [a0] m = fin (c116 DD) (fun e m => some [e 2]) [a0] m :=
 eOf (f := Tryz.f116) (by kernel_rfl) (by kernel_rfl)
def r117_0 : RR := fun D e m =>
 bnd (opBox (e 0) m) fun x0 m0 =>
 some (ups e [(3, x0), (6, .nils)], m0)
def r117_1 : RR := fun D e m =>
 bnd (opBuildSlice T 22 1 [(0, .int .i64 1)] m) fun x0 m0 =>
 some (ups e [(10, x0), (7, x0)], m0)
def r117_2 : RR := fun D e m =>
 bnd (opMakeSlice T 170 (e 1) (e 1) m) fun x1 m1 =>
 some (ups e [(11, e 1), (12, x1), (8, x1)], m1)
def r117_3 : RR := fun D e m =>
 bp (opIndexAddr T 170 (e 8) (.int .i64 1)) m fun x1 m1 =>
 bnd ((opStore T 4 x1 (.bool true) m1).map (V.undef, ·)) fun x2 m2 =>
 some (ups e [(13, e 8), (14, x1)], m2)
def r117_4 : RR := fun D e m =>
 some (ups e [(15, e 2), (9, e 2)], m)
def r117_5 : RR := fun D e m =>
 bp (opBin T .neq 3 (e 9) (.int .i64 0)) m fun x1 m1 =>
 bg x1 true (some ((e 8), m1)) m1 fun x3 m3 =>
 bg x1 true (some ((e 9), m3)) m3 fun x4 m4 =>
 bg x1 true (lft (opIndexAddr T 170 x3 x4) m4) m4 fun x5 m5 =>
 bg x1 true (lft (opLoad T 4 x5 m5) m5) m5 fun x6 m6 =>
 bg x1 true (lft (opUn .not x6) m6) m6 fun x7 m7 =>
 bnd (pickV x1 x7 (.bool false) m7) fun x8 m8 =>
 some (ups e [(16, e 9), (17, x1), (18, x1), (19, x3), (20, x4), (21, x5), (22, x6), (23, x7), (24, x8)], m8)
def r117_6 : RR := fun D e m =>
 bp (opIndexAddr T 170 (e 8) (e 9)) m fun x2 m2 =>
 bnd ((opStore T 4 x2 (.bool true) m2).map (V.undef, ·)) fun x3 m3 =>
 some (ups e [(29, e 8), (30, e 9), (31, x2)], m3)
def r117_7 : RR := fun D e m =>
 bnd (opBuildSlice T 22 1 [(0, e 9)] m) fun x2 m2 =>
 bnd (opAppend T 22 22 (e 7) x2 m2) fun x3 m3 =>
 some (ups e [(32, e 7), (33, e 9), (34, x2), (35, x3), (7, x3)], m3)
def r117_8 : RR := fun D e m =>
 bp (opLoad T 24 (e 3) m) m fun x0 m0 =>
 bnd (D 118 [x0, e 9, e 2] m0) fun x3 m3 =>
 some (ups e [(25, x0), (26, e 9), (27, e 2), (28, x3), (9, x3)], m3)
noncomputable def l117_9 : RC := fun D => (sq (sq (rg (r117_5 D)) (cnd (fun e => some (e 24)) sk (exi 0))) (sq (blk 1 (sq (rg (r117_6 D)) (rg (r117_7 D)))) (rg (r117_8 D))))
def r117_10 : RR := fun D e m =>
 some (ups e [(36, e 7), (6, e 7)], m)
noncomputable def c117 : RC := fun D => (sq (rg (r117_0 D)) (sq (rg (r117_1 D)) (sq (rg (r117_2 D)) (sq (rg (r117_3 D)) (sq (sq (rg (r117_4 D)) (blk 0 (loopD (l117_9 D)))) (sq (rg (r117_10 D)) rt))))))
theorem e117 (a0 a1 a2 : V) (m : Mem) : DD 117 [a0, a1, a2] m = fin (c117 DD) (fun e m => some [e 6]) [a0, a1, a2] m :=
 eOf (f := Tryz.f117) (by kernel_rfl) (by kernel_rfl)
def r118_0 : RR := fun D e m =>
 bnd (opBox (e 0) m) fun x0 m0 =>
 some (ups e [(3, x0), (6, .int .i64 0)], m0)
noncomputable def r118_1 : RR := fun D e m =>
 bp (opFieldAddr T 24 (e 3) 0) m fun x1 m1 =>
 bp (opLoad T 3 x1 m1) m1 fun x2 m2 =>
 bp (opFieldAddr T 24 (e 3) 1) m2 fun x3 m3 =>
 bp (opLoad T 3 x3 m3) m3 fun x4 m4 =>
 bnd (D 144 [e 1, x2, x4] m4) fun x5 m5 => chkd m4 m5 (
 bp (opFieldAddr T 24 (e 3) 0) m5 fun x7 m7 =>
 bp (opLoad T 3 x7 m7) m7 fun x8 m8 =>
 bp (opFieldAddr T 24 (e 3) 1) m8 fun x9 m9 =>
 bp (opLoad T 3 x9 m9) m9 fun x10 m10 =>
 bnd (D 144 [e 2, x8, x10] m10) fun x11 m11 =>
 some (ups e [(14, e 1), (15, x1), (16, x2), (17, x3), (18, x4), (19, x5), (20, e 2), (21, x7), (22, x8), (23, x9), (24, x10), (25, x11), (7, x5), (8, x11)], m11))
def r118_2 : RR := fun D e m =>
 bp (opFieldAddr T 24 (e 3) 1) m fun x0 m0 =>
 bp (opLoad T 3 x0 m0) m0 fun x1 m1 =>
 bnd (opMakeSlice T 22 x1 x1 m1) fun x2 m2 =>
 some (ups e [(26, x0), (27, x1), (28, x2), (9, x2)], m2)
def r118_3 : RR := fun D e m =>
 bp (opFieldAddr T 24 (e 3) 1) m fun x0 m0 =>
 bp (opLoad T 3 x0 m0) m0 fun x1 m1 =>
 bp (opBin T .sub 3 x1 (.int .i64 1)) m1 fun x2 m2 =>
 some (ups e [(29, x0), (30, x1), (31, x2), (10, x2)], m2)
def r118_4 : RR := fun D e m =>
 bp (opBin T .geq 3 (e 10) (.int .i64 0)) m fun x1 m1 =>
 some (ups e [(32, e 10), (33, x1)], m1)
def r118_5 : RR := fun D e m =>
 bp (opFieldAddr T 24 (e 3) 1) m fun x1 m1 =>
 bp (opLoad T 3 x1 m1) m1 fun x2 m2 =>
 bp (opBin T .sub 3 x2 (.int .i64 1)) m2 fun x3 m3 =>
 bp (opIndexAddr T 22 (e 9) x3) m3 fun x4 m4 =>
 bp (opLoad T 3 x4 m4) m4 fun x5 m5 =>
 some (ups e [(36, e 9), (37, x1), (38, x2), (39, x3), (40, x4), (41, x5), (11, x5)], m5)
def r118_6 : RR := fun D e m =>
 bp (opSlice T 22 (e 9) (some (.int .i64 1)) none none) m fun x1 m1 =>
 bp (opFieldAddr T 24 (e 3) 1) m1 fun x3 m3 =>
 bp (opLoad T 3 x3 m3) m3 fun x4 m4 =>
 bp (opBin T .sub 3 x4 (.int .i64 1)) m4 fun x5 m5 =>
 bp (opSlice T 22 (e 9) none (some x5) none) m5 fun x6 m6 =>
 bnd (opCopy T 22 x1 x6 m6) fun x7 m7 =>
 some (ups e [(42, e 9), (43, x1), (44, e 9), (45, x3), (46, x4), (47, x5), (48, x6), (49, x7)], m7)
def r118_7 : RR := fun D e m =>
 bp (opIndexAddr T 22 (e 9) (.int .i64 0)) m fun x1 m1 =>
 bnd ((opStore T 3 x1 (.int .i64 0) m1).map (V.undef, ·)) fun x2 m2 =>
 some (ups e [(50, e 9), (51, x1)], m2)
def r118_8 : RR := fun D e m =>
 bp (opLen T 22 (e 9)) m fun x1 m1 =>
 some (ups e [(52, e 9), (53, x1), (54, .int .i64 0)], m1)
def r118_9 : RR := fun D e m =>
 bp (opBin T .lss 3 (e 54) (e 53)) m fun x0 m0 =>
 some (ups e [(55, x0)], m0)
def r118_10 : RR := fun D e m =>
 some (ups e [(56, e 54), (12, e 54)], m)
def r118_11 : RR := fun D e m =>
 some (ups e [(13, .int .i64 0)], m)
def r118_12 : RR := fun D e m =>
 bp (opFieldAddr T 24 (e 3) 1) m fun x0 m0 =>
 bp (opLoad T 3 x0 m0) m0 fun x1 m1 =>
 bp (opBin T .gtr 3 x1 (.int .i64 1)) m1 fun x2 m2 =>
 some (ups e [(57, x0), (58, x1), (59, x2)], m2)
def r118_13 : RR := fun D e m =>
 bp (opFieldAddr T 24 (e 3) 2) m fun x0 m0 =>
 bp (opLoad T 22 x0 m0) m0 fun x1 m1 =>
 bp (opIndexAddr T 22 x1 (e 12)) m1 fun x3 m3 =>
 bp (opLoad T 3 x3 m3) m3 fun x4 m4 =>
 some (ups e [(60, x0), (61, x1), (62, e 12), (63, x3), (64, x4), (13, x4)], m4)
def r118_14 : RR := fun D e m =>
 bp (opIndexAddr T 22 (e 9) (e 12)) m fun x4 m4 =>
 bp (opLoad T 3 x4 m4) m4 fun x5 m5 =>
 bp (opFieldAddr T 24 (e 3) 0) m5 fun x6 m6 =>
 bp (opLoad T 3 x6 m6) m6 fun x7 m7 =>
 bp (opBin T .sub 3 x7 (e 11)) m7 fun x9 m9 =>
 bp (opBin T .mul 3 x9 (e 13)) m9 fun x11 m11 =>
 bp (opBin T .add 3 x5 x11) m11 fun x12 m12 =>
 bp (opIndexAddr T 22 (e 8) (e 10)) m12 fun x15 m15 =>
 bp (opLoad T 3 x15 m15) m15 fun x16 m16 =>
 bp (opIndexAddr T 22 (e 7) (e 12)) m16 fun x19 m19 =>
 bp (opLoad T 3 x19 m19) m19 fun x20 m20 =>
 bp (opBin T .mul 3 x16 x20) m20 fun x21 m21 =>
 bp (opBin T .add 3 x12 x21) m21 fun x22 m22 =>
 bp (opFieldAddr T 24 (e 3) 0) m22 fun x23 m23 =>
 bp (opLoad T 3 x23 m23) m23 fun x24 m24 =>
 bp (opBin T .rem 3 x22 x24) m24 fun x25 m25 =>
 bp (opIndexAddr T 22 (e 9) (e 12)) m25 fun x26 m26 =>
 bnd ((opStore T 3 x26 x25 m26).map (V.undef, ·)) fun x27 m27 =>
 some (ups e [(65, e 9), (66, e 12), (67, e 9), (68, e 12), (69, x4), (70, x5), (71, x6), (72, x7), (73, e 11), (74, x9), (75, e 13), (76, x11), (77, x12), (78, e 8), (79, e 10), (80, x15), (81, x16), (82, e 7), (83, e 12), (84, x19), (85, x20), (86, x21), (87, x22), (88, x23), (89, x24), (90, x25), (91, x26)], m27)
def r118_15 : RR := fun D e m =>
 bp (opBin T .add 3 (e 54) (.int .i64 1)) m fun x0 m0 =>
 some (ups e [(92, x0), (54, x0)], m0)
noncomputable def l118_16 : RC := fun D => (sq (rg (r118_9 D)) (sq (cnd (fun e => some (e 55)) sk (exi 2)) (sq (blk 3 (sq (rg (r118_10 D)) (sq (rg (r118_11 D)) (sq (sq (rg (r118_12 D)) (cnd (fun e => some (e 59)) (rg (r118_13 D)) sk)) (rg (r118_14 D)))))) (rg (r118_15 D)))))
def r118_17 : RR := fun D e m =>
 bp (opBin T .sub 3 (e 10) (.int .i64 1)) m fun x1 m1 =>
 some (ups e [(34, e 10), (35, x1), (10, x1)], m1)
noncomputable def l118_18 : RC := fun D => (sq (sq (rg (r118_4 D)) (cnd (fun e => some (e 33)) sk (exi 0))) (sq (blk 1 (sq (rg (r118_5 D)) (sq (rg (r118_6 D)) (sq (rg (r118_7 D)) (sq (rg (r118_8 D)) (blk 2 (loopD (l118_16 D)))))))) (rg (r118_17 D))))
def r118_19 : RR := fun D e m =>
 bp (opFieldAddr T 24 (e 3) 0) m fun x1 m1 =>
 bp (opLoad T 3 x1 m1) m1 fun x2 m2 =>
 bnd (D 145 [e 9, x2] m2) fun x3 m3 =>
 some (ups e [(93, e 9), (94, x1), (95, x2), (96, x3), (6, x3)], m3)
noncomputable def c118 : RC := fun D => (sq (rg (r118_0 D)) (sq (rg (r118_1 D)) (sq (rg (r118_2 D)) (sq (sq (rg (r118_3 D)) (blk 0 (loopD (l118_18 D)))) (sq (rg (r118_19 D)) rt)))))
theorem e118 (a0 a1 a2 : V) (m : Mem) : DD 118 [a0, a1, a2] m = fin (c118 DD) (fun e m => some [e 6]) [a0, a1, a2] m :=
 eOf (f := Tryz.f118) (by kernel_rfl) (by kernel_rfl)
def r119_0 : RR := fun D e m =>
 some (ups e [(4, .int .i64 0)], m)
def r119_1 : RR := fun D e m =>
 bp (opLen T 22 (e 0)) m fun x1 m1 =>
 some (ups e [(6, e 0), (7, x1), (8, .int .i64 0)], m1)
def r119_2 : RR := fun D e m =>
 bp (opBin T .lss 3 (e 8) (e 7)) m fun x0 m0 =>
 some (ups e [(9, x0)], m0)
def r119_3 : RR := fun D e m =>
 some (ups e [(10, e 8), (5, e 8)], m)
def r119_4 : RR := fun D e m =>
 bp (opIndexAddr T 22 (e 0) (e 5)) m fun x3 m3 =>
 bp (opLoad T 3 x3 m3) m3 fun x4 m4 =>
 bp (opBin T .eql 3 (e 1) x4) m4 fun x5 m5 =>
 some (ups e [(11, e 1), (12, e 0), (13, e 5), (14, x3), (15, x4), (16, x5)], m5)
def r119_5 : RR := fun D e m =>
 some (ups e [(17, e 5), (4, e 5)], m)
def r119_6 : RR := fun D e m =>
 bp (opBin T .add 3 (e 8) (.int .i64 1)) m fun x0 m0 =>
 some (ups e [(18, x0), (8, x0)], m0)
noncomputable def l119_7 : RC := fun D => (sq (rg (r119_2 D)) (sq (cnd (fun e => some (e 9)) sk (exi 0)) (sq (blk 1 (sq (rg (r119_3 D)) (sq (rg (r119_4 D)) (cnd (fun e => some (e 16)) (sq (rg (r119_5 D)) rt) sk)))) (rg (r119_6 D)))))
def r119_8 : RR := fun D e m =>
 some (ups e [(4, (.int .i64 (-1)))], m)
noncomputable def c119 : RC := fun D => (sq (rg (r119_0 D)) (sq (sq (rg (r119_1 D)) (blk 0 (loopD (l119_7 D)))) (sq (rg (r119_8 D)) rt)))
theorem e119 (a0 a1 : V) (m : Mem) : DD 119 [a0, a1] m = fin (c119 DD) (fun e m => some [e 4]) [a0, a1] m :=
 eOf (f := Tryz.f119) (by kernel_rfl) (by kernel_rfl)
def r123_0 : RR := fun D e m =>
 some (ups e [(6, .nils)], m)
def r123_1 : RR := fun D e m =>
 bnd (opMakeSlice T 22 (e 2) (e 2) m) fun x1 m1 =>
 some (ups e [(9, e 2), (10, x1), (7, x1)], m1)
def r123_2 : RR := fun D e m =>
 some (ups e [(8, .int .i64 0)], m)
def r123_3 : RR := fun D e m =>
 bp (opBin T .lss 3 (e 8) (e 2)) m fun x2 m2 =>
 some (ups e [(11, e 8), (12, e 2), (13, x2)], m2)
def r123_4 : RR := fun D e m =>
 bp (opBin T .rem 3 (e 0) (e 1)) m fun x4 m4 =>
 bp (opIndexAddr T 22 (e 7) (e 8)) m4 fun x5 m5 =>
 bnd ((opStore T 3 x5 x4 m5).map (V.undef, ·)) fun x6 m6 =>
 some (ups e [(16, e 7), (17, e 8), (18, e 0), (19, e 1), (20, x4), (21, x5)], m6)
def r123_5 : RR := fun D e m =>
 bp (opBin T .quo 3 (e 0) (e 1)) m fun x2 m2 =>
 some (ups e [(22, e 0), (23, e 1), (24, x2), (0, x2)], m2)
def r123_6 : RR := fun D e m =>
 bp (opBin T .add 3 (e 8) (.int .i64 1)) m fun x1 m1 =>
 some (ups e [(14, e 8), (15, x1), (8, x1)], m1)
noncomputable def l123_7 : RC := fun D => (sq (sq (rg (r123_3 D)) (cnd (fun e => some (e 13)) sk (exi 0))) (sq (blk 1 (sq (rg (r123_4 D)) (rg (r123_5 D)))) (rg (r123_6 D))))
def r123_8 : RR := fun D e m =>
 some (ups e [(25, e 7), (6, e 7)], m)
noncomputable def c123 : RC := fun D => (sq (rg (r123_0 D)) (sq (rg (r123_1 D)) (sq (sq (rg (r123_2 D)) (blk 0 (loopD (l123_7 D)))) (sq (rg (r123_8 D)) rt))))
theorem e123 (a0 a1 a2 : V) (m : Mem) : DD 123 [a0, a1, a2] m = fin (c123 DD) (fun e m => some [e 6]) [a0, a1, a2] m :=
 eOf (f := Tryz.f123) (by kernel_rfl) (by kernel_rfl)
def r124_0 : RR := fun D e m =>
 bnd (opBox (e 0) m) fun x0 m0 =>
 some (ups e [(2, x0), (4, .int .i64 0)], m0)
def r124_1 : RR := fun D e m =>
 bp (opLoad T 24 (e 2) m) m fun x0 m0 =>
 bnd (D 74 [x0, e 1] m0) fun x2 m2 =>
 some (ups e [(5, x0), (6, e 1), (7, x2)], m2)
def r124_2 : RR := fun D e m =>
 some (ups e [(8, e 1), (4, e 1)], m)
def r124_3 : RR := fun D e m =>
 some (ups e [(4, .int .i64 0)], m)
noncomputable def c124 : RC := fun D => (sq (rg (r124_0 D)) (sq (sq (rg (r124_1 D)) (cnd (fun e => some (e 7)) (sq (rg (r124_2 D)) rt) sk)) (sq (rg (r124_3 D)) rt)))
theorem e124 (a0 a1 : V) (m : Mem) : DD 124 [a0, a1] m = fin (c124 DD) (fun e m => some [e 4]) [a0, a1] m :=
 eOf (f := Tryz.f124) (by kernel_rfl) (by kernel_rfl)
def r125_0 : RR := fun D e m =>
 bnd (opBox (e 0) m) fun x0 m0 =>
 bnd (opBox (e 1) m0) fun x1 m1 =>
 bnd (opAlloc T 88 m1) fun x2 m2 =>
 some (ups e [(2, x0), (3, x1), (4, x2), (5, .nils), (6, .int .i64 0)], m2)
def r125_1 : RR := fun D e m =>
 bp (opLoad T 24 (e 2) m) m fun x0 m0 =>
 bp (opLoad T 88 (e 3) m0) m0 fun x1 m1 =>
 bnd (opBuildSlice T 181 1 [(0, x1)] m1) fun x2 m2 =>
 bnd (D 141 [x0, x2] m2) fun x3 m3 =>
 bnd (extV x3 0 m3) fun x5 m5 =>
 bnd (extV x3 1 m5) fun x6 m6 =>
 some (ups e [(12, x0), (13, x1), (14, x2), (15, x3), (11, x3), (16, x5), (17, x6), (7, x5), (8, x6)], m6)
def r125_2 : RR := fun D e m =>
 bp (opBin T .neq 33 (e 8) (.int .i64 0)) m fun x1 m1 =>
 some (ups e [(18, e 8), (19, x1)], m1)
def r125_3 : RR := fun D e m =>
 bp (opBuild T 88 []) m fun x0 m0 =>
 bnd ((opStore T 88 (e 4) x0 m0).map (V.undef, ·)) fun x2 m2 =>
 some (ups e [(20, x0), (21, e 8), (5, .nils), (6, e 8)], m2)
def r125_4 : RR := fun D e m =>
 bp (opFieldAddr T 88 (e 3) 1) m fun x1 m1 =>
 bp (opLoad T 25 x1 m1) m1 fun x2 m2 =>
 bp (opFieldAddr T 88 (e 3) 0) m2 fun x3 m3 =>
 bp (opLoad T 3 x3 m3) m3 fun x4 m4 =>
 bnd (D 149 [e 7, x2, x4] m4) fun x5 m5 =>
 bnd (extV x5 0 m5) fun x7 m7 =>
 bnd (extV x5 1 m7) fun x8 m8 =>
 some (ups e [(23, e 7), (24, x1), (25, x2), (26, x3), (27, x4), (28, x5), (22, x5), (29, x7), (30, x8), (9, x7), (10, x8)], m8)
def r125_5 : RR := fun D e m =>
 bp (opFieldAddr T 88 (e 3) 0) m fun x0 m0 =>
 bp (opLoad T 3 x0 m0) m0 fun x1 m1 =>
 bp (opBuild T 88 [(0, x1), (1, e 9)]) m1 fun x3 m3 =>
 bnd ((opStore T 88 (e 4) x3 m3).map (V.undef, ·)) fun x5 m5 =>
 some (ups e [(31, x0), (32, x1), (33, e 9), (34, x3), (35, e 10), (5, e 10), (6, .int .i64 0)], m5)
noncomputable def c125 : RC := fun D => (sq (rg (r125_0 D)) (sq (rg (r125_1 D)) (sq (sq (rg (r125_2 D)) (cnd (fun e => some (e 19)) (sq (rg (r125_3 D)) rt) sk)) (sq (rg (r125_4 D)) (sq (rg (r125_5 D)) rt)))))
theorem e125 (a0 a1 : V) (m : Mem) : DD 125 [a0, a1] m = fin (c125 DD) (fun e m => resVs T e m Tryz.f125.results.toList) [a0, a1] m :=
 eOf (f := Tryz.f125) (by kernel_rfl) (by kernel_rfl)
def r126_0 : RR := fun D e m =>
 some (ups e [(6, .bool false)], m)
def r126_1 : RR := fun D e m =>
 bp (opLen T 25 (e 0)) m fun x1 m1 =>
 bp (opLen T 25 (e 1)) m1 fun x3 m3 =>
 bp (opBin T .neq 3 x1 x3) m3 fun x4 m4 =>
 some (ups e [(10, e 0), (11, x1), (12, e 1), (13, x3), (14, x4)], m4)
def r126_2 : RR := fun D e m =>
 some (ups e [(6, .bool false)], m)
def r126_3 : RR := fun D e m =>
 bp (opLen T 25 (e 0)) m fun x1 m1 =>
 some (ups e [(15, e 0), (16, x1), (17, .int .i64 0)], m1)
def r126_4 : RR := fun D e m =>
 bp (opBin T .lss 3 (e 17) (e 16)) m fun x0 m0 =>
 some (ups e [(18, x0)], m0)
def r126_5 : RR := fun D e m =>
 bp (opIndexAddr T 25 (e 15) (e 17)) m fun x1 m1 =>
 bp (opLoad T 22 x1 m1) m1 fun x2 m2 =>
 some (ups e [(19, e 17), (20, x1), (21, x2), (7, e 17), (8, x2)], m2)
def r126_6 : RR := fun D e m =>
 bp (opIndexAddr T 25 (e 1) (e 7)) m fun x2 m2 =>
 bp (opLoad T 22 x2 m2) m2 fun x3 m3 =>
 some (ups e [(22, e 1), (23, e 7), (24, x2), (25, x3), (9, x3)], m3)
def r126_7 : RR := fun D e m =>
 bnd (callV D (e 2) [e 8, e 9] m) fun x3 m3 =>
 bp (opUn .not x3) m3 fun x4 m4 =>
 some (ups e [(26, e 2), (27, e 8), (28, e 9), (29, x3), (30, x4)], m4)
def r126_8 : RR := fun D e m =>
 some (ups e [(6, .bool false)], m)
def r126_9 : RR := fun D e m =>
 bp (opBin T .add 3 (e 17) (.int .i64 1)) m fun x0 m0 =>
 some (ups e [(31, x0), (17, x0)], m0)
noncomputable def l126_10 : RC := fun D => (sq (rg (r126_4 D)) (sq (cnd (fun e => some (e 18)) sk (exi 0)) (sq (blk 1 (sq (rg (r126_5 D)) (sq (rg (r126_6 D)) (sq (rg (r126_7 D)) (cnd (fun e => some (e 30)) (sq (rg (r126_8 D)) rt) sk))))) (rg (r126_9 D)))))
def r126_11 : RR := fun D e m =>
 some (ups e [(6, .bool true)], m)
noncomputable def c126 : RC := fun D => (sq (rg (r126_0 D)) (sq (sq (rg (r126_1 D)) (cnd (fun e => some (e 14)) (sq (rg (r126_2 D)) rt) sk)) (sq (sq (rg (r126_3 D)) (blk 0 (loopD (l126_10 D)))) (sq (rg (r126_11 D)) rt))))
theorem e126 (a0 a1 a2 : V) (m : Mem) : DD 126 [a0, a1, a2] m = fin (c126 DD) (fun e m => some [e 6]) [a0, a1, a2] m :=
 eOf (f := Tryz.f126) (by kernel_rfl) (by kernel_rfl)
def r127_0 : RR := fun D e m =>
 some (ups e [(4, .bool false)], m)
def r127_1 : RR := fun D e m =>
 bp (opLen T 22 (e 0)) m fun x1 m1 =>
 bp (opLen T 22 (e 1)) m1 fun x3 m3 =>
 bp (opBin T .neq 3 x1 x3) m3 fun x4 m4 =>
 some (ups e [(6, e 0), (7, x1), (8, e 1), (9, x3), (10, x4)], m4)
def r127_2 : RR := fun D e m =>
 some (ups e [(4, .bool false)], m)
def r127_3 : RR := fun D e m =>
 bp (opLen T 22 (e 0)) m fun x1 m1 =>
 some (ups e [(11, e 0), (12, x1), (13, .int .i64 0)], m1)
def r127_4 : RR := fun D e m =>
 bp (opBin T .lss 3 (e 13) (e 12)) m fun x0 m0 =>
 some (ups e [(14, x0)], m0)
def r127_5 : RR := fun D e m =>
 some (ups e [(15, e 13), (5, e 13)], m)
def r127_6 : RR := fun D e m =>
 bp (opIndexAddr T 22 (e 0) (e 5)) m fun x2 m2 =>
 bp (opLoad T 3 x2 m2) m2 fun x3 m3 =>
 bp (opIndexAddr T 22 (e 1) (e 5)) m3 fun x6 m6 =>
 bp (opLoad T 3 x6 m6) m6 fun x7 m7 =>
 bp (opBin T .neq 3 x3 x7) m7 fun x8 m8 =>
 some (ups e [(16, e 0), (17, e 5), (18, x2), (19, x3), (20, e 1), (21, e 5), (22, x6), (23, x7), (24, x8)], m8)
def r127_7 : RR := fun D e m =>
 some (ups e [(4, .bool false)], m)
def r127_8 : RR := fun D e m =>
 bp (opBin T .add 3 (e 13) (.int .i64 1)) m fun x0 m0 =>
 some (ups e [(25, x0), (13, x0)], m0)
noncomputable def l127_9 : RC := fun D => (sq (rg (r127_4 D)) (sq (cnd (fun e => some (e 14)) sk (exi 0)) (sq (blk 1 (sq (rg (r127_5 D)) (sq (rg (r127_6 D)) (cnd (fun e => some (e 24)) (sq (rg (r127_7 D)) rt) sk)))) (rg (r127_8 D)))))
def r127_10 : RR := fun D e m =>
 some (ups e [(4, .bool true)], m)
noncomputable def c127 : RC := fun D => (sq (rg (r127_0 D)) (sq (sq (rg (r127_1 D)) (cnd (fun e => some (e 10)) (sq (rg (r127_2 D)) rt) sk)) (sq (sq (rg (r127_3 D)) (blk 0 (loopD (l127_9 D)))) (sq (rg (r127_10 D)) rt))))
theorem e127 (a0 a1 : V) (m : Mem) : DD 127 [a0, a1] m = fin (c127 DD) (fun e m => some [e 4]) [a0, a1] m :=
 eOf (f := Tryz.f127) (by kernel_rfl) (by kernel_rfl)
def r128_0 : RR := fun D e m =>
 bnd (opBox (e 0) m) fun x0 m0 =>
 some (ups e [(2, x0), (4, .nilp), (5, .int .i64 0)], m0)
def r128_1 : RR := fun D e m =>
 bp (opLoad T 27 (e 2) m) m fun x0 m0 =>
 bnd (D 26 [x0] m0) fun x1 m1 =>
 some (ups e [(9, x0), (10, x1), (6, x1)], m1)
def r128_2 : RR := fun D e m =>
 bp (opBin T .neq 33 (e 6) (.int .i64 0)) m fun x1 m1 =>
 some (ups e [(11, e 6), (12, x1)], m1)
def r128_3 : RR := fun D e m =>
 some (ups e [(13, e 6), (4, .nilp), (5, e 6)], m)
def r128_4 : RR := fun D e m =>
 bp (opFieldAddr T 27 (e 2) 0) m fun x0 m0 =>
 bp (opLoad T 24 x0 m0) m0 fun x1 m1 =>
 bnd (D 45 [x1] m1) fun x2 m2 =>
 bnd (extV x2 0 m2) fun x4 m4 =>
 bnd (extV x2 1 m4) fun x5 m5 =>
 some (ups e [(15, x0), (16, x1), (17, x2), (14, x2), (18, x4), (19, x5), (7, x4), (8, x5)], m5)
def r128_5 : RR := fun D e m =>
 bp (opLoad T 27 (e 2) m) m fun x1 m1 =>
 bp (opBuild T 157 [(0, e 7), (1, x1), (5, e 1)]) m1 fun x3 m3 =>
 bnd (opBox x3 m3) fun x4 m4 =>
 some (ups e [(20, e 7), (21, x1), (22, e 1), (23, x3), (24, x4), (25, e 8), (4, x4), (5, e 8)], m4)
noncomputable def c128 : RC := fun D => (sq (rg (r128_0 D)) (sq (sq (rg (r128_1 D)) (sq (rg (r128_2 D)) (cnd (fun e => some (e 12)) (sq (rg (r128_3 D)) rt) sk))) (sq (rg (r128_4 D)) (sq (rg (r128_5 D)) rt))))
theorem e128 (a0 a1 : V) (m : Mem) : DD 128 [a0, a1] m = fin (c128 DD) (fun e m => some [e 4, e 5]) [a0, a1] m :=
 eOf (f := Tryz.f128) (by kernel_rfl) (by kernel_rfl)
def r129_0 : RR := fun D e m =>
 some (ups e [(6, .int .i64 0)], m)
def r129_1 : RR := fun D e m =>
 bnd (nilChk (e 0) m) fun x1 m1 =>
 bp (opFieldAddr T 157 x1 7) m1 fun x2 m2 =>
 bp (opLoad T 3 x2 m2) m2 fun x3 m3 =>
 bnd (nilChk (e 0) m3) fun x5 m5 =>
 bp (opFieldAddr T 157 x5 6) m5 fun x6 m6 =>
 bp (opLoad T 25 x6 m6) m6 fun x7 m7 =>
 bp (opLen T 25 x7) m7 fun x8 m8 =>
 bp (opBin T .eql 3 x3 x8) m8 fun x9 m9 =>
 bg x9 false (some ((e 0), m9)) m9 fun x11 m11 =>
 bg x9 false (some ((e 1), m11)) m11 fun x12 m12 =>
 bg x9 false (some ((e 0), m12)) m12 fun x13 m13 =>
 bg x9 false (nilChk x13 m13) m13 fun x14 m14 =>
 bg x9 false (lft (opFieldAddr T 157 x14 6) m14) m14 fun x15 m15 =>
 bg x9 false (lft (opLoad T 25 x15 m15) m15) m15 fun x16 m16 =>
 bg x9 false (some ((e 0), m16)) m16 fun x17 m17 =>
 bg x9 false (nilChk x17 m17) m17 fun x18 m18 =>
 bg x9 false (lft (opFieldAddr T 157 x18 7) m18) m18 fun x19 m19 =>
 bg x9 false (lft (opLoad T 3 x19 m19) m19) m19 fun x20 m20 =>
 bg x9 false (lft (opIndexAddr T 25 x16 x20) m20) m20 fun x21 m21 =>
 bg x9 false (lft (opLoad T 22 x21 m21) m21) m21 fun x22 m22 =>
 bg x9 false (D 150 [x11, x12, x22] m22) m22 fun x23 m23 =>
 bg x9 false (lft (opUn .not x23) m23) m23 fun x24 m24 =>
 bnd (pickV x9 (.bool true) x24 m24) fun x25 m25 =>
 some (ups e [(7, e 0), (8, x1), (9, x2), (10, x3), (11, e 0), (12, x5), (13, x6), (14, x7), (15, x8), (16, x9), (17, x9), (18, x11), (19, x12), (20, x13), (21, x14), (22, x15), (23, x16), (24, x17), (25, x18), (26, x19), (27, x20), (28, x21), (29, x22), (30, x23), (31, x24), (32, x25)], m25)
def r129_2 : RR := fun D e m =>
 some (ups e [(6, .int .i64 13)], m)
def r129_3 : RR := fun D e m =>
 bnd (nilChk (e 0) m) fun x1 m1 =>
 bp (opFieldAddr T 157 x1 7) m1 fun x2 m2 =>
 bp (opLoad T 3 x2 m2) m2 fun x3 m3 =>
 bp (opBin T .add 3 x3 (.int .i64 1)) m3 fun x4 m4 =>
 bnd (nilChk (e 0) m4) fun x5 m5 =>
 bp (opFieldAddr T 157 x5 7) m5 fun x6 m6 =>
 bnd ((opStore T 3 x6 x4 m6).map (V.undef, ·)) fun x7 m7 =>
 some (ups e [(33, e 0), (34, x1), (35, x2), (36, x3), (37, x4), (38, x5), (39, x6)], m7)
def r129_4 : RR := fun D e m =>
 bnd (nilChk (e 0) m) fun x4 m4 =>
 bp (opFieldAddr T 157 x4 6) m4 fun x5 m5 =>
 bp (opLoad T 25 x5 m5) m5 fun x6 m6 =>
 bnd (nilChk (e 0) m6) fun x8 m8 =>
 bp (opFieldAddr T 157 x8 7) m8 fun x9 m9 =>
 bp (opLoad T 3 x9 m9) m9 fun x10 m10 =>
 bp (opBin T .sub 3 x10 (.int .i64 1)) m10 fun x11 m11 =>
 bp (opIndexAddr T 25 x6 x11) m11 fun x12 m12 =>
 bp (opLoad T 22 x12 m12) m12 fun x13 m13 =>
 bnd (D 151 [e 0, e 1, e 2, x13, (.fn 129 [e 0] [])] m13) fun x16 m16 =>
 some (ups e [(40, e 0), (41, e 1), (42, e 2), (43, e 0), (44, x4), (45, x5), (46, x6), (47, e 0), (48, x8), (49, x9), (50, x10), (51, x11), (52, x12), (53, x13), (54, e 0), (55, (.fn 129 [e 0] [])), (56, x16), (6, x16)], m16)
noncomputable def c129 : RC := fun D => (sq (rg (r129_0 D)) (sq (sq (rg (r129_1 D)) (cnd (fun e => some (e 32)) (sq (rg (r129_2 D)) rt) sk)) (sq (rg (r129_3 D)) (sq (rg (r129_4 D)) rt))))
theorem e129 (a0 a1 a2 : V) (m : Mem) : DD 129 [a0, a1, a2] m = fin (c129 DD) (fun e m => some [e 6]) [a0, a1, a2] m :=
 eOf (f := Tryz.f129) (by kernel_rfl) (by kernel_rfl)
def r130_0 : RR := fun D e m =>
 some (ups e [(6, .bool false)], m)
def r130_1 : RR := fun D e m =>
 bp (opLen T 22 (e 0)) m fun x1 m1 =>
 some (ups e [(13, e 0), (14, x1), (7, x1)], m1)
def r130_2 : RR := fun D e m =>
 bnd (opBuildSlice T 22 0 [] m) fun x0 m0 =>
 bnd (opAppend T 22 22 x0 (e 1) m0) fun x2 m2 =>
 some (ups e [(15, x0), (16, e 1), (17, x2), (8, x2)], m2)
def r130_3 : RR := fun D e m =>
 bnd (opBuildSlice T 22 1 [(0, .int .i64 1)] m) fun x1 m1 =>
 bnd (opAppend T 22 22 (e 8) x1 m1) fun x2 m2 =>
 some (ups e [(18, e 8), (19, x1), (20, x2), (8, x2)], m2)
def r130_4 : RR := fun D e m =>
 bp (opLen T 22 (e 8)) m fun x1 m1 =>
 bp (opBin T .sub 3 x1 (.int .i64 1)) m1 fun x2 m2 =>
 some (ups e [(21, e 8), (22, x1), (23, x2), (9, x2)], m2)
def r130_5 : RR := fun D e m =>
 bp (opBin T .geq 3 (e 9) (e 7)) m fun x2 m2 =>
 some (ups e [(24, e 9), (25, e 7), (26, x2)], m2)
def r130_6 : RR := fun D e m =>
 bp (opIndexAddr T 22 (e 8) (e 9)) m fun x2 m2 =>
 bp (opLoad T 3 x2 m2) m2 fun x3 m3 =>
 some (ups e [(29, e 8), (30, e 9), (31, x2), (32, x3), (10, x3)], m3)
def r130_7 : RR := fun D e m =>
 some (ups e [(11, .int .i64 0)], m)
def r130_8 : RR := fun D e m =>
 bp (opBin T .lss 3 (e 11) (e 7)) m fun x2 m2 =>
 some (ups e [(33, e 11), (34, e 7), (35, x2)], m2)
def r130_9 : RR := fun D e m =>
 bp (opBin T .sub 3 (e 9) (e 7)) m fun x3 m3 =>
 bp (opBin T .add 3 x3 (e 11)) m3 fun x5 m5 =>
 bp (opBin T .sub 3 (e 9) (e 7)) m5 fun x9 m9 =>
 bp (opBin T .add 3 x9 (e 11)) m9 fun x11 m11 =>
 bp (opIndexAddr T 22 (e 8) x11) m11 fun x12 m12 =>
 bp (opLoad T 3 x12 m12) m12 fun x13 m13 =>
 bp (opBin T .sub 3 (e 2) (e 10)) m13 fun x16 m16 =>
 bp (opIndexAddr T 22 (e 0) (e 11)) m16 fun x19 m19 =>
 bp (opLoad T 3 x19 m19) m19 fun x20 m20 =>
 bp (opBin T .mul 3 x16 x20) m20 fun x21 m21 =>
 bp (opBin T .add 3 x13 x21) m21 fun x22 m22 =>
 bp (opBin T .rem 3 x22 (e 2)) m22 fun x24 m24 =>
 bp (opIndexAddr T 22 (e 8) x5) m24 fun x25 m25 =>
 bnd ((opStore T 3 x25 x24 m25).map (V.undef, ·)) fun x26 m26 =>
 some (ups e [(38, e 8), (39, e 9), (40, e 7), (41, x3), (42, e 11), (43, x5), (44, e 8), (45, e 9), (46, e 7), (47, x9), (48, e 11), (49, x11), (50, x12), (51, x13), (52, e 2), (53, e 10), (54, x16), (55, e 0), (56, e 11), (57, x19), (58, x20), (59, x21), (60, x22), (61, e 2), (62, x24), (63, x25)], m26)
def r130_10 : RR := fun D e m =>
 bp (opBin T .add 3 (e 11) (.int .i64 1)) m fun x1 m1 =>
 some (ups e [(36, e 11), (37, x1), (11, x1)], m1)
noncomputable def l130_11 : RC := fun D => (sq (sq (rg (r130_8 D)) (cnd (fun e => some (e 35)) sk (exi 2))) (sq (blk 3 (rg (r130_9 D))) (rg (r130_10 D))))
def r130_12 : RR := fun D e m =>
 bp (opIndexAddr T 22 (e 8) (e 9)) m fun x2 m2 =>
 bnd ((opStore T 3 x2 (.int .i64 0) m2).map (V.undef, ·)) fun x3 m3 =>
 some (ups e [(64, e 8), (65, e 9), (66, x2)], m3)
def r130_13 : RR := fun D e m =>
 bp (opBin T .sub 3 (e 9) (.int .i64 1)) m fun x1 m1 =>
 some (ups e [(27, e 9), (28, x1), (9, x1)], m1)
noncomputable def l130_14 : RC := fun D => (sq (sq (rg (r130_5 D)) (cnd (fun e => some (e 26)) sk (exi 0))) (sq (blk 1 (sq (rg (r130_6 D)) (sq (sq (rg (r130_7 D)) (blk 2 (loopD (l130_11 D)))) (rg (r130_12 D))))) (rg (r130_13 D))))
def r130_15 : RR := fun D e m =>
 some (ups e [(12, .int .i64 0)], m)
def r130_16 : RR := fun D e m =>
 bp (opLen T 22 (e 8)) m fun x2 m2 =>
 bp (opBin T .lss 3 (e 12) x2) m2 fun x3 m3 =>
 some (ups e [(67, e 12), (68, e 8), (69, x2), (70, x3)], m3)
def r130_17 : RR := fun D e m =>
 bp (opIndexAddr T 22 (e 8) (e 12)) m fun x2 m2 =>
 bp (opLoad T 3 x2 m2) m2 fun x3 m3 =>
 bp (opBin T .neq 3 x3 (.int .i64 0)) m3 fun x4 m4 =>
 some (ups e [(73, e 8), (74, e 12), (75, x2), (76, x3), (77, x4)], m4)
def r130_18 : RR := fun D e m =>
 some (ups e [(6, .bool false)], m)
def r130_19 : RR := fun D e m =>
 bp (opBin T .add 3 (e 12) (.int .i64 1)) m fun x1 m1 =>
 some (ups e [(71, e 12), (72, x1), (12, x1)], m1)
noncomputable def l130_20 : RC := fun D => (sq (sq (rg (r130_16 D)) (cnd (fun e => some (e 70)) sk (exi 4))) (sq (blk 5 (sq (rg (r130_17 D)) (cnd (fun e => some (e 77)) (sq (rg (r130_18 D)) rt) sk))) (rg (r130_19 D))))
def r130_21 : RR := fun D e m =>
 some (ups e [(6, .bool true)], m)
noncomputable def c130 : RC := fun D => (sq (rg (r130_0 D)) (sq (rg (r130_1 D)) (sq (rg (r130_2 D)) (sq (rg (r130_3 D)) (sq (sq (rg (r130_4 D)) (blk 0 (loopD (l130_14 D)))) (sq (sq (rg (r130_15 D)) (blk 4 (loopD (l130_20 D)))) (sq (rg (r130_21 D)) rt)))))))
theorem e130 (a0 a1 a2 : V) (m : Mem) : DD 130 [a0, a1, a2] m = fin (c130 DD) (fun e m => some [e 6]) [a0, a1, a2] m :=
 eOf (f := Tryz.f130) (by kernel_rfl) (by kernel_rfl)
def r131_0 : RR := fun D e m =>
 bnd (opBox (e 0) m) fun x0 m0 =>
 some (ups e [(3, x0), (6, .nils), (7, .nils)], m0)
def r131_1 : RR := fun D e m =>
 bnd (D 152 [e 1] m) fun x1 m1 =>
 some (ups e [(14, e 1), (15, x1), (8, x1)], m1)
def r131_2 : RR := fun D e m =>
 some (ups e [(9, .nils)], m)
def r131_3 : RR := fun D e m =>
 some (ups e [(10, .int .i64 0)], m)
def r131_4 : RR := fun D e m =>
 some (ups e [(11, .int .i64 0)], m)
def r131_5 : RR := fun D e m =>
 bp (opBin T .lss 3 (e 11) (e 2)) m fun x2 m2 =>
 bg x2 true (some ((e 10), m2)) m2 fun x4 m4 =>
 bg x2 true (some ((e 8), m4)) m4 fun x5 m5 =>
 bg x2 true (lft (opLen T 25 x5) m5) m5 fun x6 m6 =>
 bg x2 true (lft (opBin T .lss 3 x4 x6) m6) m6 fun x7 m7 =>
 bnd (pickV x2 x7 (.bool false) m7) fun x8 m8 =>
 some (ups e [(16, e 11), (17, e 2), (18, x2), (19, x2), (20, x4), (21, x5), (22, x6), (23, x7), (24, x8)], m8)
def r131_6 : RR := fun D e m =>
 some (ups e [(27, e 10), (12, e 10)], m)
def r131_7 : RR := fun D e m =>
 bp (opLen T 25 (e 8)) m fun x2 m2 =>
 bp (opBin T .lss 3 (e 12) x2) m2 fun x3 m3 =>
 bg x3 true (some ((e 8), m3)) m3 fun x5 m5 =>
 bg x3 true (some ((e 12), m5)) m5 fun x6 m6 =>
 bg x3 true (lft (opIndexAddr T 25 x5 x6) m6) m6 fun x7 m7 =>
 bg x3 true (lft (opLoad T 22 x7 m7) m7) m7 fun x8 m8 =>
 bg x3 true (some ((e 11), m8)) m8 fun x9 m9 =>
 bg x3 true (lft (opIndexAddr T 22 x8 x9) m9) m9 fun x10 m10 =>
 bg x3 true (lft (opLoad T 3 x10 m10) m10) m10 fun x11 m11 =>
 bg x3 true (lft (opBin T .eql 3 x11 (.int .i64 0)) m11) m11 fun x12 m12 =>
 bnd (pickV x3 x12 (.bool false) m12) fun x13 m13 =>
 some (ups e [(28, e 12), (29, e 8), (30, x2), (31, x3), (32, x3), (33, x5), (34, x6), (35, x7), (36, x8), (37, x9), (38, x10), (39, x11), (40, x12), (41, x13)], m13)
def r131_8 : RR := fun D e m =>
 bp (opBin T .add 3 (e 12) (.int .i64 1)) m fun x1 m1 =>
 some (ups e [(42, e 12), (43, x1), (12, x1)], m1)
noncomputable def l131_9 : RC := fun D => (sq (sq (rg (r131_7 D)) (cnd (fun e => some (e 41)) sk (exi 2))) (blk 3 (rg (r131_8 D))))
def r131_10 : RR := fun D e m =>
 bp (opLen T 25 (e 8)) m fun x2 m2 =>
 bp (opBin T .eql 3 (e 12) x2) m2 fun x3 m3 =>
 some (ups e [(44, e 12), (45, e 8), (46, x2), (47, x3)], m3)
def r131_11 : RR := fun D e m =>
 bp (opIndexAddr T 25 (e 8) (e 12)) m fun x6 m6 =>
 bp (opLoad T 22 x6 m6) m6 fun x7 m7 =>
 bp (opIndexAddr T 25 (e 8) (e 10)) m7 fun x10 m10 =>
 bp (opLoad T 22 x10 m10) m10 fun x11 m11 =>
 bp (opIndexAddr T 25 (e 8) (e 10)) m11 fun x12 m12 =>
 bnd ((opStore T 22 x12 x7 m12).map (V.undef, ·)) fun x13 m13 =>
 bp (opIndexAddr T 25 (e 8) (e 12)) m13 fun x14 m14 =>
 bnd ((opStore T 22 x14 x11 m14).map (V.undef, ·)) fun x15 m15 =>
 some (ups e [(48, e 8), (49, e 10), (50, e 8), (51, e 12), (52, e 8), (53, e 12), (54, x6), (55, x7), (56, e 8), (57, e 10), (58, x10), (59, x11), (60, x12), (61, x14)], m15)
def r131_12 : RR := fun D e m =>
 bp (opIndexAddr T 25 (e 8) (e 10)) m fun x2 m2 =>
 bp (opLoad T 22 x2 m2) m2 fun x3 m3 =>
 bp (opIndexAddr T 22 x3 (e 11)) m3 fun x5 m5 =>
 bp (opLoad T 3 x5 m5) m5 fun x6 m6 =>
 bp (opBin T .neq 3 x6 (.int .i64 1)) m6 fun x7 m7 =>
 some (ups e [(62, e 8), (63, e 10), (64, x2), (65, x3), (66, e 11), (67, x5), (68, x6), (69, x7)], m7)
noncomputable def r131_13 : RR := fun D e m =>
 bp (opLoad T 24 (e 3) m) m fun x2 m2 =>
 bp (opLoad T 24 (e 3) m2) m2 fun x3 m3 =>
 bp (opIndexAddr T 25 (e 8) (e 10)) m3 fun x6 m6 =>
 bp (opLoad T 22 x6 m6) m6 fun x7 m7 =>
 bp (opIndexAddr T 22 x7 (e 11)) m7 fun x9 m9 =>
 bp (opLoad T 3 x9 m9) m9 fun x10 m10 =>
 bnd (D 154 [x3, x10] m10) fun x11 m11 => chkd m10 m11 (
 bp (opIndexAddr T 25 (e 8) (e 10)) m11 fun x14 m14 =>
 bp (opLoad T 22 x14 m14) m14 fun x15 m15 =>
 bnd (D 153 [x2, x11, x15] m15) fun x16 m16 =>
 bp (opIndexAddr T 25 (e 8) (e 10)) m16 fun x17 m17 =>
 bnd ((opStore T 22 x17 x16 m17).map (V.undef, ·)) fun x18 m18 =>
 some (ups e [(70, e 8), (71, e 10), (72, x2), (73, x3), (74, e 8), (75, e 10), (76, x6), (77, x7), (78, e 11), (79, x9), (80, x10), (81, x11), (82, e 8), (83, e 10), (84, x14), (85, x15), (86, x16), (87, x17)], m18))
def r131_14 : RR := fun D e m =>
 some (ups e [(13, .int .i64 0)], m)
def r131_15 : RR := fun D e m =>
 bp (opLen T 25 (e 8)) m fun x2 m2 =>
 bp (opBin T .lss 3 (e 13) x2) m2 fun x3 m3 =>
 some (ups e [(88, e 13), (89, e 8), (90, x2), (91, x3)], m3)
def r131_16 : RR := fun D e m =>
 bp (opBin T .neq 3 (e 13) (e 10)) m fun x2 m2 =>
 bg x2 true (some ((e 8), m2)) m2 fun x4 m4 =>
 bg x2 true (some ((e 13), m4)) m4 fun x5 m5 =>
 bg x2 true (lft (opIndexAddr T 25 x4 x5) m5) m5 fun x6 m6 =>
 bg x2 true (lft (opLoad T 22 x6 m6) m6) m6 fun x7 m7 =>
 bg x2 true (some ((e 11), m7)) m7 fun x8 m8 =>
 bg x2 true (lft (opIndexAddr T 22 x7 x8) m8) m8 fun x9 m9 =>
 bg x2 true (lft (opLoad T 3 x9 m9) m9) m9 fun x10 m10 =>
 bg x2 true (lft (opBin T .neq 3 x10 (.int .i64 0)) m10) m10 fun x11 m11 =>
 bnd (pickV x2 x11 (.bool false) m11) fun x12 m12 =>
 some (ups e [(94, e 13), (95, e 10), (96, x2), (97, x2), (98, x4), (99, x5), (100, x6), (101, x7), (102, x8), (103, x9), (104, x10), (105, x11), (106, x12)], m12)
noncomputable def r131_17 : RR := fun D e m =>
 bp (opLoad T 24 (e 3) m) m fun x2 m2 =>
 bp (opIndexAddr T 25 (e 8) (e 13)) m2 fun x5 m5 =>
 bp (opLoad T 22 x5 m5) m5 fun x6 m6 =>
 bp (opLoad T 24 (e 3) m6) m6 fun x7 m7 =>
 bp (opIndexAddr T 25 (e 8) (e 13)) m7 fun x10 m10 =>
 bp (opLoad T 22 x10 m10) m10 fun x11 m11 =>
 bp (opIndexAddr T 22 x11 (e 11)) m11 fun x13 m13 =>
 bp (opLoad T 3 x13 m13) m13 fun x14 m14 =>
 bnd (D 155 [x7, x14] m14) fun x15 m15 => chkd m14 m15 (
 bp (opIndexAddr T 25 (e 8) (e 10)) m15 fun x18 m18 =>
 bp (opLoad T 22 x18 m18) m18 fun x19 m19 =>
 bnd (D 75 [x2, x6, x15, x19] m19) fun x20 m20 =>
 bp (opIndexAddr T 25 (e 8) (e 13)) m20 fun x21 m21 =>
 bnd ((opStore T 22 x21 x20 m21).map (V.undef, ·)) fun x22 m22 =>
 some (ups e [(107, e 8), (108, e 13), (109, x2), (110, e 8), (111, e 13), (112, x5), (113, x6), (114, x7), (115, e 8), (116, e 13), (117, x10), (118, x11), (119, e 11), (120, x13), (121, x14), (122, x15), (123, e 8), (124, e 10), (125, x18), (126, x19), (127, x20), (128, x21)], m22))
def r131_18 : RR := fun D e m =>
 bp (opBin T .add 3 (e 13) (.int .i64 1)) m fun x1 m1 =>
 some (ups e [(92, e 13), (93, x1), (13, x1)], m1)
noncomputable def l131_19 : RC := fun D => (sq (sq (rg (r131_15 D)) (cnd (fun e => some (e 91)) sk (exi 4))) (sq (blk 5 (sq (rg (r131_16 D)) (cnd (fun e => some (e 106)) (rg (r131_17 D)) sk))) (rg (r131_18 D))))
def r131_20 : RR := fun D e m =>
 bnd (opBuildSlice T 22 1 [(0, e 11)] m) fun x2 m2 =>
 bnd (opAppend T 22 22 (e 9) x2 m2) fun x3 m3 =>
 some (ups e [(129, e 9), (130, e 11), (131, x2), (132, x3), (9, x3)], m3)
def r131_21 : RR := fun D e m =>
 bp (opBin T .add 3 (e 10) (.int .i64 1)) m fun x1 m1 =>
 some (ups e [(133, e 10), (134, x1), (10, x1)], m1)
def r131_22 : RR := fun D e m =>
 bp (opBin T .add 3 (e 11) (.int .i64 1)) m fun x1 m1 =>
 some (ups e [(25, e 11), (26, x1), (11, x1)], m1)
noncomputable def l131_23 : RC := fun D => (sq (sq (rg (r131_5 D)) (cnd (fun e => some (e 24)) sk (exi 0))) (sq (blk 1 (sq (rg (r131_6 D)) (sq (blk 2 (loopD (l131_9 D))) (sq (sq (rg (r131_10 D)) (cnd (fun e => some (e 47)) (exi 1) sk)) (sq (rg (r131_11 D)) (sq (sq (rg (r131_12 D)) (cnd (fun e => some (e 69)) (rg (r131_13 D)) sk)) (sq (sq (rg (r131_14 D)) (blk 4 (loopD (l131_19 D)))) (sq (rg (r131_20 D)) (rg (r131_21 D)))))))))) (rg (r131_22 D))))
def r131_24 : RR := fun D e m =>
 some (ups e [(135, e 8), (136, e 9), (6, e 8), (7, e 9)], m)
noncomputable def c131 : RC := fun D => (sq (rg (r131_0 D)) (sq (rg (r131_1 D)) (sq (rg (r131_2 D)) (sq (rg (r131_3 D)) (sq (sq (rg (r131_4 D)) (blk 0 (loopD (l131_23 D)))) (sq (rg (r131_24 D)) rt))))))
theorem e131 (a0 a1 a2 : V) (m : Mem) : DD 131 [a0, a1, a2] m = fin (c131 DD) (fun e m => some [e 6, e 7]) [a0, a1, a2] m :=
 eOf (f := Tryz.f131) (by kernel_rfl) (by kernel_rfl)
def r132_0 : RR := fun D e m =>
 some (ups e [(4, .bool false)], m)
def r132_1 : RR := fun D e m =>
 bp (opLen T 22 (e 0)) m fun x1 m1 =>
 bp (opLen T 22 (e 1)) m1 fun x3 m3 =>
 bp (opBin T .neq 3 x1 x3) m3 fun x4 m4 =>
 some (ups e [(6, e 0), (7, x1), (8, e 1), (9, x3), (10, x4)], m4)
def r132_2 : RR := fun D e m =>
 some (ups e [(4, .bool false)], m)
def r132_3 : RR := fun D e m =>
 some (ups e [(5, .int .i64 0)], m)
def r132_4 : RR := fun D e m =>
 bp (opLen T 22 (e 0)) m fun x2 m2 =>
 bp (opBin T .lss 3 (e 5) x2) m2 fun x3 m3 =>
 some (ups e [(11, e 5), (12, e 0), (13, x2), (14, x3)], m3)
def r132_5 : RR := fun D e m =>
 bp (opIndexAddr T 22 (e 0) (e 5)) m fun x2 m2 =>
 bp (opLoad T 3 x2 m2) m2 fun x3 m3 =>
 bp (opIndexAddr T 22 (e 1) (e 5)) m3 fun x6 m6 =>
 bp (opLoad T 3 x6 m6) m6 fun x7 m7 =>
 bp (opBin T .neq 3 x3 x7) m7 fun x8 m8 =>
 some (ups e [(17, e 0), (18, e 5), (19, x2), (20, x3), (21, e 1), (22, e 5), (23, x6), (24, x7), (25, x8)], m8)
def r132_6 : RR := fun D e m =>
 some (ups e [(4, .bool false)], m)
def r132_7 : RR := fun D e m =>
 bp (opBin T .add 3 (e 5) (.int .i64 1)) m fun x1 m1 =>
 some (ups e [(15, e 5), (16, x1), (5, x1)], m1)
noncomputable def l132_8 : RC := fun D => (sq (sq (rg (r132_4 D)) (cnd (fun e => some (e 14)) sk (exi 0))) (sq (blk 1 (sq (rg (r132_5 D)) (cnd (fun e => some (e 25)) (sq (rg (r132_6 D)) rt) sk))) (rg (r132_7 D))))
def r132_9 : RR := fun D e m =>
 some (ups e [(4, .bool true)], m)
noncomputable def c132 : RC := fun D => (sq (rg (r132_0 D)) (sq (sq (rg (r132_1 D)) (cnd (fun e => some (e 10)) (sq (rg (r132_2 D)) rt) sk)) (sq (sq (rg (r132_3 D)) (blk 0 (loopD (l132_8 D)))) (sq (rg (r132_9 D)) rt))))
theorem e132 (a0 a1 : V) (m : Mem) : DD 132 [a0, a1] m = fin (c132 DD) (fun e m => some [e 4]) [a0, a1] m :=
 eOf (f := Tryz.f132) (by kernel_rfl) (by kernel_rfl)
def r133_0 : RR := fun D e m =>
 bnd (opBox (e 0) m) fun x0 m0 =>
 some (ups e [(4, x0), (8, .nils), (9, .bool false)], m0)
def r133_1 : RR := fun D e m =>
 bp (opLen T 25 (e 3)) m fun x1 m1 =>
 bp (opBin T .eql 3 x1 (.int .i64 0)) m1 fun x2 m2 =>
 bg x2 false (lft (opLoad T 130 (e 4) m2) m2) m2 fun x4 m4 =>
 bg x2 false (some ((e 1), m4)) m4 fun x5 m5 =>
 bg x2 false (some ((e 3), m5)) m5 fun x6 m6 =>
 bg x2 false (lft (opIndexAddr T 25 x6 (.int .i64 0)) m6) m6 fun x7 m7 =>
 bg x2 false (lft (opLoad T 22 x7 m7) m7) m7 fun x8 m8 =>
 bg x2 false (D 156 [x4, x5, x8] m8) m8 fun x9 m9 =>
 bg x2 false (lft (opUn .not x9) m9) m9 fun x10 m10 =>
 bnd (pickV x2 (.bool true) x10 m10) fun x11 m11 =>
 some (ups e [(14, e 3), (15, x1), (16, x2), (17, x2), (18, x4), (19, x5), (20, x6), (21, x7), (22, x8), (23, x9), (24, x10), (25, x11)], m11)
def r133_2 : RR := fun D e m =>
 some (ups e [(8, .nils), (9, .bool false)], m)
def r133_3 : RR := fun D e m =>
 bp (opLoad T 130 (e 4) m) m fun x0 m0 =>
 bp (opIndexAddr T 25 (e 3) (.int .i64 0)) m0 fun x4 m4 =>
 bp (opLoad T 22 x4 m4) m4 fun x5 m5 =>
 bnd (D 157 [x0, e 1, e 2, x5] m5) fun x6 m6 =>
 some (ups e [(26, x0), (27, e 1), (28, e 2), (29, e 3), (30, x4), (31, x5), (32, x6), (10, x6)], m6)
def r133_4 : RR := fun D e m =>
 bp (opSlice T 25 (e 3) (some (.int .i64 1)) none none) m fun x1 m1 =>
 some (ups e [(33, e 3), (34, x1), (11, x1)], m1)
def r133_5 : RR := fun D e m =>
 some (ups e [(12, .bool true)], m)
def r133_6 : RR := fun D e m =>
 some (ups e [(13, .int .i64 0)], m)
def r133_7 : RR := fun D e m =>
 bp (opLen T 22 (e 10)) m fun x2 m2 =>
 bp (opBin T .lss 3 (e 13) x2) m2 fun x3 m3 =>
 bg x3 true (some ((e 12), m3)) m3 fun x5 m5 =>
 bnd (pickV x3 x5 (.bool false) m5) fun x6 m6 =>
 some (ups e [(35, e 13), (36, e 10), (37, x2), (38, x3), (39, x3), (40, x5), (41, x6)], m6)
noncomputable def r133_8 : RR := fun D e m =>
 bp (opLoad T 130 (e 4) m) m fun x0 m0 =>
 bp (opIndexAddr T 22 (e 10) (e 13)) m0 fun x4 m4 =>
 bp (opLoad T 3 x4 m4) m4 fun x5 m5 =>
 bnd (opBuildSlice T 22 1 [(0, x5)] m5) fun x6 m6 =>
 bnd (D 158 [e 1, x6] m6) fun x7 m7 => chkd m6 m7 (
 bp (opSlice T 22 (e 10) none (some (e 13)) none) m7 fun x11 m11 =>
 bnd (D 158 [e 2, x11] m11) fun x12 m12 => chkd m11 m12 (
 bnd (D 133 [x0, x7, x12, e 11] m12) fun x14 m14 =>
 bnd (extV x14 0 m14) fun x16 m16 =>
 bnd (extV x14 1 m16) fun x17 m17 =>
 some (ups e [(45, x0), (46, e 1), (47, e 10), (48, e 13), (49, x4), (50, x5), (51, x6), (52, x7), (53, e 2), (54, e 10), (55, e 13), (56, x11), (57, x12), (58, e 11), (59, x14), (44, x14), (60, x16), (61, x17), (11, x16), (12, x17)], m17)))
def r133_9 : RR := fun D e m =>
 bp (opBin T .add 3 (e 13) (.int .i64 1)) m fun x1 m1 =>
 some (ups e [(42, e 13), (43, x1), (13, x1)], m1)
noncomputable def l133_10 : RC := fun D => (sq (sq (rg (r133_7 D)) (cnd (fun e => some (e 41)) sk (exi 0))) (sq (blk 1 (rg (r133_8 D))) (rg (r133_9 D))))
def r133_11 : RR := fun D e m =>
 some (ups e [(62, e 11), (63, e 12), (8, e 11), (9, e 12)], m)
noncomputable def c133 : RC := fun D => (sq (rg (r133_0 D)) (sq (sq (rg (r133_1 D)) (cnd (fun e => some (e 25)) (sq (rg (r133_2 D)) rt) sk)) (sq (rg (r133_3 D)) (sq (rg (r133_4 D)) (sq (rg (r133_5 D)) (sq (sq (rg (r133_6 D)) (blk 0 (loopD (l133_10 D)))) (sq (rg (r133_11 D)) rt)))))))
theorem e133 (a0 a1 a2 a3 : V) (m : Mem) : DD 133 [a0, a1, a2, a3] m = fin (c133 DD) (fun e m => some [e 8, e 9]) [a0, a1, a2, a3] m :=
 eOf (f := Tryz.f133) (by kernel_rfl) (by kernel_rfl)
def r141_0 : RR := fun D e m =>
 bnd (opBox (e 0) m) fun x0 m0 =>
 some (ups e [(2, x0), (4, .nilp), (5, .int .i64 0)], m0)
def r141_1 : RR := fun D e m =>
 bp (opLoad T 24 (e 2) m) m fun x0 m0 =>
 bnd (D 45 [x0] m0) fun x1 m1 =>
 bnd (extV x1 0 m1) fun x3 m3 =>
 bnd (extV x1 1 m3) fun x4 m4 =>
 some (ups e [(12, x0), (13, x1), (11, x1), (14, x3), (15, x4), (6, x3), (7, x4)], m4)
def r141_2 : RR := fun D e m =>
 bp (opBin T .neq 33 (e 7) (.int .i64 0)) m fun x1 m1 =>
 some (ups e [(16, e 7), (17, x1)], m1)
def r141_3 : RR := fun D e m =>
 some (ups e [(4, .nilp), (5, .int .i64 1)], m)
def r141_4 : RR := fun D e m =>
 bp (opLen T 181 (e 1)) m fun x1 m1 =>
 some (ups e [(18, e 1), (19, x1), (20, .int .i64 0)], m1)
def r141_5 : RR := fun D e m =>
 bp (opBin T .lss 3 (e 20) (e 19)) m fun x0 m0 =>
 some (ups e [(21, x0)], m0)
def r141_6 : RR := fun D e m =>
 bp (opIndexAddr T 181 (e 18) (e 20)) m fun x0 m0 =>
 bp (opLoad T 88 x0 m0) m0 fun x1 m1 =>
 bnd (opAlloc T 88 m1) fun x2 m2 =>
 bnd ((opStore T 88 x2 x1 m2).map (V.undef, ·)) fun x3 m3 =>
 some (ups e [(22, x0), (23, x1), (9, x2)], m3)
def r141_7 : RR := fun D e m =>
 bp (opLoad T 88 (e 9) m) m fun x1 m1 =>
 bnd (D 160 [e 6, x1] m1) fun x2 m2 =>
 some (ups e [(24, e 6), (25, x1), (26, x2), (10, x2)], m2)
def r141_8 : RR := fun D e m =>
 bp (opBin T .neq 33 (e 10) (.int .i64 0)) m fun x1 m1 =>
 some (ups e [(27, e 10), (28, x1)], m1)
def r141_9 : RR := fun D e m =>
 some (ups e [(29, e 10), (4, .nilp), (5, e 10)], m)
def r141_10 : RR := fun D e m =>
 bp (opBin T .add 3 (e 20) (.int .i64 1)) m fun x0 m0 =>
 some (ups e [(30, x0), (20, x0)], m0)
noncomputable def l141_11 : RC := fun D => (sq (rg (r141_5 D)) (sq (cnd (fun e => some (e 21)) sk (exi 0)) (sq (blk 1 (sq (rg (r141_6 D)) (sq (rg (r141_7 D)) (sq (rg (r141_8 D)) (cnd (fun e => some (e 28)) (sq (rg (r141_9 D)) rt) sk))))) (rg (r141_10 D)))))
def r141_12 : RR := fun D e m =>
 some (ups e [(31, e 6), (4, e 6), (5, .int .i64 0)], m)
noncomputable def c141 : RC := fun D => (sq (rg (r141_0 D)) (sq (rg (r141_1 D)) (sq (sq (rg (r141_2 D)) (cnd (fun e => some (e 17)) (sq (rg (r141_3 D)) rt) sk)) (sq (sq (rg (r141_4 D)) (blk 0 (loopD (l141_11 D)))) (sq (rg (r141_12 D)) rt)))))
theorem e141 (a0 a1 : V) (m : Mem) : DD 141 [a0, a1] m = fin (c141 DD) (fun e m => some [e 4, e 5]) [a0, a1] m :=
 eOf (f := Tryz.f141) (by kernel_rfl) (by kernel_rfl)
def r142_0 : RR := fun D e m =>
 some (ups e [(4, .int .i64 0)], m)
def r142_1 : RR := fun D e m =>
 bp (opLen T 22 (e 1)) m fun x1 m1 =>
 some (ups e [(7, e 1), (8, x1), (9, .int .i64 0)], m1)
def r142_2 : RR := fun D e m =>
 bp (opBin T .lss 3 (e 9) (e 8)) m fun x0 m0 =>
 some (ups e [(10, x0)], m0)
def r142_3 : RR := fun D e m =>
 bp (opIndexAddr T 22 (e 7) (e 9)) m fun x0 m0 =>
 bp (opLoad T 3 x0 m0) m0 fun x1 m1 =>
 some (ups e [(11, x0), (12, x1), (6, x1)], m1)
def r142_4 : RR := fun D e m =>
 bnd (D 48 [e 0, e 6] m) fun x2 m2 =>
 bp (opUn .not x2) m2 fun x3 m3 =>
 some (ups e [(13, e 0), (14, e 6), (15, x2), (16, x3)], m3)
def r142_5 : RR := fun D e m =>
 some (ups e [(4, .int .i64 2)], m)
def r142_6 : RR := fun D e m =>
 bp (opBin T .add 3 (e 9) (.int .i64 1)) m fun x0 m0 =>
 some (ups e [(17, x0), (9, x0)], m0)
noncomputable def l142_7 : RC := fun D => (sq (rg (r142_2 D)) (sq (cnd (fun e => some (e 10)) sk (exi 0)) (sq (blk 1 (sq (rg (r142_3 D)) (sq (rg (r142_4 D)) (cnd (fun e => some (e 16)) (sq (rg (r142_5 D)) rt) sk)))) (rg (r142_6 D)))))
def r142_8 : RR := fun D e m =>
 some (ups e [(4, .int .i64 0)], m)
noncomputable def c142 : RC := fun D => (sq (rg (r142_0 D)) (sq (sq (rg (r142_1 D)) (blk 0 (loopD (l142_7 D)))) (sq (rg (r142_8 D)) rt)))
theorem e142 (a0 a1 : V) (m : Mem) : DD 142 [a0, a1] m = fin (c142 DD) (fun e m => some [e 4]) [a0, a1] m :=
 eOf (f := Tryz.f142) (by kernel_rfl) (by kernel_rfl)
def r144_0 : RR := fun D e m =>
 some (ups e [(6, .nils)], m)
def r144_1 : RR := fun D e m =>
 bnd (opMakeSlice T 22 (e 2) (e 2) m) fun x1 m1 =>
 some (ups e [(9, e 2), (10, x1), (7, x1)], m1)
def r144_2 : RR := fun D e m =>
 bp (opLen T 22 (e 7)) m fun x1 m1 =>
 some (ups e [(11, e 7), (12, x1), (13, .int .i64 0)], m1)
def r144_3 : RR := fun D e m =>
 bp (opBin T .lss 3 (e 13) (e 12)) m fun x0 m0 =>
 some (ups e [(14, x0)], m0)
def r144_4 : RR := fun D e m =>
 some (ups e [(15, e 13), (8, e 13)], m)
def r144_5 : RR := fun D e m =>
 bp (opBin T .rem 3 (e 0) (e 1)) m fun x4 m4 =>
 bp (opIndexAddr T 22 (e 7) (e 8)) m4 fun x5 m5 =>
 bnd ((opStore T 3 x5 x4 m5).map (V.undef, ·)) fun x6 m6 =>
 some (ups e [(16, e 7), (17, e 8), (18, e 0), (19, e 1), (20, x4), (21, x5)], m6)
def r144_6 : RR := fun D e m =>
 bp (opBin T .quo 3 (e 0) (e 1)) m fun x2 m2 =>
 some (ups e [(22, e 0), (23, e 1), (24, x2), (0, x2)], m2)
def r144_7 : RR := fun D e m =>
 bp (opBin T .add 3 (e 13) (.int .i64 1)) m fun x0 m0 =>
 some (ups e [(25, x0), (13, x0)], m0)
noncomputable def l144_8 : RC := fun D => (sq (rg (r144_3 D)) (sq (cnd (fun e => some (e 14)) sk (exi 0)) (sq (blk 1 (sq (rg (r144_4 D)) (sq (rg (r144_5 D)) (rg (r144_6 D))))) (rg (r144_7 D)))))
def r144_9 : RR := fun D e m =>
 some (ups e [(26, e 7), (6, e 7)], m)
noncomputable def c144 : RC := fun D => (sq (rg (r144_0 D)) (sq (rg (r144_1 D)) (sq (sq (rg (r144_2 D)) (blk 0 (loopD (l144_8 D)))) (sq (rg (r144_9 D)) rt))))
theorem e144 (a0 a1 a2 : V) (m : Mem) : DD 144 [a0, a1, a2] m = fin (c144 DD) (fun e m => some [e 6]) [a0, a1, a2] m :=
 eOf (f := Tryz.f144) (by kernel_rfl) (by kernel_rfl)
def r145_0 : RR := fun D e m =>
 some (ups e [(4, .int .i64 0)], m)
def r145_1 : RR := fun D e m =>
 some (ups e [(5, .int .i64 0)], m)
def r145_2 : RR := fun D e m =>
 bp (opLen T 22 (e 0)) m fun x1 m1 =>
 bp (opBin T .sub 3 x1 (.int .i64 1)) m1 fun x2 m2 =>
 some (ups e [(7, e 0), (8, x1), (9, x2), (6, x2)], m2)
def r145_3 : RR := fun D e m =>
 bp (opBin T .geq 3 (e 6) (.int .i64 0)) m fun x1 m1 =>
 some (ups e [(10, e 6), (11, x1)], m1)
def r145_4 : RR := fun D e m =>
 bp (opBin T .mul 3 (e 5) (e 1)) m fun x2 m2 =>
 bp (opIndexAddr T 22 (e 0) (e 6)) m2 fun x5 m5 =>
 bp (opLoad T 3 x5 m5) m5 fun x6 m6 =>
 bp (opBin T .add 3 x2 x6) m6 fun x7 m7 =>
 some (ups e [(14, e 5), (15, e 1), (16, x2), (17, e 0), (18, e 6), (19, x5), (20, x6), (21, x7), (5, x7)], m7)
def r145_5 : RR := fun D e m =>
 bp (opBin T .sub 3 (e 6) (.int .i64 1)) m fun x1 m1 =>
 some (ups e [(12, e 6), (13, x1), (6, x1)], m1)
noncomputable def l145_6 : RC := fun D => (sq (sq (rg (r145_3 D)) (cnd (fun e => some (e 11)) sk (exi 0))) (sq (blk 1 (rg (r145_4 D))) (rg (r145_5 D))))
def r145_7 : RR := fun D e m =>
 some (ups e [(22, e 5), (4, e 5)], m)
noncomputable def c145 : RC := fun D => (sq (rg (r145_0 D)) (sq (rg (r145_1 D)) (sq (sq (rg (r145_2 D)) (blk 0 (loopD (l145_6 D)))) (sq (rg (r145_7 D)) rt))))
theorem e145 (a0 a1 : V) (m : Mem) : DD 145 [a0, a1] m = fin (c145 DD) (fun e m => some [e 4]) [a0, a1] m :=
 eOf (f := Tryz.f145) (by kernel_rfl) (by kernel_rfl)
def r146_0 : RR := fun D e m =>
 some (ups e [(2, .nils)], m)
def r146_1 : RR := fun D e m =>
 bp (opLen T 25 (e 0)) m fun x1 m1 =>
 bnd (opMakeSlice T 25 x1 x1 m1) fun x2 m2 =>
 some (ups e [(6, e 0), (7, x1), (8, x2), (3, x2)], m2)
def r146_2 : RR := fun D e m =>
 bp (opLen T 25 (e 0)) m fun x1 m1 =>
 some (ups e [(9, e 0), (10, x1), (11, .int .i64 0)], m1)
def r146_3 : RR := fun D e m =>
 bp (opBin T .lss 3 (e 11) (e 10)) m fun x0 m0 =>
 some (ups e [(12, x0)], m0)
def r146_4 : RR := fun D e m =>
 bp (opIndexAddr T 25 (e 9) (e 11)) m fun x1 m1 =>
 bp (opLoad T 22 x1 m1) m1 fun x2 m2 =>
 some (ups e [(13, e 11), (14, x1), (15, x2), (4, e 11), (5, x2)], m2)
def r146_5 : RR := fun D e m =>
 bnd (D 162 [e 5] m) fun x3 m3 =>
 bp (opIndexAddr T 25 (e 3) (e 4)) m3 fun x4 m4 =>
 bnd ((opStore T 22 x4 x3 m4).map (V.undef, ·)) fun x5 m5 =>
 some (ups e [(16, e 3), (17, e 4), (18, e 5), (19, x3), (20, x4)], m5)
def r146_6 : RR := fun D e m =>
 bp (opBin T .add 3 (e 11) (.int .i64 1)) m fun x0 m0 =>
 some (ups e [(21, x0), (11, x0)], m0)
noncomputable def l146_7 : RC := fun D => (sq (rg (r146_3 D)) (sq (cnd (fun e => some (e 12)) sk (exi 0)) (sq (blk 1 (sq (rg (r146_4 D)) (rg (r146_5 D)))) (rg (r146_6 D)))))
def r146_8 : RR := fun D e m =>
 some (ups e [(22, e 3), (2, e 3)], m)
noncomputable def c146 : RC := fun D => (sq (rg (r146_0 D)) (sq (rg (r146_1 D)) (sq (sq (rg (r146_2 D)) (blk 0 (loopD (l146_7 D)))) (sq (rg (r146_8 D)) rt))))
theorem e146 (a0 : V) (m : Mem) : DD 146 [a0] m = fin (c146 DD) (fun e m => some [e 2]) [a0] m :=
 eOf (f := Tryz.f146) (by kernel_rfl) (by kernel_rfl)
def r147_0 : RR := fun D e m =>
 bnd (opBox (e 0) m) fun x0 m0 =>
 bnd (opBox (e 1) m0) fun x1 m1 =>
 bnd (opBox (e 3) m1) fun x2 m2 =>
 some (ups e [(4, x0), (5, x1), (7, x2), (8, .nils), (9, .int .i64 0)], m2)
def r147_1 : RR := fun D e m =>
 some (ups e [(10, .int .i64 1)], m)
def r147_2 : RR := fun D e m =>
 some (ups e [(20, (.fn 163 [] [e 5, e 7])), (11, (.fn 163 [] [e 5, e 7]))], m)
def r147_3 : RR := fun D e m =>
 some (ups e [(12, .nils)], m)
def r147_4 : RR := fun D e m =>
 some (ups e [(13, .int .i64 0)], m)
def r147_5 : RR := fun D e m =>
 bp (opBin T .lss 3 (e 13) (e 2)) m fun x2 m2 =>
 bg x2 true (some ((e 12), m2)) m2 fun x4 m4 =>
 bg x2 true (lft (opLen T 22 x4) m4) m4 fun x5 m5 =>
 bg x2 true (lft (opLoad T 25 (e 5) m5) m5) m5 fun x6 m6 =>
 bg x2 true (lft (opLen T 25 x6) m6) m6 fun x7 m7 =>
 bg x2 true (lft (opBin T .lss 3 x5 x7) m7) m7 fun x8 m8 =>
 bnd (pickV x2 x8 (.bool false) m8) fun x9 m9 =>
 some (ups e [(21, e 13), (22, e 2), (23, x2), (24, x2), (25, x4), (26, x5), (27, x6), (28, x7), (29, x8), (30, x9)], m9)
def r147_6 : RR := fun D e m =>
 bp (opLen T 22 (e 12)) m fun x1 m1 =>
 bnd (opAlloc T 3 m1) fun x2 m2 =>
 bnd ((opStore T 3 x2 x1 m2).map (V.undef, ·)) fun x3 m3 =>
 some (ups e [(33, e 12), (34, x1), (14, x2)], m3)
def r147_7 : RR := fun D e m =>
 bp (opLoad T 3 (e 14) m) m fun x0 m0 =>
 bnd (opAlloc T 3 m0) fun x1 m1 =>
 bnd ((opStore T 3 x1 x0 m1).map (V.undef, ·)) fun x2 m2 =>
 some (ups e [(35, x0), (15, x1)], m2)
def r147_8 : RR := fun D e m =>
 bp (opLoad T 3 (e 15) m) m fun x0 m0 =>
 bp (opLoad T 25 (e 5) m0) m0 fun x1 m1 =>
 bp (opLen T 25 x1) m1 fun x2 m2 =>
 bp (opBin T .lss 3 x0 x2) m2 fun x3 m3 =>
 bg x3 true (lft (opLoad T 25 (e 5) m3) m3) m3 fun x5 m5 =>
 bg x3 true (lft (opLoad T 3 (e 15) m5) m5) m5 fun x6 m6 =>
 bg x3 true (lft (opIndexAddr T 25 x5 x6) m6) m6 fun x7 m7 =>
 bg x3 true (lft (opLoad T 22 x7 m7) m7) m7 fun x8 m8 =>
 bg x3 true (some ((e 13), m8)) m8 fun x9 m9 =>
 bg x3 true (lft (opIndexAddr T 22 x8 x9) m9) m9 fun x10 m10 =>
 bg x3 true (lft (opLoad T 3 x10 m10) m10) m10 fun x11 m11 =>
 bg x3 true (lft (opBin T .eql 3 x11 (.int .i64 0)) m11) m11 fun x12 m12 =>
 bnd (pickV x3 x12 (.bool false) m12) fun x13 m13 =>
 some (ups e [(36, x0), (37, x1), (38, x2), (39, x3), (40, x3), (41, x5), (42, x6), (43, x7), (44, x8), (45, x9), (46, x10), (47, x11), (48, x12), (49, x13)], m13)
def r147_9 : RR := fun D e m =>
 bp (opLoad T 3 (e 15) m) m fun x0 m0 =>
 bp (opBin T .add 3 x0 (.int .i64 1)) m0 fun x1 m1 =>
 bnd ((opStore T 3 (e 15) x1 m1).map (V.undef, ·)) fun x2 m2 =>
 some (ups e [(50, x0), (51, x1)], m2)
noncomputable def l147_10 : RC := fun D => (sq (sq (rg (r147_8 D)) (cnd (fun e => some (e 49)) sk (exi 2))) (blk 3 (rg (r147_9 D))))
def r147_11 : RR := fun D e m =>
 bp (opLoad T 3 (e 15) m) m fun x0 m0 =>
 bp (opLoad T 25 (e 5) m0) m0 fun x1 m1 =>
 bp (opLen T 25 x1) m1 fun x2 m2 =>
 bp (opBin T .eql 3 x0 x2) m2 fun x3 m3 =>
 some (ups e [(52, x0), (53, x1), (54, x2), (55, x3)], m3)
def r147_12 : RR := fun D e m =>
 bp (opLoad T 3 (e 15) m) m fun x0 m0 =>
 bp (opLoad T 3 (e 14) m0) m0 fun x1 m1 =>
 bp (opBin T .neq 3 x0 x1) m1 fun x2 m2 =>
 some (ups e [(56, x0), (57, x1), (58, x2)], m2)
def r147_13 : RR := fun D e m =>
 bnd (callV D (e 11) [(.fn 164 [] [e 15, e 14])] m) fun x2 m2 =>
 some (ups e [(59, e 11), (60, (.fn 164 [] [e 15, e 14])), (61, x2)], m2)
def r147_14 : RR := fun D e m =>
 bp (opLoad T 76 (e 4) m) m fun x0 m0 =>
 bnd (D 165 [x0, e 10] m0) fun x2 m2 =>
 some (ups e [(62, x0), (63, e 10), (64, x2), (10, x2)], m2)
def r147_15 : RR := fun D e m =>
 bp (opLoad T 76 (e 4) m) m fun x0 m0 =>
 bp (opLoad T 25 (e 5) m0) m0 fun x2 m2 =>
 bp (opLoad T 3 (e 14) m2) m2 fun x3 m3 =>
 bp (opIndexAddr T 25 x2 x3) m3 fun x4 m4 =>
 bp (opLoad T 22 x4 m4) m4 fun x5 m5 =>
 bp (opIndexAddr T 22 x5 (e 13)) m5 fun x7 m7 =>
 bp (opLoad T 3 x7 m7) m7 fun x8 m8 =>
 bnd (D 166 [x0, e 10, x8] m8) fun x9 m9 =>
 some (ups e [(65, x0), (66, e 10), (67, x2), (68, x3), (69, x4), (70, x5), (71, e 13), (72, x7), (73, x8), (74, x9), (10, x9)], m9)
noncomputable def r147_16 : RR := fun D e m =>
 bp (opLoad T 76 (e 4) m) m fun x0 m0 =>
 bp (opLoad T 25 (e 5) m0) m0 fun x1 m1 =>
 bp (opLoad T 3 (e 14) m1) m1 fun x2 m2 =>
 bp (opIndexAddr T 25 x1 x2) m2 fun x3 m3 =>
 bp (opLoad T 22 x3 m3) m3 fun x4 m4 =>
 bp (opIndexAddr T 22 x4 (e 13)) m4 fun x6 m6 =>
 bp (opLoad T 3 x6 m6) m6 fun x7 m7 =>
 bnd (D 167 [x0, x7] m7) fun x8 m8 => chkd m7 m8 (
 bnd (extV x8 0 m8) fun x10 m10 =>
 bnd (extV x8 1 m10) fun x11 m11 =>
 bnd (opAlloc T 3 m11) fun x12 m12 =>
 bnd ((opStore T 3 x12 x10 m12).map (V.undef, ·)) fun x13 m13 =>
 some (ups e [(76, x0), (77, x1), (78, x2), (79, x3), (80, x4), (81, e 13), (82, x6), (83, x7), (84, x8), (75, x8), (85, x10), (86, x11), (16, x12), (17, x11)], m13))
def r147_17 : RR := fun D e m =>
 bp (opBin T .eql 33 (e 17) (.int .i64 0)) m fun x1 m1 =>
 bg x1 true (lft (opLoad T 3 (e 16) m1) m1) m1 fun x3 m3 =>
 bg x1 true (lft (opBin T .neq 3 x3 (.int .i64 1)) m3) m3 fun x4 m4 =>
 bnd (pickV x1 x4 (.bool false) m4) fun x5 m5 =>
 some (ups e [(87, e 17), (88, x1), (89, x1), (90, x3), (91, x4), (92, x5)], m5)
def r147_18 : RR := fun D e m =>
 bnd (callV D (e 11) [(.fn 168 [] [e 4, e 16, e 14])] m) fun x2 m2 =>
 some (ups e [(93, e 11), (94, (.fn 168 [] [e 4, e 16, e 14])), (95, x2)], m2)
def r147_19 : RR := fun D e m =>
 bp (opLoad T 25 (e 5) m) m fun x0 m0 =>
 bp (opLen T 25 x0) m0 fun x1 m1 =>
 some (ups e [(96, x0), (97, x1), (98, .int .i64 0)], m1)
def r147_20 : RR := fun D e m =>
 bp (opBin T .lss 3 (e 98) (e 97)) m fun x0 m0 =>
 some (ups e [(99, x0)], m0)
def r147_21 : RR := fun D e m =>
 bnd (opAlloc T 3 m) fun x1 m1 =>
 bnd ((opStore T 3 x1 (e 98) m1).map (V.undef, ·)) fun x2 m2 =>
 some (ups e [(100, e 98), (18, x1)], m2)
def r147_22 : RR := fun D e m =>
 bp (opLoad T 25 (e 5) m) m fun x0 m0 =>
 bp (opLoad T 3 (e 18) m0) m0 fun x1 m1 =>
 bp (opIndexAddr T 25 x0 x1) m1 fun x2 m2 =>
 bp (opLoad T 22 x2 m2) m2 fun x3 m3 =>
 bp (opIndexAddr T 22 x3 (e 13)) m3 fun x5 m5 =>
 bp (opLoad T 3 x5 m5) m5 fun x6 m6 =>
 bnd (opAlloc T 3 m6) fun x7 m7 =>
 bnd ((opStore T 3 x7 x6 m7).map (V.undef, ·)) fun x8 m8 =>
 some (ups e [(101, x0), (102, x1), (103, x2), (104, x3), (105, e 13), (106, x5), (107, x6), (19, x7)], m8)
def r147_23 : RR := fun D e m =>
 bp (opLoad T 3 (e 18) m) m fun x0 m0 =>
 bp (opLoad T 3 (e 14) m0) m0 fun x1 m1 =>
 bp (opBin T .neq 3 x0 x1) m1 fun x2 m2 =>
 bg x2 true (lft (opLoad T 3 (e 19) m2) m2) m2 fun x4 m4 =>
 bg x2 true (lft (opBin T .neq 3 x4 (.int .i64 0)) m4) m4 fun x5 m5 =>
 bnd (pickV x2 x5 (.bool false) m5) fun x6 m6 =>
 some (ups e [(108, x0), (109, x1), (110, x2), (111, x2), (112, x4), (113, x5), (114, x6)], m6)
def r147_24 : RR := fun D e m =>
 bnd (callV D (e 11) [(.fn 170 [] [e 4, e 18, e 19, e 14])] m) fun x2 m2 =>
 some (ups e [(115, e 11), (116, (.fn 170 [] [e 4, e 18, e 19, e 14])), (117, x2)], m2)
def r147_25 : RR := fun D e m =>
 bp (opBin T .add 3 (e 98) (.int .i64 1)) m fun x0 m0 =>
 some (ups e [(118, x0), (98, x0)], m0)
noncomputable def l147_26 : RC := fun D => (sq (rg (r147_20 D)) (sq (cnd (fun e => some (e 99)) sk (exi 4)) (sq (blk 5 (sq (rg (r147_21 D)) (sq (rg (r147_22 D)) (sq (rg (r147_23 D)) (cnd (fun e => some (e 114)) (rg (r147_24 D)) sk))))) (rg (r147_25 D)))))
def r147_27 : RR := fun D e m =>
 bnd (opBuildSlice T 22 1 [(0, e 13)] m) fun x2 m2 =>
 bnd (opAppend T 22 22 (e 12) x2 m2) fun x3 m3 =>
 some (ups e [(119, e 12), (120, e 13), (121, x2), (122, x3), (12, x3)], m3)
def r147_28 : RR := fun D e m =>
 bp (opBin T .add 3 (e 13) (.int .i64 1)) m fun x1 m1 =>
 some (ups e [(31, e 13), (32, x1), (13, x1)], m1)
noncomputable def l147_29 : RC := fun D => (sq (sq (rg (r147_5 D)) (cnd (fun e => some (e 30)) sk (exi 0))) (sq (blk 1 (sq (rg (r147_6 D)) (sq (rg (r147_7 D)) (sq (blk 2 (loopD (l147_10 D))) (sq (sq (rg (r147_11 D)) (cnd (fun e => some (e 55)) (exi 1) sk)) (sq (sq (rg (r147_12 D)) (cnd (fun e => some (e 58)) (sq (rg (r147_13 D)) (rg (r147_14 D))) sk)) (sq (rg (r147_15 D)) (sq (sq (rg (r147_16 D)) (sq (rg (r147_17 D)) (cnd (fun e => some (e 92)) (rg (r147_18 D)) sk))) (sq (sq (rg (r147_19 D)) (blk 4 (loopD (l147_26 D)))) (rg (r147_27 D))))))))))) (rg (r147_28 D))))
def r147_30 : RR := fun D e m =>
 some (ups e [(123, e 12), (124, e 10), (8, e 12), (9, e 10)], m)
noncomputable def c147 : RC := fun D => (sq (rg (r147_0 D)) (sq (rg (r147_1 D)) (sq (rg (r147_2 D)) (sq (rg (r147_3 D)) (sq (sq (rg (r147_4 D)) (blk 0 (loopD (l147_29 D)))) (sq (rg (r147_30 D)) rt))))))
theorem e147 (a0 a1 a2 a3 : V) (m : Mem) : DD 147 [a0, a1, a2, a3] m = fin (c147 DD) (fun e m => some [e 8, e 9]) [a0, a1, a2, a3] m :=
 eOf (f := Tryz.f147) (by kernel_rfl) (by kernel_rfl)
def r149_0 : RR := fun D e m =>
 some (ups e [(6, .nils), (7, .nils)], m)
def r149_1 : RR := fun D e m =>
 bnd (D 146 [e 1] m) fun x1 m1 =>
 some (ups e [(11, e 1), (12, x1), (8, x1)], m1)
def r149_2 : RR := fun D e m =>
 bnd (D 147 [e 0, e 8, e 2, .nils] m) fun x3 m3 =>
 bnd (extV x3 0 m3) fun x5 m5 =>
 bnd (extV x3 1 m5) fun x6 m6 =>
 some (ups e [(14, e 0), (15, e 8), (16, e 2), (17, x3), (13, x3), (18, x5), (19, x6), (9, x5), (10, x6)], m6)
def r149_3 : RR := fun D e m =>
 bp (opLen T 22 (e 9)) m fun x2 m2 =>
 bp (opLen T 22 (e 9)) m2 fun x4 m4 =>
 bp (opSlice T 25 (e 8) none (some x2) (some x4)) m4 fun x5 m5 =>
 some (ups e [(20, e 8), (21, e 9), (22, x2), (23, e 9), (24, x4), (25, x5), (26, e 9), (6, x5), (7, e 9)], m5)
noncomputable def c149 : RC := fun D => (sq (rg (r149_0 D)) (sq (rg (r149_1 D)) (sq (rg (r149_2 D)) (sq (rg (r149_3 D)) rt))))
theorem e149 (a0 a1 a2 : V) (m : Mem) : DD 149 [a0, a1, a2] m = fin (c149 DD) (fun e m => some [e 6, e 7]) [a0, a1, a2] m :=
 eOf (f := Tryz.f149) (by kernel_rfl) (by kernel_rfl)
def r150_0 : RR := fun D e m =>
 some (ups e [(6, .bool false)], m)
def r150_1 : RR := fun D e m =>
 bp (opLen T 22 (e 2)) m fun x1 m1 =>
 some (ups e [(9, e 2), (10, x1), (11, .int .i64 0)], m1)
def r150_2 : RR := fun D e m =>
 bp (opBin T .lss 3 (e 11) (e 10)) m fun x0 m0 =>
 some (ups e [(12, x0)], m0)
def r150_3 : RR := fun D e m =>
 bp (opIndexAddr T 22 (e 9) (e 11)) m fun x1 m1 =>
 bp (opLoad T 3 x1 m1) m1 fun x2 m2 =>
 some (ups e [(13, e 11), (14, x1), (15, x2), (7, e 11), (8, x2)], m2)
def r150_4 : RR := fun D e m =>
 bp (opBin T .lss 3 (e 8) (.int .i64 0)) m fun x1 m1 =>
 bg x1 false (some ((e 8), m1)) m1 fun x3 m3 =>
 bg x1 false (some ((e 0), m3)) m3 fun x4 m4 =>
 bg x1 false (nilChk x4 m4) m4 fun x5 m5 =>
 bg x1 false (lft (opFieldAddr T 157 x5 1) m5) m5 fun x6 m6 =>
 bg x1 false (lft (opFieldAddr T 27 x6 1) m6) m6 fun x7 m7 =>
 bg x1 false (lft (opLoad T 3 x7 m7) m7) m7 fun x8 m8 =>
 bg x1 false (lft (opBin T .geq 3 x3 x8) m8) m8 fun x9 m9 =>
 bnd (pickV x1 (.bool true) x9 m9) fun x10 m10 =>
 bg x10 false (some ((e 7), m10)) m10 fun x12 m12 =>
 bg x10 false (lft (opBin T .gtr 3 x12 (.int .i64 0)) m12) m12 fun x13 m13 =>
 bg x10 false (some (x13, m13)) m13 fun x14 m14 =>
 bg x14 true (some ((e 8), m14)) m14 fun x15 m15 =>
 bg x14 true (some ((e 2), m15)) m15 fun x16 m16 =>
 bg x14 true (some ((e 7), m16)) m16 fun x17 m17 =>
 bg x14 true (lft (opBin T .sub 3 x17 (.int .i64 1)) m17) m17 fun x18 m18 =>
 bg x14 true (lft (opIndexAddr T 22 x16 x18) m18) m18 fun x19 m19 =>
 bg x14 true (lft (opLoad T 3 x19 m19) m19) m19 fun x20 m20 =>
 bg x14 true (lft (opBin T .leq 3 x15 x20) m20) m20 fun x21 m21 =>
 bg x10 false (pickV x14 x21 (.bool false) m21) m21 fun x22 m22 =>
 bnd (pickV x10 (.bool true) x22 m22) fun x23 m23 =>
 bg x23 false (some ((e 1), m23)) m23 fun x25 m25 =>
 bg x23 false (some ((e 8), m25)) m25 fun x26 m26 =>
 bg x23 false (D 81 [x25, x26] m26) m26 fun x27 m27 =>
 bnd (pickV x23 (.bool true) x27 m27) fun x28 m28 =>
 some (ups e [(16, e 8), (17, x1), (18, x1), (19, x3), (20, x4), (21, x5), (22, x6), (23, x7), (24, x8), (25, x9), (26, x10), (27, x10), (28, x12), (29, x13), (30, x14), (31, x15), (32, x16), (33, x17), (34, x18), (35, x19), (36, x20), (37, x21), (38, x22), (39, x23), (40, x23), (41, x25), (42, x26), (43, x27), (44, x28)], m28)
def r150_5 : RR := fun D e m =>
 some (ups e [(6, .bool false)], m)
def r150_6 : RR := fun D e m =>
 bp (opBin T .add 3 (e 11) (.int .i64 1)) m fun x0 m0 =>
 some (ups e [(45, x0), (11, x0)], m0)
noncomputable def l150_7 : RC := fun D => (sq (rg (r150_2 D)) (sq (cnd (fun e => some (e 12)) sk (exi 0)) (sq (blk 1 (sq (rg (r150_3 D)) (sq (rg (r150_4 D)) (cnd (fun e => some (e 44)) (sq (rg (r150_5 D)) rt) sk)))) (rg (r150_6 D)))))
def r150_8 : RR := fun D e m =>
 bp (opLen T 22 (e 2)) m fun x3 m3 =>
 bnd (D 171 [e 0, e 2, x3] m3) fun x4 m4 =>
 bp (opLen T 22 x4) m4 fun x5 m5 =>
 bp (opLen T 22 (e 2)) m5 fun x7 m7 =>
 bp (opBin T .neq 3 x5 x7) m7 fun x8 m8 =>
 some (ups e [(46, e 0), (47, e 2), (48, e 2), (49, x3), (50, x4), (51, x5), (52, e 2), (53, x7), (54, x8)], m8)
def r150_9 : RR := fun D e m =>
 some (ups e [(6, .bool false)], m)
def r150_10 : RR := fun D e m =>
 bnd (nilChk (e 0) m) fun x1 m1 =>
 bp (opFieldAddr T 157 x1 3) m1 fun x2 m2 =>
 bp (opLoad T 4 x2 m2) m2 fun x3 m3 =>
 bp (opUn .not x3) m3 fun x4 m4 =>
 some (ups e [(55, e 0), (56, x1), (57, x2), (58, x3), (59, x4)], m4)
def r150_11 : RR := fun D e m =>
 bp (opLen T 22 (e 2)) m fun x1 m1 =>
 bnd (nilChk (e 0) m1) fun x3 m3 =>
 bp (opFieldAddr T 157 x3 4) m3 fun x4 m4 =>
 bp (opLoad T 3 x4 m4) m4 fun x5 m5 =>
 bp (opBin T .eql 3 x1 x5) m5 fun x6 m6 =>
 some (ups e [(60, e 2), (61, x1), (62, e 0), (63, x3), (64, x4), (65, x5), (66, x6), (6, x6)], m6)
noncomputable def r150_12 : RR := fun D e m =>
 bnd (D 172 [e 0, e 1, .nils] m) fun x3 m3 => chkd m m3 (
 bnd (nilChk (e 0) m3) fun x5 m5 =>
 bp (opFieldAddr T 157 x5 1) m5 fun x6 m6 =>
 bp (opFieldAddr T 27 x6 1) m6 fun x7 m7 =>
 bp (opLoad T 3 x7 m7) m7 fun x8 m8 =>
 bnd (D 171 [e 0, x3, x8] m8) fun x9 m9 => chkd m8 m9 (
 bp (opLen T 22 x9) m9 fun x10 m10 =>
 bp (opLen T 22 (e 2)) m10 fun x12 m12 =>
 bp (opBin T .eql 3 x10 x12) m12 fun x13 m13 =>
 bg x13 true (some ((e 1), m13)) m13 fun x15 m15 =>
 bg x13 true (lft (opLen T 22 x15) m15) m15 fun x16 m16 =>
 bg x13 true (some ((e 0), m16)) m16 fun x17 m17 =>
 bg x13 true (some ((e 1), m17)) m17 fun x18 m18 =>
 bg x13 true (some ((e 2), m18)) m18 fun x19 m19 =>
 bg x13 true (D 173 [x17, x18, x19] m19) m19 fun x20 m20 => chkd m19 m20 (
 bg x13 true (lft (opBin T .add 3 x16 x20) m20) m20 fun x21 m21 =>
 bg x13 true (some ((e 0), m21)) m21 fun x22 m22 =>
 bg x13 true (nilChk x22 m22) m22 fun x23 m23 =>
 bg x13 true (lft (opFieldAddr T 157 x23 5) m23) m23 fun x24 m24 =>
 bg x13 true (lft (opLoad T 3 x24 m24) m24) m24 fun x25 m25 =>
 bg x13 true (lft (opBin T .gtr 3 x21 x25) m25) m25 fun x26 m26 =>
 bnd (pickV x13 x26 (.bool false) m26) fun x27 m27 =>
 some (ups e [(67, e 0), (68, e 0), (69, e 1), (70, x3), (71, e 0), (72, x5), (73, x6), (74, x7), (75, x8), (76, x9), (77, x10), (78, e 2), (79, x12), (80, x13), (81, x13), (82, x15), (83, x16), (84, x17), (85, x18), (86, x19), (87, x20), (88, x21), (89, x22), (90, x23), (91, x24), (92, x25), (93, x26), (94, x27), (6, x27)], m27))))
noncomputable def c150 : RC := fun D => (sq (rg (r150_0 D)) (sq (sq (rg (r150_1 D)) (blk 0 (loopD (l150_7 D)))) (sq (sq (rg (r150_8 D)) (cnd (fun e => some (e 54)) (sq (rg (r150_9 D)) rt) sk)) (sq (sq (rg (r150_10 D)) (cnd (fun e => some (e 59)) (sq (rg (r150_11 D)) rt) sk)) (sq (rg (r150_12 D)) rt)))))
theorem e150 (a0 a1 a2 : V) (m : Mem) : DD 150 [a0, a1, a2] m = fin (c150 DD) (fun e m => some [e 6]) [a0, a1, a2] m :=
 eOf (f := Tryz.f150) (by kernel_rfl) (by kernel_rfl)
def r151_0 : RR := fun D e m =>
 some (ups e [(10, .int .i64 0)], m)
def r151_1 : RR := fun D e m =>
 bp (opLen T 22 (e 1)) m fun x1 m1 =>
 bnd (nilChk (e 0) m1) fun x3 m3 =>
 bp (opFieldAddr T 157 x3 5) m3 fun x4 m4 =>
 bp (opLoad T 3 x4 m4) m4 fun x5 m5 =>
 bp (opBin T .eql 3 x1 x5) m5 fun x6 m6 =>
 some (ups e [(14, e 1), (15, x1), (16, e 0), (17, x3), (18, x4), (19, x5), (20, x6)], m6)
def r151_2 : RR := fun D e m =>
 some (ups e [(10, .int .i64 0)], m)
def r151_3 : RR := fun D e m =>
 bnd (D 162 [e 2] m) fun x1 m1 =>
 some (ups e [(21, e 2), (22, x1), (2, x1)], m1)
def r151_4 : RR := fun D e m =>
 bp (opLen T 22 (e 3)) m fun x1 m1 =>
 some (ups e [(23, e 3), (24, x1), (25, .int .i64 0)], m1)
def r151_5 : RR := fun D e m =>
 bp (opBin T .lss 3 (e 25) (e 24)) m fun x0 m0 =>
 some (ups e [(26, x0)], m0)
def r151_6 : RR := fun D e m =>
 bp (opIndexAddr T 22 (e 23) (e 25)) m fun x0 m0 =>
 bp (opLoad T 3 x0 m0) m0 fun x1 m1 =>
 some (ups e [(27, x0), (28, x1), (12, x1)], m1)
def r151_7 : RR := fun D e m =>
 bnd (D 81 [e 2, e 12] m) fun x2 m2 =>
 some (ups e [(29, e 2), (30, e 12), (31, x2)], m2)
def r151_8 : RR := fun D e m =>
 bnd (D 162 [e 1] m) fun x2 m2 =>
 bnd (opBuildSlice T 22 1 [(0, e 12)] m2) fun x4 m4 =>
 bnd (opAppend T 22 22 x2 x4 m4) fun x5 m5 =>
 bnd (D 162 [e 2] m5) fun x7 m7 =>
 bnd (callV D (e 4) [x5, x7] m7) fun x8 m8 =>
 some (ups e [(32, e 4), (33, e 1), (34, x2), (35, e 12), (36, x4), (37, x5), (38, e 2), (39, x7), (40, x8), (13, x8)], m8)
def r151_9 : RR := fun D e m =>
 bp (opBin T .neq 33 (e 13) (.int .i64 0)) m fun x1 m1 =>
 some (ups e [(41, e 13), (42, x1)], m1)
def r151_10 : RR := fun D e m =>
 some (ups e [(43, e 13), (10, e 13)], m)
def r151_11 : RR := fun D e m =>
 bnd (opBuildSlice T 22 1 [(0, e 12)] m) fun x2 m2 =>
 bnd (opAppend T 22 22 (e 2) x2 m2) fun x3 m3 =>
 some (ups e [(44, e 2), (45, e 12), (46, x2), (47, x3), (2, x3)], m3)
def r151_12 : RR := fun D e m =>
 bp (opBin T .add 3 (e 25) (.int .i64 1)) m fun x0 m0 =>
 some (ups e [(48, x0), (25, x0)], m0)
noncomputable def l151_13 : RC := fun D => (sq (rg (r151_5 D)) (sq (cnd (fun e => some (e 26)) sk (exi 0)) (sq (blk 1 (sq (rg (r151_6 D)) (sq (sq (rg (r151_7 D)) (cnd (fun e => some (e 31)) (exi 1) sk)) (sq (sq (rg (r151_8 D)) (sq (rg (r151_9 D)) (cnd (fun e => some (e 42)) (sq (rg (r151_10 D)) rt) sk))) (rg (r151_11 D)))))) (rg (r151_12 D)))))
def r151_14 : RR := fun D e m =>
 some (ups e [(10, .int .i64 0)], m)
noncomputable def c151 : RC := fun D => (sq (rg (r151_0 D)) (sq (sq (rg (r151_1 D)) (cnd (fun e => some (e 20)) (sq (rg (r151_2 D)) rt) sk)) (sq (rg (r151_3 D)) (sq (sq (rg (r151_4 D)) (blk 0 (loopD (l151_13 D)))) (sq (rg (r151_14 D)) rt)))))
theorem e151 (a0 a1 a2 a3 a4 : V) (m : Mem) : DD 151 [a0, a1, a2, a3, a4] m = fin (c151 DD) (fun e m => some [e 10]) [a0, a1, a2, a3, a4] m :=
 eOf (f := Tryz.f151) (by kernel_rfl) (by kernel_rfl)
def r152_0 : RR := fun D e m =>
 some (ups e [(2, .nils)], m)
def r152_1 : RR := fun D e m =>
 some (ups e [(3, .nils)], m)
def r152_2 : RR := fun D e m =>
 some (ups e [(4, .int .i64 0)], m)
def r152_3 : RR := fun D e m =>
 bp (opLen T 25 (e 0)) m fun x2 m2 =>
 bp (opBin T .lss 3 (e 4) x2) m2 fun x3 m3 =>
 some (ups e [(5, e 4), (6, e 0), (7, x2), (8, x3)], m3)
def r152_4 : RR := fun D e m =>
 bnd (opBuildSlice T 22 0 [] m) fun x1 m1 =>
 bp (opIndexAddr T 25 (e 0) (e 4)) m1 fun x4 m4 =>
 bp (opLoad T 22 x4 m4) m4 fun x5 m5 =>
 bnd (opAppend T 22 22 x1 x5 m5) fun x6 m6 =>
 bnd (opBuildSlice T 25 1 [(0, x6)] m6) fun x7 m7 =>
 bnd (opAppend T 25 25 (e 3) x7 m7) fun x8 m8 =>
 some (ups e [(11, e 3), (12, x1), (13, e 0), (14, e 4), (15, x4), (16, x5), (17, x6), (18, x7), (19, x8), (3, x8)], m8)
def r152_5 : RR := fun D e m =>
 bp (opBin T .add 3 (e 4) (.int .i64 1)) m fun x1 m1 =>
 some (ups e [(9, e 4), (10, x1), (4, x1)], m1)
noncomputable def l152_6 : RC := fun D => (sq (sq (rg (r152_3 D)) (cnd (fun e => some (e 8)) sk (exi 0))) (sq (blk 1 (rg (r152_4 D))) (rg (r152_5 D))))
def r152_7 : RR := fun D e m =>
 some (ups e [(20, e 3), (2, e 3)], m)
noncomputable def c152 : RC := fun D => (sq (rg (r152_0 D)) (sq (rg (r152_1 D)) (sq (sq (rg (r152_2 D)) (blk 0 (loopD (l152_6 D)))) (sq (rg (r152_7 D)) rt))))
theorem e152 (a0 : V) (m : Mem) : DD 152 [a0] m = fin (c152 DD) (fun e m => some [e 2]) [a0] m :=
 eOf (f := Tryz.f152) (by kernel_rfl) (by kernel_rfl)
def r153_0 : RR := fun D e m =>
 bnd (opBox (e 0) m) fun x0 m0 =>
 some (ups e [(3, x0), (6, .nils)], m0)
def r153_1 : RR := fun D e m =>
 bp (opLen T 22 (e 2)) m fun x1 m1 =>
 bnd (opMakeSlice T 22 x1 x1 m1) fun x2 m2 =>
 some (ups e [(9, e 2), (10, x1), (11, x2), (7, x2)], m2)
def r153_2 : RR := fun D e m =>
 some (ups e [(8, .int .i64 0)], m)
def r153_3 : RR := fun D e m =>
 bp (opLen T 22 (e 2)) m fun x2 m2 =>
 bp (opBin T .lss 3 (e 8) x2) m2 fun x3 m3 =>
 some (ups e [(12, e 8), (13, e 2), (14, x2), (15, x3)], m3)
def r153_4 : RR := fun D e m =>
 bp (opLoad T 24 (e 3) m) m fun x2 m2 =>
 bp (opIndexAddr T 22 (e 2) (e 8)) m2 fun x6 m6 =>
 bp (opLoad T 3 x6 m6) m6 fun x7 m7 =>
 bnd (D 115 [x2, e 1, x7] m7) fun x8 m8 =>
 bp (opIndexAddr T 22 (e 7) (e 8)) m8 fun x9 m9 =>
 bnd ((opStore T 3 x9 x8 m9).map (V.undef, ·)) fun x10 m10 =>
 some (ups e [(18, e 7), (19, e 8), (20, x2), (21, e 1), (22, e 2), (23, e 8), (24, x6), (25, x7), (26, x8), (27, x9)], m10)
def r153_5 : RR := fun D e m =>
 bp (opBin T .add 3 (e 8) (.int .i64 1)) m fun x1 m1 =>
 some (ups e [(16, e 8), (17, x1), (8, x1)], m1)
noncomputable def l153_6 : RC := fun D => (sq (sq (rg (r153_3 D)) (cnd (fun e => some (e 15)) sk (exi 0))) (sq (blk 1 (rg (r153_4 D))) (rg (r153_5 D))))
def r153_7 : RR := fun D e m =>
 some (ups e [(28, e 7), (6, e 7)], m)
noncomputable def c153 : RC := fun D => (sq (rg (r153_0 D)) (sq (rg (r153_1 D)) (sq (sq (rg (r153_2 D)) (blk 0 (loopD (l153_6 D)))) (sq (rg (r153_7 D)) rt))))
theorem e153 (a0 a1 a2 : V) (m : Mem) : DD 153 [a0, a1, a2] m = fin (c153 DD) (fun e m => some [e 6]) [a0, a1, a2] m :=
 eOf (f := Tryz.f153) (by kernel_rfl) (by kernel_rfl)
def r154_0 : RR := fun D e m =>
 bnd (opBox (e 0) m) fun x0 m0 =>
 some (ups e [(2, x0), (4, .int .i64 0)], m0)
def r154_1 : RR := fun D e m =>
 some (ups e [(5, .int .i64 1)], m)
def r154_2 : RR := fun D e m =>
 bp (opLoad T 24 (e 2) m) m fun x1 m1 =>
 bnd (D 93 [x1] m1) fun x2 m2 =>
 bp (opBin T .lss 3 (e 5) x2) m2 fun x3 m3 =>
 some (ups e [(6, e 5), (7, x1), (8, x2), (9, x3)], m3)
def r154_3 : RR := fun D e m =>
 bp (opLoad T 24 (e 2) m) m fun x0 m0 =>
 bnd (D 115 [x0, e 1, e 5] m0) fun x3 m3 =>
 bp (opBin T .eql 3 x3 (.int .i64 1)) m3 fun x4 m4 =>
 some (ups e [(12, x0), (13, e 1), (14, e 5), (15, x3), (16, x4)], m4)
def r154_4 : RR := fun D e m =>
 some (ups e [(17, e 5), (4, e 5)], m)
def r154_5 : RR := fun D e m =>
 bp (opBin T .add 3 (e 5) (.int .i64 1)) m fun x1 m1 =>
 some (ups e [(10, e 5), (11, x1), (5, x1)], m1)
noncomputable def l154_6 : RC := fun D => (sq (sq (rg (r154_2 D)) (cnd (fun e => some (e 9)) sk (exi 0))) (sq (blk 1 (sq (rg (r154_3 D)) (cnd (fun e => some (e 16)) (sq (rg (r154_4 D)) rt) sk))) (rg (r154_5 D))))
def r154_7 : RR := fun D e m =>
 some (ups e [(4, .int .i64 0)], m)
noncomputable def c154 : RC := fun D => (sq (rg (r154_0 D)) (sq (sq (rg (r154_1 D)) (blk 0 (loopD (l154_6 D)))) (sq (rg (r154_7 D)) rt)))
theorem e154 (a0 a1 : V) (m : Mem) : DD 154 [a0, a1] m = fin (c154 DD) (fun e m => some [e 4]) [a0, a1] m :=
 eOf (f := Tryz.f154) (by kernel_rfl) (by kernel_rfl)
def r155_0 : RR := fun D e m =>
 bnd (opBox (e 0) m) fun x0 m0 =>
 some (ups e [(2, x0), (4, .int .i64 0)], m0)
def r155_1 : RR := fun D e m =>
 bp (opLoad T 24 (e 2) m) m fun x0 m0 =>
 bnd (D 88 [x0, e 1] m0) fun x2 m2 =>
 some (ups e [(7, x0), (8, e 1), (9, x2), (5, x2)], m2)
def r155_2 : RR := fun D e m =>
 some (ups e [(6, .int .i64 0)], m)
def r155_3 : RR := fun D e m =>
 bp (opLen T 22 (e 5)) m fun x2 m2 =>
 bp (opBin T .lss 3 (e 6) x2) m2 fun x3 m3 =>
 some (ups e [(10, e 6), (11, e 5), (12, x2), (13, x3)], m3)
def r155_4 : RR := fun D e m =>
 bp (opFieldAddr T 24 (e 2) 0) m fun x2 m2 =>
 bp (opLoad T 3 x2 m2) m2 fun x3 m3 =>
 bp (opIndexAddr T 22 (e 5) (e 6)) m3 fun x6 m6 =>
 bp (opLoad T 3 x6 m6) m6 fun x7 m7 =>
 bp (opBin T .sub 3 x3 x7) m7 fun x8 m8 =>
 bp (opFieldAddr T 24 (e 2) 0) m8 fun x9 m9 =>
 bp (opLoad T 3 x9 m9) m9 fun x10 m10 =>
 bp (opBin T .rem 3 x8 x10) m10 fun x11 m11 =>
 bp (opIndexAddr T 22 (e 5) (e 6)) m11 fun x12 m12 =>
 bnd ((opStore T 3 x12 x11 m12).map (V.undef, ·)) fun x13 m13 =>
 some (ups e [(16, e 5), (17, e 6), (18, x2), (19, x3), (20, e 5), (21, e 6), (22, x6), (23, x7), (24, x8), (25, x9), (26, x10), (27, x11), (28, x12)], m13)
def r155_5 : RR := fun D e m =>
 bp (opBin T .add 3 (e 6) (.int .i64 1)) m fun x1 m1 =>
 some (ups e [(14, e 6), (15, x1), (6, x1)], m1)
noncomputable def l155_6 : RC := fun D => (sq (sq (rg (r155_3 D)) (cnd (fun e => some (e 13)) sk (exi 0))) (sq (blk 1 (rg (r155_4 D))) (rg (r155_5 D))))
def r155_7 : RR := fun D e m =>
 bp (opLoad T 24 (e 2) m) m fun x0 m0 =>
 bnd (D 89 [x0, e 5] m0) fun x2 m2 =>
 some (ups e [(29, x0), (30, e 5), (31, x2), (4, x2)], m2)
noncomputable def c155 : RC := fun D => (sq (rg (r155_0 D)) (sq (rg (r155_1 D)) (sq (sq (rg (r155_2 D)) (blk 0 (loopD (l155_6 D)))) (sq (rg (r155_7 D)) rt))))
theorem e155 (a0 a1 : V) (m : Mem) : DD 155 [a0, a1] m = fin (c155 DD) (fun e m => some [e 4]) [a0, a1] m :=
 eOf (f := Tryz.f155) (by kernel_rfl) (by kernel_rfl)
def r156_0 : RR := fun D e m =>
 bnd (opBox (e 0) m) fun x0 m0 =>
 some (ups e [(3, x0), (6, .bool false)], m0)
def r156_1 : RR := fun D e m =>
 bp (opFieldAddr T 130 (e 3) 0) m fun x1 m1 =>
 bp (opFieldAddr T 27 x1 1) m1 fun x2 m2 =>
 bp (opLoad T 3 x2 m2) m2 fun x3 m3 =>
 bnd (D 174 [e 2, x3] m3) fun x4 m4 =>
 bp (opUn .not x4) m4 fun x5 m5 =>
 some (ups e [(9, e 2), (10, x1), (11, x2), (12, x3), (13, x4), (14, x5)], m5)
def r156_2 : RR := fun D e m =>
 some (ups e [(6, .bool false)], m)
def r156_3 : RR := fun D e m =>
 some (ups e [(7, .int .i64 0)], m)
def r156_4 : RR := fun D e m =>
 bp (opLen T 22 (e 2)) m fun x2 m2 =>
 bp (opBin T .lss 3 (e 7) x2) m2 fun x3 m3 =>
 some (ups e [(15, e 7), (16, e 2), (17, x2), (18, x3)], m3)
def r156_5 : RR := fun D e m =>
 bp (opIndexAddr T 22 (e 2) (e 7)) m fun x3 m3 =>
 bp (opLoad T 3 x3 m3) m3 fun x4 m4 =>
 bnd (D 175 [e 1, x4] m4) fun x5 m5 =>
 some (ups e [(21, e 1), (22, e 2), (23, e 7), (24, x3), (25, x4), (26, x5)], m5)
def r156_6 : RR := fun D e m =>
 some (ups e [(6, .bool false)], m)
def r156_7 : RR := fun D e m =>
 bp (opBin T .add 3 (e 7) (.int .i64 1)) m fun x1 m1 =>
 some (ups e [(19, e 7), (20, x1), (7, x1)], m1)
noncomputable def l156_8 : RC := fun D => (sq (sq (rg (r156_4 D)) (cnd (fun e => some (e 18)) sk (exi 0))) (sq (blk 1 (sq (rg (r156_5 D)) (cnd (fun e => some (e 26)) (sq (rg (r156_6 D)) rt) sk))) (rg (r156_7 D))))
def r156_9 : RR := fun D e m =>
 bp (opFieldAddr T 130 (e 3) 0) m fun x0 m0 =>
 bp (opFieldAddr T 27 x0 0) m0 fun x1 m1 =>
 bp (opLoad T 24 x1 m1) m1 fun x2 m2 =>
 bp (opFieldAddr T 130 (e 3) 0) m2 fun x3 m3 =>
 bp (opFieldAddr T 27 x3 2) m3 fun x4 m4 =>
 bp (opLoad T 25 x4 m4) m4 fun x5 m5 =>
 bnd (D 176 [x2, x5, e 2] m5) fun x7 m7 =>
 bp (opLen T 22 (e 2)) m7 fun x9 m9 =>
 bp (opBin T .neq 3 x7 x9) m9 fun x10 m10 =>
 some (ups e [(27, x0), (28, x1), (29, x2), (30, x3), (31, x4), (32, x5), (33, e 2), (34, x7), (35, e 2), (36, x9), (37, x10)], m10)
def r156_10 : RR := fun D e m =>
 some (ups e [(6, .bool false)], m)
def r156_11 : RR := fun D e m =>
 bp (opFieldAddr T 130 (e 3) 4) m fun x0 m0 =>
 bp (opLoad T 4 x0 m0) m0 fun x1 m1 =>
 bp (opUn .not x1) m1 fun x2 m2 =>
 some (ups e [(38, x0), (39, x1), (40, x2)], m2)
def r156_12 : RR := fun D e m =>
 bp (opLen T 22 (e 2)) m fun x1 m1 =>
 bp (opFieldAddr T 130 (e 3) 1) m1 fun x2 m2 =>
 bp (opLoad T 3 x2 m2) m2 fun x3 m3 =>
 bp (opBin T .eql 3 x1 x3) m3 fun x4 m4 =>
 some (ups e [(41, e 2), (42, x1), (43, x2), (44, x3), (45, x4), (6, x4)], m4)
def r156_13 : RR := fun D e m =>
 bp (opFieldAddr T 130 (e 3) 0) m fun x1 m1 =>
 bp (opFieldAddr T 27 x1 1) m1 fun x2 m2 =>
 bp (opLoad T 3 x2 m2) m2 fun x3 m3 =>
 bnd (D 177 [e 1, x3] m3) fun x4 m4 =>
 some (ups e [(46, e 1), (47, x1), (48, x2), (49, x3), (50, x4), (8, x4)], m4)
def r156_14 : RR := fun D e m =>
 bp (opLen T 22 (e 2)) m fun x1 m1 =>
 bp (opFieldAddr T 130 (e 3) 0) m1 fun x2 m2 =>
 bp (opFieldAddr T 27 x2 0) m2 fun x3 m3 =>
 bp (opLoad T 24 x3 m3) m3 fun x4 m4 =>
 bp (opFieldAddr T 130 (e 3) 0) m4 fun x5 m5 =>
 bp (opFieldAddr T 27 x5 2) m5 fun x6 m6 =>
 bp (opLoad T 25 x6 m6) m6 fun x7 m7 =>
 bnd (D 176 [x4, x7, e 8] m7) fun x9 m9 =>
 bp (opBin T .neq 3 x1 x9) m9 fun x10 m10 =>
 some (ups e [(51, e 2), (52, x1), (53, x2), (54, x3), (55, x4), (56, x5), (57, x6), (58, x7), (59, e 8), (60, x9), (61, x10)], m10)
def r156_15 : RR := fun D e m =>
 some (ups e [(6, .bool false)], m)
noncomputable def r156_16 : RR := fun D e m =>
 bp (opLen T 22 (e 1)) m fun x1 m1 =>
 bp (opFieldAddr T 130 (e 3) 0) m1 fun x2 m2 =>
 bp (opLoad T 27 x2 m2) m2 fun x3 m3 =>
 bp (opFieldAddr T 130 (e 3) 3) m3 fun x4 m4 =>
 bp (opLoad T 22 x4 m4) m4 fun x5 m5 =>
 bnd (D 179 [x3, x5, e 2] m5) fun x7 m7 => chkd m5 m7 (
 bnd (D 85 [x7, e 8] m7) fun x9 m9 => chkd m7 m9 (
 bnd (D 178 [x9] m9) fun x10 m10 => chkd m9 m10 (
 bp (opBin T .add 3 x1 x10) m10 fun x11 m11 =>
 bp (opFieldAddr T 130 (e 3) 2) m11 fun x12 m12 =>
 bp (opLoad T 3 x12 m12) m12 fun x13 m13 =>
 bp (opBin T .gtr 3 x11 x13) m13 fun x14 m14 =>
 some (ups e [(62, e 1), (63, x1), (64, x2), (65, x3), (66, x4), (67, x5), (68, e 2), (69, x7), (70, e 8), (71, x9), (72, x10), (73, x11), (74, x12), (75, x13), (76, x14), (6, x14)], m14))))
noncomputable def c156 : RC := fun D => (sq (rg (r156_0 D)) (sq (sq (rg (r156_1 D)) (cnd (fun e => some (e 14)) (sq (rg (r156_2 D)) rt) sk)) (sq (sq (rg (r156_3 D)) (blk 0 (loopD (l156_8 D)))) (sq (sq (rg (r156_9 D)) (cnd (fun e => some (e 37)) (sq (rg (r156_10 D)) rt) sk)) (sq (sq (rg (r156_11 D)) (cnd (fun e => some (e 40)) (sq (rg (r156_12 D)) rt) sk)) (sq (rg (r156_13 D)) (sq (sq (rg (r156_14 D)) (cnd (fun e => some (e 61)) (sq (rg (r156_15 D)) rt) sk)) (sq (rg (r156_16 D)) rt))))))))
theorem e156 (a0 a1 a2 : V) (m : Mem) : DD 156 [a0, a1, a2] m = fin (c156 DD) (fun e m => some [e 6]) [a0, a1, a2] m :=
 eOf (f := Tryz.f156) (by kernel_rfl) (by kernel_rfl)
def r157_0 : RR := fun D e m =>
 bnd (opBox (e 0) m) fun x0 m0 =>
 some (ups e [(4, x0), (8, .nils)], m0)
def r157_1 : RR := fun D e m =>
 some (ups e [(9, .nils)], m)
def r157_2 : RR := fun D e m =>
 some (ups e [(10, .int .i64 0)], m)
def r157_3 : RR := fun D e m =>
 bp (opLen T 22 (e 3)) m fun x2 m2 =>
 bp (opBin T .lss 3 (e 10) x2) m2 fun x3 m3 =>
 bg x3 true (some ((e 1), m3)) m3 fun x5 m5 =>
 bg x3 true (lft (opLen T 22 x5) m5) m5 fun x6 m6 =>
 bg x3 true (lft (opFieldAddr T 130 (e 4) 2) m6) m6 fun x7 m7 =>
 bg x3 true (lft (opLoad T 3 x7 m7) m7) m7 fun x8 m8 =>
 bg x3 true (lft (opBin T .lss 3 x6 x8) m8) m8 fun x9 m9 =>
 bnd (pickV x3 x9 (.bool false) m9) fun x10 m10 =>
 some (ups e [(11, e 10), (12, e 3), (13, x2), (14, x3), (15, x3), (16, x5), (17, x6), (18, x7), (19, x8), (20, x9), (21, x10)], m10)
def r157_4 : RR := fun D e m =>
 bp (opIndexAddr T 22 (e 3) (e 10)) m fun x3 m3 =>
 bp (opLoad T 3 x3 m3) m3 fun x4 m4 =>
 bnd (D 175 [e 2, x4] m4) fun x5 m5 =>
 bp (opUn .not x5) m5 fun x6 m6 =>
 some (ups e [(24, e 2), (25, e 3), (26, e 10), (27, x3), (28, x4), (29, x5), (30, x6)], m6)
def r157_5 : RR := fun D e m =>
 bp (opIndexAddr T 22 (e 3) (e 10)) m fun x3 m3 =>
 bp (opLoad T 3 x3 m3) m3 fun x4 m4 =>
 bnd (opBuildSlice T 22 1 [(0, x4)] m4) fun x5 m5 =>
 bnd (opAppend T 22 22 (e 9) x5 m5) fun x6 m6 =>
 some (ups e [(31, e 9), (32, e 3), (33, e 10), (34, x3), (35, x4), (36, x5), (37, x6), (9, x6)], m6)
def r157_6 : RR := fun D e m =>
 bp (opBin T .add 3 (e 10) (.int .i64 1)) m fun x1 m1 =>
 some (ups e [(22, e 10), (23, x1), (10, x1)], m1)
noncomputable def l157_7 : RC := fun D => (sq (sq (rg (r157_3 D)) (cnd (fun e => some (e 21)) sk (exi 0))) (sq (blk 1 (sq (rg (r157_4 D)) (cnd (fun e => some (e 30)) (rg (r157_5 D)) sk))) (rg (r157_6 D))))
def r157_8 : RR := fun D e m =>
 some (ups e [(38, e 9), (8, e 9)], m)
noncomputable def c157 : RC := fun D => (sq (rg (r157_0 D)) (sq (rg (r157_1 D)) (sq (sq (rg (r157_2 D)) (blk 0 (loopD (l157_7 D)))) (sq (rg (r157_8 D)) rt))))
theorem e157 (a0 a1 a2 a3 : V) (m : Mem) : DD 157 [a0, a1, a2, a3] m = fin (c157 DD) (fun e m => some [e 8]) [a0, a1, a2, a3] m :=
 eOf (f := Tryz.f157) (by kernel_rfl) (by kernel_rfl)
def r158_0 : RR := fun D e m =>
 some (ups e [(4, .nils)], m)
def r158_1 : RR := fun D e m =>
 bnd (opBuildSlice T 22 0 [] m) fun x0 m0 =>
 bnd (opAppend T 22 22 x0 (e 0) m0) fun x2 m2 =>
 bnd (opAppend T 22 22 x2 (e 1) m2) fun x4 m4 =>
 some (ups e [(5, x0), (6, e 0), (7, x2), (8, e 1), (9, x4), (4, x4)], m4)
noncomputable def c158 : RC := fun D => (sq (rg (r158_0 D)) (sq (rg (r158_1 D)) rt))
theorem e158 (a0 a1 : V) (m : Mem) : DD 158 [a0, a1] m = fin (c158 DD) (fun e m => some [e 4]) [a0, a1] m :=
 eOf (f := Tryz.f158) (by kernel_rfl) (by kernel_rfl)
def r160_0 : RR := fun D e m =>
 bnd (opBox (e 1) m) fun x0 m0 =>
 some (ups e [(3, x0), (4, .int .i64 0)], m0)
def r160_1 : RR := fun D e m =>
 bp (opFieldAddr T 88 (e 3) 0) m fun x0 m0 =>
 bp (opLoad T 3 x0 m0) m0 fun x1 m1 =>
 bp (opBin T .lss 3 x1 (.int .i64 0)) m1 fun x2 m2 =>
 bg x2 false (lft (opFieldAddr T 88 (e 3) 0) m2) m2 fun x4 m4 =>
 bg x2 false (lft (opLoad T 3 x4 m4) m4) m4 fun x5 m5 =>
 bg x2 false (lft (opBin T .gtr 3 x5 (.int .i64 256)) m5) m5 fun x6 m6 =>
 bnd (pickV x2 (.bool true) x6 m6) fun x7 m7 =>
 bg x7 false (lft (opFieldAddr T 88 (e 3) 1) m7) m7 fun x9 m9 =>
 bg x7 false (lft (opLoad T 25 x9 m9) m9) m9 fun x10 m10 =>
 bg x7 false (lft (opLen T 25 x10) m10) m10 fun x11 m11 =>
 bg x7 false (lft (opBin T .gtr 3 x11 (.int .i64 256)) m11) m11 fun x12 m12 =>
 bnd (pickV x7 (.bool true) x12 m12) fun x13 m13 =>
 some (ups e [(10, x0), (11, x1), (12, x2), (13, x2), (14, x4), (15, x5), (16, x6), (17, x7), (18, x7), (19, x9), (20, x10), (21, x11), (22, x12), (23, x13)], m13)
def r160_2 : RR := fun D e m =>
 some (ups e [(4, .int .i64 3)], m)
def r160_3 : RR := fun D e m =>
 bp (opFieldAddr T 88 (e 3) 1) m fun x0 m0 =>
 bp (opLoad T 25 x0 m0) m0 fun x1 m1 =>
 bp (opLen T 25 x1) m1 fun x2 m2 =>
 some (ups e [(24, x0), (25, x1), (26, x2), (27, .int .i64 0)], m2)
def r160_4 : RR := fun D e m =>
 bp (opBin T .lss 3 (e 27) (e 26)) m fun x0 m0 =>
 some (ups e [(28, x0)], m0)
def r160_5 : RR := fun D e m =>
 bp (opIndexAddr T 25 (e 25) (e 27)) m fun x0 m0 =>
 bp (opLoad T 22 x0 m0) m0 fun x1 m1 =>
 some (ups e [(29, x0), (30, x1), (6, x1)], m1)
def r160_6 : RR := fun D e m =>
 bp (opLen T 22 (e 6)) m fun x1 m1 =>
 bp (opFieldAddr T 88 (e 3) 0) m1 fun x2 m2 =>
 bp (opLoad T 3 x2 m2) m2 fun x3 m3 =>
 bp (opBin T .neq 3 x1 x3) m3 fun x4 m4 =>
 some (ups e [(31, e 6), (32, x1), (33, x2), (34, x3), (35, x4)], m4)
def r160_7 : RR := fun D e m =>
 some (ups e [(4, .int .i64 3)], m)
def r160_8 : RR := fun D e m =>
 bp (opBin T .add 3 (e 27) (.int .i64 1)) m fun x0 m0 =>
 some (ups e [(36, x0), (27, x0)], m0)
noncomputable def l160_9 : RC := fun D => (sq (rg (r160_4 D)) (sq (cnd (fun e => some (e 28)) sk (exi 0)) (sq (blk 1 (sq (rg (r160_5 D)) (sq (rg (r160_6 D)) (cnd (fun e => some (e 35)) (sq (rg (r160_7 D)) rt) sk)))) (rg (r160_8 D)))))
def r160_10 : RR := fun D e m =>
 bp (opFieldAddr T 88 (e 3) 1) m fun x0 m0 =>
 bp (opLoad T 25 x0 m0) m0 fun x1 m1 =>
 bp (opLen T 25 x1) m1 fun x2 m2 =>
 some (ups e [(37, x0), (38, x1), (39, x2), (40, .int .i64 0)], m2)
def r160_11 : RR := fun D e m =>
 bp (opBin T .lss 3 (e 40) (e 39)) m fun x0 m0 =>
 some (ups e [(41, x0)], m0)
def r160_12 : RR := fun D e m =>
 bp (opIndexAddr T 25 (e 38) (e 40)) m fun x0 m0 =>
 bp (opLoad T 22 x0 m0) m0 fun x1 m1 =>
 some (ups e [(42, x0), (43, x1), (8, x1)], m1)
def r160_13 : RR := fun D e m =>
 bnd (D 142 [e 0, e 8] m) fun x2 m2 =>
 some (ups e [(44, e 0), (45, e 8), (46, x2), (9, x2)], m2)
def r160_14 : RR := fun D e m =>
 bp (opBin T .neq 33 (e 9) (.int .i64 0)) m fun x1 m1 =>
 some (ups e [(47, e 9), (48, x1)], m1)
def r160_15 : RR := fun D e m =>
 some (ups e [(49, e 9), (4, e 9)], m)
def r160_16 : RR := fun D e m =>
 bp (opBin T .add 3 (e 40) (.int .i64 1)) m fun x0 m0 =>
 some (ups e [(50, x0), (40, x0)], m0)
noncomputable def l160_17 : RC := fun D => (sq (rg (r160_11 D)) (sq (cnd (fun e => some (e 41)) sk (exi 2)) (sq (blk 3 (sq (rg (r160_12 D)) (sq (rg (r160_13 D)) (sq (rg (r160_14 D)) (cnd (fun e => some (e 48)) (sq (rg (r160_15 D)) rt) sk))))) (rg (r160_16 D)))))
def r160_18 : RR := fun D e m =>
 some (ups e [(4, .int .i64 0)], m)
noncomputable def c160 : RC := fun D => (sq (rg (r160_0 D)) (sq (sq (rg (r160_1 D)) (cnd (fun e => some (e 23)) (sq (rg (r160_2 D)) rt) sk)) (sq (sq (rg (r160_3 D)) (blk 0 (loopD (l160_9 D)))) (sq (sq (rg (r160_10 D)) (blk 2 (loopD (l160_17 D)))) (sq (rg (r160_18 D)) rt)))))
theorem e160 (a0 a1 : V) (m : Mem) : DD 160 [a0, a1] m = fin (c160 DD) (fun e m => some [e 4]) [a0, a1] m :=
 eOf (f := Tryz.f160) (by kernel_rfl) (by kernel_rfl)
def r161_0 : RR := fun D e m =>
 bp (opLen T 22 (e 3)) m fun x1 m1 =>
 some (ups e [(10, e 3), (11, x1), (12, .int .i64 0)], m1)
def r161_1 : RR := fun D e m =>
 bp (opBin T .lss 3 (e 12) (e 11)) m fun x0 m0 =>
 some (ups e [(13, x0)], m0)
def r161_2 : RR := fun D e m =>
 bp (opIndexAddr T 22 (e 10) (e 12)) m fun x1 m1 =>
 bp (opLoad T 3 x1 m1) m1 fun x2 m2 =>
 some (ups e [(14, e 12), (15, x1), (16, x2), (8, e 12), (9, x2)], m2)
def r161_3 : RR := fun D e m =>
 bp (opBin T .neq 3 (e 9) (.int .i64 0)) m fun x1 m1 =>
 some (ups e [(17, e 9), (18, x1)], m1)
noncomputable def r161_4 : RR := fun D e m =>
 bp (opIndexAddr T 22 (e 1) (e 8)) m fun x5 m5 =>
 bp (opLoad T 3 x5 m5) m5 fun x6 m6 =>
 bnd (D 166 [e 0, e 2, e 9] m6) fun x10 m10 => chkd m6 m10 (
 bnd (D 180 [e 0, x6, x10] m10) fun x11 m11 =>
 bp (opIndexAddr T 22 (e 1) (e 8)) m11 fun x12 m12 =>
 bnd ((opStore T 3 x12 x11 m12).map (V.undef, ·)) fun x13 m13 =>
 some (ups e [(19, e 1), (20, e 8), (21, e 0), (22, e 1), (23, e 8), (24, x5), (25, x6), (26, e 0), (27, e 2), (28, e 9), (29, x10), (30, x11), (31, x12)], m13))
def r161_5 : RR := fun D e m =>
 bp (opBin T .add 3 (e 12) (.int .i64 1)) m fun x0 m0 =>
 some (ups e [(32, x0), (12, x0)], m0)
noncomputable def l161_6 : RC := fun D => (sq (rg (r161_1 D)) (sq (cnd (fun e => some (e 13)) sk (exi 0)) (sq (blk 1 (sq (rg (r161_2 D)) (sq (rg (r161_3 D)) (cnd (fun e => some (e 18)) (rg (r161_4 D)) sk)))) (rg (r161_5 D)))))
noncomputable def c161 : RC := fun D => (sq (rg (r161_0 D)) (blk 0 (loopD (l161_6 D))))
theorem e161 (a0 a1 a2 a3 : V) (m : Mem) : DD 161 [a0, a1, a2, a3] m = fin (c161 DD) (fun e m => some []) [a0, a1, a2, a3] m :=
 eOf (f := Tryz.f161) (by kernel_rfl) (by kernel_rfl)
def r162_0 : RR := fun D e m =>
 some (ups e [(2, .nils)], m)
def r162_1 : RR := fun D e m =>
 bp (opBin T .eql 22 (e 0) .nils) m fun x1 m1 =>
 some (ups e [(3, e 0), (4, x1)], m1)
def r162_2 : RR := fun D e m =>
 some (ups e [(2, .nils)], m)
def r162_3 : RR := fun D e m =>
 bnd (opBuildSlice T 22 0 [] m) fun x0 m0 =>
 bnd (opAppend T 22 22 x0 (e 0) m0) fun x2 m2 =>
 some (ups e [(5, x0), (6, e 0), (7, x2), (2, x2)], m2)
noncomputable def c162 : RC := fun D => (sq (rg (r162_0 D)) (sq (sq (rg (r162_1 D)) (cnd (fun e => some (e 4)) (sq (rg (r162_2 D)) rt) sk)) (sq (rg (r162_3 D)) rt)))
theorem e162 (a0 : V) (m : Mem) : DD 162 [a0] m = fin (c162 DD) (fun e m => some [e 2]) [a0] m :=
 eOf (f := Tryz.f162) (by kernel_rfl) (by kernel_rfl)
def r163_0 : RR := fun D e m =>
 bp (opLoad T 25 (e 1) m) m fun x1 m1 =>
 bnd (callV D (e 0) [x1] m1) fun x2 m2 =>
 some (ups e [(4, e 0), (5, x1), (6, x2)], m2)
def r163_1 : RR := fun D e m =>
 bp (opLoad T 25 (e 2) m) m fun x0 m0 =>
 bp (opLen T 25 x0) m0 fun x1 m1 =>
 bp (opBin T .gtr 3 x1 (.int .i64 0)) m1 fun x2 m2 =>
 some (ups e [(7, x0), (8, x1), (9, x2)], m2)
def r163_2 : RR := fun D e m =>
 bp (opLoad T 25 (e 2) m) m fun x1 m1 =>
 bnd (callV D (e 0) [x1] m1) fun x2 m2 =>
 some (ups e [(10, e 0), (11, x1), (12, x2)], m2)
noncomputable def c163 : RC := fun D => (sq (rg (r163_0 D)) (sq (rg (r163_1 D)) (cnd (fun e => some (e 9)) (rg (r163_2 D)) sk)))
theorem e163 (a0 a1 a2 : V) (m : Mem) : DD 163 [a0, a1, a2] m = fin (c163 DD) (fun e m => some []) [a0, a1, a2] m :=
 eOf (f := Tryz.f163) (by kernel_rfl) (by kernel_rfl)
noncomputable def r164_0 : RR := fun D e m =>
 bp (opLoad T 3 (e 2) m) m fun x1 m1 =>
 bp (opLoad T 3 (e 1) m1) m1 fun x3 m3 =>
 bp (opLoad T 3 (e 1) m3) m3 fun x5 m5 =>
 bp (opIndexAddr T 25 (e 0) x5) m5 fun x6 m6 =>
 bp (opLoad T 22 x6 m6) m6 fun x7 m7 =>
 bp (opLoad T 3 (e 2) m7) m7 fun x9 m9 =>
 bp (opIndexAddr T 25 (e 0) x9) m9 fun x10 m10 =>
 bp (opLoad T 22 x10 m10) m10 fun x11 m11 =>
 bp (opIndexAddr T 25 (e 0) x1) m11 fun x12 m12 =>
 bnd ((opStore T 22 x12 x7 m12).map (V.undef, ·)) fun x13 m13 => chkl (opLoad T 3 (e 1) m12) (opLoad T 3 (e 1) m13) (
 bp (opIndexAddr T 25 (e 0) x3) m13 fun x14 m14 =>
 bnd ((opStore T 22 x14 x11 m14).map (V.undef, ·)) fun x15 m15 => chkl (opLoad T 3 (e 1) m14) (opLoad T 3 (e 1) m15) (
 some (ups e [(4, e 0), (5, x1), (6, e 0), (7, x3), (8, e 0), (9, x5), (10, x6), (11, x7), (12, e 0), (13, x9), (14, x10), (15, x11), (16, x12), (17, x14)], m15)))
noncomputable def c164 : RC := fun D => (rg (r164_0 D))
theorem e164 (a0 a1 a2 : V) (m : Mem) : DD 164 [a0, a1, a2] m = fin (c164 DD) (fun e m => some []) [a0, a1, a2] m :=
 eOf (f := Tryz.f164) (by kernel_rfl) (by kernel_rfl)
def r165_0 : RR := fun D e m =>
 some (ups e [(4, .int .i64 0)], m)
def r165_1 : RR := fun D e m =>
 bnd (D 181 [e 0, e 1] m) fun x2 m2 =>
 some (ups e [(7, e 0), (8, e 1), (9, x2), (1, x2)], m2)
def r165_2 : RR := fun D e m =>
 some (ups e [(5, .int .i64 0), (6, .int .i64 1)], m)
def r165_3 : RR := fun D e m =>
 bp (opBin T .gtr 3 (e 1) (.int .i64 0)) m fun x1 m1 =>
 some (ups e [(10, e 1), (11, x1)], m1)
def r165_4 : RR := fun D e m =>
 bnd (nilChk (e 0) m) fun x2 m2 =>
 bp (opFieldAddr T 107 x2 0) m2 fun x3 m3 =>
 bp (opFieldAddr T 24 x3 0) m3 fun x4 m4 =>
 bp (opLoad T 3 x4 m4) m4 fun x5 m5 =>
 bnd (nilChk (e 0) m5) fun x8 m8 =>
 bp (opFieldAddr T 107 x8 0) m8 fun x9 m9 =>
 bp (opFieldAddr T 24 x9 0) m9 fun x10 m10 =>
 bp (opLoad T 3 x10 m10) m10 fun x11 m11 =>
 bp (opBin T .rem 3 (e 1) x11) m11 fun x12 m12 =>
 bp (opBin T .sub 3 x5 x12) m12 fun x13 m13 =>
 bnd (nilChk (e 0) m13) fun x15 m15 =>
 bp (opFieldAddr T 107 x15 0) m15 fun x16 m16 =>
 bp (opFieldAddr T 24 x16 0) m16 fun x17 m17 =>
 bp (opLoad T 3 x17 m17) m17 fun x18 m18 =>
 bp (opBin T .rem 3 x13 x18) m18 fun x19 m19 =>
 bp (opBin T .mul 3 x19 (e 6)) m19 fun x21 m21 =>
 bp (opBin T .add 3 (e 5) x21) m21 fun x22 m22 =>
 some (ups e [(12, e 5), (13, e 0), (14, x2), (15, x3), (16, x4), (17, x5), (18, e 1), (19, e 0), (20, x8), (21, x9), (22, x10), (23, x11), (24, x12), (25, x13), (26, e 0), (27, x15), (28, x16), (29, x17), (30, x18), (31, x19), (32, e 6), (33, x21), (34, x22), (5, x22)], m22)
def r165_5 : RR := fun D e m =>
 bnd (nilChk (e 0) m) fun x2 m2 =>
 bp (opFieldAddr T 107 x2 0) m2 fun x3 m3 =>
 bp (opFieldAddr T 24 x3 0) m3 fun x4 m4 =>
 bp (opLoad T 3 x4 m4) m4 fun x5 m5 =>
 bp (opBin T .mul 3 (e 6) x5) m5 fun x6 m6 =>
 some (ups e [(35, e 6), (36, e 0), (37, x2), (38, x3), (39, x4), (40, x5), (41, x6), (6, x6)], m6)
def r165_6 : RR := fun D e m =>
 bnd (nilChk (e 0) m) fun x2 m2 =>
 bp (opFieldAddr T 107 x2 0) m2 fun x3 m3 =>
 bp (opFieldAddr T 24 x3 0) m3 fun x4 m4 =>
 bp (opLoad T 3 x4 m4) m4 fun x5 m5 =>
 bp (opBin T .quo 3 (e 1) x5) m5 fun x6 m6 =>
 some (ups e [(42, e 1), (43, e 0), (44, x2), (45, x3), (46, x4), (47, x5), (48, x6), (1, x6)], m6)
noncomputable def l165_7 : RC := fun D => (sq (sq (rg (r165_3 D)) (cnd (fun e => some (e 11)) sk (exi 0))) (blk 1 (sq (rg (r165_4 D)) (sq (rg (r165_5 D)) (rg (r165_6 D))))))
def r165_8 : RR := fun D e m =>
 some (ups e [(49, e 5), (4, e 5)], m)
noncomputable def c165 : RC := fun D => (sq (rg (r165_0 D)) (sq (rg (r165_1 D)) (sq (rg (r165_2 D)) (sq (blk 0 (loopD (l165_7 D))) (sq (rg (r165_8 D)) rt)))))
theorem e165 (a0 a1 : V) (m : Mem) : DD 165 [a0, a1] m = fin (c165 DD) (fun e m => some [e 4]) [a0, a1] m :=
 eOf (f := Tryz.f165) (by kernel_rfl) (by kernel_rfl)
end Go.Proofs.YtefjnnghfloddaaGreat.Abs
