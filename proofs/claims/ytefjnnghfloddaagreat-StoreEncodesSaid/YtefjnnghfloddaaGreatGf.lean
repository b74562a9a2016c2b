/- A part of a proof of a law of the store, without conditions: its texts are: Fu1. -/
import Derived.Test.YtefjnnghfloddaaGreatGe
/- The program's functions as the executor runs them, each proved to be so. Printed by gen.py, a program of this work. -/
namespace Go.Proofs.YtefjnnghfloddaaGreat.Abs
open Go.Proofs
set_option linter.unusedVariables false
set_option maxRecDepth 100000
def r166_0 : RR := fun D e m =>
 some (ups e [(6, .int .i64 0)], m)
def r166_1 : RR := fun D e m =>
 bnd (D 181 [e 0, e 1] m) fun x2 m2 =>
 bnd (D 181 [e 0, e 2] m2) fun x5 m5 =>
 some (ups e [(7, e 0), (8, e 1), (9, x2), (10, e 0), (11, e 2), (12, x5), (1, x2), (2, x5)], m5)
def r166_2 : RR := fun D e m =>
 bp (opBin T .eql 3 (e 1) (.int .i64 0)) m fun x1 m1 =>
 bg x1 false (some ((e 2), m1)) m1 fun x3 m3 =>
 bg x1 false (lft (opBin T .eql 3 x3 (.int .i64 0)) m3) m3 fun x4 m4 =>
 bnd (pickV x1 (.bool true) x4 m4) fun x5 m5 =>
 some (ups e [(13, e 1), (14, x1), (15, x1), (16, x3), (17, x4), (18, x5)], m5)
def r166_3 : RR := fun D e m =>
 some (ups e [(6, .int .i64 0)], m)
def r166_4 : RR := fun D e m =>
 bnd (nilChk (e 0) m) fun x1 m1 =>
 bp (opFieldAddr T 107 x1 2) m1 fun x2 m2 =>
 bp (opLoad T 22 x2 m2) m2 fun x3 m3 =>
 bnd (nilChk (e 0) m3) fun x5 m5 =>
 bp (opFieldAddr T 107 x5 3) m5 fun x6 m6 =>
 bp (opLoad T 22 x6 m6) m6 fun x7 m7 =>
 bp (opIndexAddr T 22 x7 (e 1)) m7 fun x9 m9 =>
 bp (opLoad T 3 x9 m9) m9 fun x10 m10 =>
 bnd (nilChk (e 0) m10) fun x12 m12 =>
 bp (opFieldAddr T 107 x12 3) m12 fun x13 m13 =>
 bp (opLoad T 22 x13 m13) m13 fun x14 m14 =>
 bp (opIndexAddr T 22 x14 (e 2)) m14 fun x16 m16 =>
 bp (opLoad T 3 x16 m16) m16 fun x17 m17 =>
 bp (opBin T .add 3 x10 x17) m17 fun x18 m18 =>
 bnd (nilChk (e 0) m18) fun x20 m20 =>
 bp (opFieldAddr T 107 x20 1) m20 fun x21 m21 =>
 bp (opLoad T 3 x21 m21) m21 fun x22 m22 =>
 bp (opBin T .sub 3 x22 (.int .i64 1)) m22 fun x23 m23 =>
 bp (opBin T .rem 3 x18 x23) m23 fun x24 m24 =>
 bp (opIndexAddr T 22 x3 x24) m24 fun x25 m25 =>
 bp (opLoad T 3 x25 m25) m25 fun x26 m26 =>
 some (ups e [(19, e 0), (20, x1), (21, x2), (22, x3), (23, e 0), (24, x5), (25, x6), (26, x7), (27, e 1), (28, x9), (29, x10), (30, e 0), (31, x12), (32, x13), (33, x14), (34, e 2), (35, x16), (36, x17), (37, x18), (38, e 0), (39, x20), (40, x21), (41, x22), (42, x23), (43, x24), (44, x25), (45, x26), (6, x26)], m26)
noncomputable def c166 : RC := fun D => (sq (rg (r166_0 D)) (sq (rg (r166_1 D)) (sq (sq (rg (r166_2 D)) (cnd (fun e => some (e 18)) (sq (rg (r166_3 D)) rt) sk)) (sq (rg (r166_4 D)) rt))))
theorem e166 (a0 a1 a2 : V) (m : Mem) : DD 166 [a0, a1, a2] m = fin (c166 DD) (fun e m => some [e 6]) [a0, a1, a2] m :=
 eOf (f := Tryz.f166) (by kernel_rfl) (by kernel_rfl)
def r167_0 : RR := fun D e m =>
 some (ups e [(4, .int .i64 0), (5, .int .i64 0)], m)
def r167_1 : RR := fun D e m =>
 bnd (D 181 [e 0, e 1] m) fun x2 m2 =>
 some (ups e [(6, e 0), (7, e 1), (8, x2), (1, x2)], m2)
def r167_2 : RR := fun D e m =>
 bp (opBin T .eql 3 (e 1) (.int .i64 0)) m fun x1 m1 =>
 some (ups e [(9, e 1), (10, x1)], m1)
def r167_3 : RR := fun D e m =>
 some (ups e [(4, .int .i64 0), (5, .int .i64 7)], m)
def r167_4 : RR := fun D e m =>
 bnd (nilChk (e 0) m) fun x1 m1 =>
 bp (opFieldAddr T 107 x1 2) m1 fun x2 m2 =>
 bp (opLoad T 22 x2 m2) m2 fun x3 m3 =>
 bnd (nilChk (e 0) m3) fun x5 m5 =>
 bp (opFieldAddr T 107 x5 1) m5 fun x6 m6 =>
 bp (opLoad T 3 x6 m6) m6 fun x7 m7 =>
 bp (opBin T .sub 3 x7 (.int .i64 1)) m7 fun x8 m8 =>
 bnd (nilChk (e 0) m8) fun x10 m10 =>
 bp (opFieldAddr T 107 x10 3) m10 fun x11 m11 =>
 bp (opLoad T 22 x11 m11) m11 fun x12 m12 =>
 bp (opIndexAddr T 22 x12 (e 1)) m12 fun x14 m14 =>
 bp (opLoad T 3 x14 m14) m14 fun x15 m15 =>
 bp (opBin T .sub 3 x8 x15) m15 fun x16 m16 =>
 bnd (nilChk (e 0) m16) fun x18 m18 =>
 bp (opFieldAddr T 107 x18 1) m18 fun x19 m19 =>
 bp (opLoad T 3 x19 m19) m19 fun x20 m20 =>
 bp (opBin T .sub 3 x20 (.int .i64 1)) m20 fun x21 m21 =>
 bp (opBin T .rem 3 x16 x21) m21 fun x22 m22 =>
 bp (opIndexAddr T 22 x3 x22) m22 fun x23 m23 =>
 bp (opLoad T 3 x23 m23) m23 fun x24 m24 =>
 some (ups e [(11, e 0), (12, x1), (13, x2), (14, x3), (15, e 0), (16, x5), (17, x6), (18, x7), (19, x8), (20, e 0), (21, x10), (22, x11), (23, x12), (24, e 1), (25, x14), (26, x15), (27, x16), (28, e 0), (29, x18), (30, x19), (31, x20), (32, x21), (33, x22), (34, x23), (35, x24), (4, x24), (5, .int .i64 0)], m24)
noncomputable def c167 : RC := fun D => (sq (rg (r167_0 D)) (sq (rg (r167_1 D)) (sq (sq (rg (r167_2 D)) (cnd (fun e => some (e 10)) (sq (rg (r167_3 D)) rt) sk)) (sq (rg (r167_4 D)) rt))))
theorem e167 (a0 a1 : V) (m : Mem) : DD 167 [a0, a1] m = fin (c167 DD) (fun e m => some [e 4, e 5]) [a0, a1] m :=
 eOf (f := Tryz.f167) (by kernel_rfl) (by kernel_rfl)
noncomputable def r168_0 : RR := fun D e m =>
 bp (opLoad T 3 (e 3) m) m fun x1 m1 =>
 bp (opLoad T 76 (e 1) m1) m1 fun x2 m2 =>
 bp (opLoad T 3 (e 2) m2) m2 fun x3 m3 =>
 bp (opLoad T 3 (e 3) m3) m3 fun x5 m5 =>
 bp (opIndexAddr T 25 (e 0) x5) m5 fun x6 m6 =>
 bp (opLoad T 22 x6 m6) m6 fun x7 m7 =>
 bnd (D 169 [x2, x3, x7] m7) fun x8 m8 => chkd m7 m8 (
 bp (opIndexAddr T 25 (e 0) x1) m8 fun x9 m9 =>
 bnd ((opStore T 22 x9 x8 m9).map (V.undef, ·)) fun x10 m10 =>
 some (ups e [(5, e 0), (6, x1), (7, x2), (8, x3), (9, e 0), (10, x5), (11, x6), (12, x7), (13, x8), (14, x9)], m10))
noncomputable def c168 : RC := fun D => (rg (r168_0 D))
theorem e168 (a0 a1 a2 a3 : V) (m : Mem) : DD 168 [a0, a1, a2, a3] m = fin (c168 DD) (fun e m => some []) [a0, a1, a2, a3] m :=
 eOf (f := Tryz.f168) (by kernel_rfl) (by kernel_rfl)
def r169_0 : RR := fun D e m =>
 some (ups e [(6, .nils)], m)
def r169_1 : RR := fun D e m =>
 bp (opLen T 22 (e 2)) m fun x1 m1 =>
 bnd (opMakeSlice T 22 x1 x1 m1) fun x2 m2 =>
 some (ups e [(10, e 2), (11, x1), (12, x2), (7, x2)], m2)
def r169_2 : RR := fun D e m =>
 bp (opLen T 22 (e 2)) m fun x1 m1 =>
 some (ups e [(13, e 2), (14, x1), (15, .int .i64 0)], m1)
def r169_3 : RR := fun D e m =>
 bp (opBin T .lss 3 (e 15) (e 14)) m fun x0 m0 =>
 some (ups e [(16, x0)], m0)
def r169_4 : RR := fun D e m =>
 bp (opIndexAddr T 22 (e 13) (e 15)) m fun x1 m1 =>
 bp (opLoad T 3 x1 m1) m1 fun x2 m2 =>
 some (ups e [(17, e 15), (18, x1), (19, x2), (8, e 15), (9, x2)], m2)
def r169_5 : RR := fun D e m =>
 bnd (D 166 [e 0, e 1, e 9] m) fun x5 m5 =>
 bp (opIndexAddr T 22 (e 7) (e 8)) m5 fun x6 m6 =>
 bnd ((opStore T 3 x6 x5 m6).map (V.undef, ·)) fun x7 m7 =>
 some (ups e [(20, e 7), (21, e 8), (22, e 0), (23, e 1), (24, e 9), (25, x5), (26, x6)], m7)
def r169_6 : RR := fun D e m =>
 bp (opBin T .add 3 (e 15) (.int .i64 1)) m fun x0 m0 =>
 some (ups e [(27, x0), (15, x0)], m0)
noncomputable def l169_7 : RC := fun D => (sq (rg (r169_3 D)) (sq (cnd (fun e => some (e 16)) sk (exi 0)) (sq (blk 1 (sq (rg (r169_4 D)) (rg (r169_5 D)))) (rg (r169_6 D)))))
def r169_8 : RR := fun D e m =>
 some (ups e [(28, e 7), (6, e 7)], m)
noncomputable def c169 : RC := fun D => (sq (rg (r169_0 D)) (sq (rg (r169_1 D)) (sq (sq (rg (r169_2 D)) (blk 0 (loopD (l169_7 D)))) (sq (rg (r169_8 D)) rt))))
theorem e169 (a0 a1 a2 : V) (m : Mem) : DD 169 [a0, a1, a2] m = fin (c169 DD) (fun e m => some [e 6]) [a0, a1, a2] m :=
 eOf (f := Tryz.f169) (by kernel_rfl) (by kernel_rfl)
noncomputable def r170_0 : RR := fun D e m =>
 bp (opLoad T 76 (e 1) m) m fun x0 m0 =>
 bp (opLoad T 3 (e 2) m0) m0 fun x2 m2 =>
 bp (opIndexAddr T 25 (e 0) x2) m2 fun x3 m3 =>
 bp (opLoad T 22 x3 m3) m3 fun x4 m4 =>
 bp (opLoad T 76 (e 1) m4) m4 fun x5 m5 =>
 bp (opLoad T 3 (e 3) m5) m5 fun x6 m6 =>
 bnd (D 165 [x5, x6] m6) fun x7 m7 => chkd m6 m7 (
 bp (opLoad T 3 (e 4) m7) m7 fun x9 m9 =>
 bp (opIndexAddr T 25 (e 0) x9) m9 fun x10 m10 =>
 bp (opLoad T 22 x10 m10) m10 fun x11 m11 =>
 bnd (D 161 [x0, x4, x7, x11] m11) fun x12 m12 =>
 some (ups e [(6, x0), (7, e 0), (8, x2), (9, x3), (10, x4), (11, x5), (12, x6), (13, x7), (14, e 0), (15, x9), (16, x10), (17, x11), (18, x12)], m12))
noncomputable def c170 : RC := fun D => (rg (r170_0 D))
theorem e170 (a0 a1 a2 a3 a4 : V) (m : Mem) : DD 170 [a0, a1, a2, a3, a4] m = fin (c170 DD) (fun e m => some []) [a0, a1, a2, a3, a4] m :=
 eOf (f := Tryz.f170) (by kernel_rfl) (by kernel_rfl)
def r171_0 : RR := fun D e m =>
 some (ups e [(6, .nils)], m)
def r171_1 : RR := fun D e m =>
 bnd (nilChk (e 0) m) fun x1 m1 =>
 bp (opFieldAddr T 157 x1 0) m1 fun x2 m2 =>
 bp (opLoad T 76 x2 m2) m2 fun x3 m3 =>
 bp (opBuild T 195 [(0, x3)]) m3 fun x4 m4 =>
 bnd (opBox x4 m4) fun x5 m5 =>
 some (ups e [(11, e 0), (12, x1), (13, x2), (14, x3), (15, x4), (16, x5), (7, x5)], m5)
def r171_2 : RR := fun D e m =>
 some (ups e [(8, .nils)], m)
def r171_3 : RR := fun D e m =>
 bp (opLen T 22 (e 1)) m fun x1 m1 =>
 some (ups e [(17, e 1), (18, x1), (19, .int .i64 0)], m1)
def r171_4 : RR := fun D e m =>
 bp (opBin T .lss 3 (e 19) (e 18)) m fun x0 m0 =>
 some (ups e [(20, x0)], m0)
def r171_5 : RR := fun D e m =>
 bp (opIndexAddr T 22 (e 17) (e 19)) m fun x0 m0 =>
 bp (opLoad T 3 x0 m0) m0 fun x1 m1 =>
 some (ups e [(21, x0), (22, x1), (10, x1)], m1)
def r171_6 : RR := fun D e m =>
 bp (opLen T 22 (e 8)) m fun x1 m1 =>
 bp (opBin T .eql 3 x1 (e 2)) m1 fun x3 m3 =>
 some (ups e [(23, e 8), (24, x1), (25, e 2), (26, x3)], m3)
def r171_7 : RR := fun D e m =>
 bnd (D 183 [e 0, e 10] m) fun x3 m3 =>
 bnd (D 182 [e 7, x3] m3) fun x4 m4 =>
 some (ups e [(27, e 7), (28, e 0), (29, e 10), (30, x3), (31, x4)], m4)
def r171_8 : RR := fun D e m =>
 bnd (opBuildSlice T 22 1 [(0, e 10)] m) fun x2 m2 =>
 bnd (opAppend T 22 22 (e 8) x2 m2) fun x3 m3 =>
 some (ups e [(32, e 8), (33, e 10), (34, x2), (35, x3), (8, x3)], m3)
def r171_9 : RR := fun D e m =>
 bp (opBin T .add 3 (e 19) (.int .i64 1)) m fun x0 m0 =>
 some (ups e [(36, x0), (19, x0)], m0)
noncomputable def l171_10 : RC := fun D => (sq (rg (r171_4 D)) (sq (cnd (fun e => some (e 20)) sk (exi 0)) (sq (blk 1 (sq (rg (r171_5 D)) (sq (sq (rg (r171_6 D)) (cnd (fun e => some (e 26)) (exi 0) sk)) (sq (rg (r171_7 D)) (cnd (fun e => some (e 31)) (rg (r171_8 D)) sk))))) (rg (r171_9 D)))))
def r171_11 : RR := fun D e m =>
 some (ups e [(37, e 8), (6, e 8)], m)
noncomputable def c171 : RC := fun D => (sq (rg (r171_0 D)) (sq (rg (r171_1 D)) (sq (rg (r171_2 D)) (sq (sq (rg (r171_3 D)) (blk 0 (loopD (l171_10 D)))) (sq (rg (r171_11 D)) rt)))))
theorem e171 (a0 a1 a2 : V) (m : Mem) : DD 171 [a0, a1, a2] m = fin (c171 DD) (fun e m => some [e 6]) [a0, a1, a2] m :=
 eOf (f := Tryz.f171) (by kernel_rfl) (by kernel_rfl)
def r174_0 : RR := fun D e m =>
 some (ups e [(4, .bool false)], m)
def r174_1 : RR := fun D e m =>
 some (ups e [(5, .int .i64 0)], m)
def r174_2 : RR := fun D e m =>
 bp (opLen T 22 (e 0)) m fun x2 m2 =>
 bp (opBin T .lss 3 (e 5) x2) m2 fun x3 m3 =>
 some (ups e [(6, e 5), (7, e 0), (8, x2), (9, x3)], m3)
def r174_3 : RR := fun D e m =>
 bp (opIndexAddr T 22 (e 0) (e 5)) m fun x2 m2 =>
 bp (opLoad T 3 x2 m2) m2 fun x3 m3 =>
 bp (opBin T .lss 3 x3 (.int .i64 0)) m3 fun x4 m4 =>
 bg x4 false (some ((e 0), m4)) m4 fun x6 m6 =>
 bg x4 false (some ((e 5), m6)) m6 fun x7 m7 =>
 bg x4 false (lft (opIndexAddr T 22 x6 x7) m7) m7 fun x8 m8 =>
 bg x4 false (lft (opLoad T 3 x8 m8) m8) m8 fun x9 m9 =>
 bg x4 false (some ((e 1), m9)) m9 fun x10 m10 =>
 bg x4 false (lft (opBin T .geq 3 x9 x10) m10) m10 fun x11 m11 =>
 bnd (pickV x4 (.bool true) x11 m11) fun x12 m12 =>
 bg x12 false (some ((e 5), m12)) m12 fun x14 m14 =>
 bg x12 false (lft (opBin T .gtr 3 x14 (.int .i64 0)) m14) m14 fun x15 m15 =>
 bg x12 false (some (x15, m15)) m15 fun x16 m16 =>
 bg x16 true (some ((e 0), m16)) m16 fun x17 m17 =>
 bg x16 true (some ((e 5), m17)) m17 fun x18 m18 =>
 bg x16 true (lft (opIndexAddr T 22 x17 x18) m18) m18 fun x19 m19 =>
 bg x16 true (lft (opLoad T 3 x19 m19) m19) m19 fun x20 m20 =>
 bg x16 true (some ((e 0), m20)) m20 fun x21 m21 =>
 bg x16 true (some ((e 5), m21)) m21 fun x22 m22 =>
 bg x16 true (lft (opBin T .sub 3 x22 (.int .i64 1)) m22) m22 fun x23 m23 =>
 bg x16 true (lft (opIndexAddr T 22 x21 x23) m23) m23 fun x24 m24 =>
 bg x16 true (lft (opLoad T 3 x24 m24) m24) m24 fun x25 m25 =>
 bg x16 true (lft (opBin T .leq 3 x20 x25) m25) m25 fun x26 m26 =>
 bg x12 false (pickV x16 x26 (.bool false) m26) m26 fun x27 m27 =>
 bnd (pickV x12 (.bool true) x27 m27) fun x28 m28 =>
 some (ups e [(12, e 0), (13, e 5), (14, x2), (15, x3), (16, x4), (17, x4), (18, x6), (19, x7), (20, x8), (21, x9), (22, x10), (23, x11), (24, x12), (25, x12), (26, x14), (27, x15), (28, x16), (29, x17), (30, x18), (31, x19), (32, x20), (33, x21), (34, x22), (35, x23), (36, x24), (37, x25), (38, x26), (39, x27), (40, x28)], m28)
def r174_4 : RR := fun D e m =>
 some (ups e [(4, .bool false)], m)
def r174_5 : RR := fun D e m =>
 bp (opBin T .add 3 (e 5) (.int .i64 1)) m fun x1 m1 =>
 some (ups e [(10, e 5), (11, x1), (5, x1)], m1)
noncomputable def l174_6 : RC := fun D => (sq (sq (rg (r174_2 D)) (cnd (fun e => some (e 9)) sk (exi 0))) (sq (blk 1 (sq (rg (r174_3 D)) (cnd (fun e => some (e 40)) (sq (rg (r174_4 D)) rt) sk))) (rg (r174_5 D))))
def r174_7 : RR := fun D e m =>
 some (ups e [(4, .bool true)], m)
noncomputable def c174 : RC := fun D => (sq (rg (r174_0 D)) (sq (sq (rg (r174_1 D)) (blk 0 (loopD (l174_6 D)))) (sq (rg (r174_7 D)) rt)))
theorem e174 (a0 a1 : V) (m : Mem) : DD 174 [a0, a1] m = fin (c174 DD) (fun e m => some [e 4]) [a0, a1] m :=
 eOf (f := Tryz.f174) (by kernel_rfl) (by kernel_rfl)
def r175_0 : RR := fun D e m =>
 some (ups e [(4, .bool false)], m)
def r175_1 : RR := fun D e m =>
 some (ups e [(5, .int .i64 0)], m)
def r175_2 : RR := fun D e m =>
 bp (opLen T 22 (e 0)) m fun x2 m2 =>
 bp (opBin T .lss 3 (e 5) x2) m2 fun x3 m3 =>
 some (ups e [(6, e 5), (7, e 0), (8, x2), (9, x3)], m3)
def r175_3 : RR := fun D e m =>
 bp (opIndexAddr T 22 (e 0) (e 5)) m fun x2 m2 =>
 bp (opLoad T 3 x2 m2) m2 fun x3 m3 =>
 bp (opBin T .eql 3 x3 (e 1)) m3 fun x5 m5 =>
 some (ups e [(12, e 0), (13, e 5), (14, x2), (15, x3), (16, e 1), (17, x5)], m5)
def r175_4 : RR := fun D e m =>
 some (ups e [(4, .bool true)], m)
def r175_5 : RR := fun D e m =>
 bp (opBin T .add 3 (e 5) (.int .i64 1)) m fun x1 m1 =>
 some (ups e [(10, e 5), (11, x1), (5, x1)], m1)
noncomputable def l175_6 : RC := fun D => (sq (sq (rg (r175_2 D)) (cnd (fun e => some (e 9)) sk (exi 0))) (sq (blk 1 (sq (rg (r175_3 D)) (cnd (fun e => some (e 17)) (sq (rg (r175_4 D)) rt) sk))) (rg (r175_5 D))))
def r175_7 : RR := fun D e m =>
 some (ups e [(4, .bool false)], m)
noncomputable def c175 : RC := fun D => (sq (rg (r175_0 D)) (sq (sq (rg (r175_1 D)) (blk 0 (loopD (l175_6 D)))) (sq (rg (r175_7 D)) rt)))
theorem e175 (a0 a1 : V) (m : Mem) : DD 175 [a0, a1] m = fin (c175 DD) (fun e m => some [e 4]) [a0, a1] m :=
 eOf (f := Tryz.f175) (by kernel_rfl) (by kernel_rfl)
def r176_0 : RR := fun D e m =>
 bnd (opBox (e 0) m) fun x0 m0 =>
 some (ups e [(3, x0), (6, .int .i64 0)], m0)
noncomputable def r176_1 : RR := fun D e m =>
 bp (opLoad T 24 (e 3) m) m fun x0 m0 =>
 bnd (D 187 [e 1, e 2] m0) fun x3 m3 => chkd m0 m3 (
 bp (opLen T 22 (e 2)) m3 fun x5 m5 =>
 bnd (D 97 [x0, x3, x5] m5) fun x6 m6 =>
 bnd (extV x6 0 m6) fun x8 m8 =>
 bnd (extV x6 1 m8) fun x9 m9 =>
 some (ups e [(10, x0), (11, e 1), (12, e 2), (13, x3), (14, e 2), (15, x5), (16, x6), (9, x6), (17, x8), (18, x9), (7, x8), (8, x9)], m9))
def r176_2 : RR := fun D e m =>
 bp (opLen T 22 (e 8)) m fun x1 m1 =>
 some (ups e [(19, e 8), (20, x1), (6, x1)], m1)
noncomputable def c176 : RC := fun D => (sq (rg (r176_0 D)) (sq (rg (r176_1 D)) (sq (rg (r176_2 D)) rt)))
theorem e176 (a0 a1 a2 : V) (m : Mem) : DD 176 [a0, a1, a2] m = fin (c176 DD) (fun e m => some [e 6]) [a0, a1, a2] m :=
 eOf (f := Tryz.f176) (by kernel_rfl) (by kernel_rfl)
def r180_0 : RR := fun D e m =>
 some (ups e [(6, .int .i64 0)], m)
def r180_1 : RR := fun D e m =>
 bnd (D 181 [e 0, e 1] m) fun x2 m2 =>
 bnd (D 181 [e 0, e 2] m2) fun x5 m5 =>
 some (ups e [(9, e 0), (10, e 1), (11, x2), (12, e 0), (13, e 2), (14, x5), (1, x2), (2, x5)], m5)
def r180_2 : RR := fun D e m =>
 bnd (nilChk (e 0) m) fun x1 m1 =>
 bp (opFieldAddr T 107 x1 0) m1 fun x2 m2 =>
 bp (opFieldAddr T 24 x2 0) m2 fun x3 m3 =>
 bp (opLoad T 3 x3 m3) m3 fun x4 m4 =>
 bp (opBin T .eql 3 x4 (.int .i64 2)) m4 fun x5 m5 =>
 some (ups e [(15, e 0), (16, x1), (17, x2), (18, x3), (19, x4), (20, x5)], m5)
def r180_3 : RR := fun D e m =>
 bp (opBin T .xor 3 (e 1) (e 2)) m fun x2 m2 =>
 some (ups e [(21, e 1), (22, e 2), (23, x2), (6, x2)], m2)
def r180_4 : RR := fun D e m =>
 some (ups e [(7, .int .i64 0), (8, .int .i64 1)], m)
def r180_5 : RR := fun D e m =>
 bp (opBin T .gtr 3 (e 1) (.int .i64 0)) m fun x1 m1 =>
 bg x1 false (some ((e 2), m1)) m1 fun x3 m3 =>
 bg x1 false (lft (opBin T .gtr 3 x3 (.int .i64 0)) m3) m3 fun x4 m4 =>
 bnd (pickV x1 (.bool true) x4 m4) fun x5 m5 =>
 some (ups e [(24, e 1), (25, x1), (26, x1), (27, x3), (28, x4), (29, x5)], m5)
def r180_6 : RR := fun D e m =>
 bnd (nilChk (e 0) m) fun x3 m3 =>
 bp (opFieldAddr T 107 x3 0) m3 fun x4 m4 =>
 bp (opFieldAddr T 24 x4 0) m4 fun x5 m5 =>
 bp (opLoad T 3 x5 m5) m5 fun x6 m6 =>
 bp (opBin T .rem 3 (e 1) x6) m6 fun x7 m7 =>
 bnd (nilChk (e 0) m7) fun x10 m10 =>
 bp (opFieldAddr T 107 x10 0) m10 fun x11 m11 =>
 bp (opFieldAddr T 24 x11 0) m11 fun x12 m12 =>
 bp (opLoad T 3 x12 m12) m12 fun x13 m13 =>
 bp (opBin T .rem 3 (e 2) x13) m13 fun x14 m14 =>
 bp (opBin T .add 3 x7 x14) m14 fun x15 m15 =>
 bnd (nilChk (e 0) m15) fun x17 m17 =>
 bp (opFieldAddr T 107 x17 0) m17 fun x18 m18 =>
 bp (opFieldAddr T 24 x18 0) m18 fun x19 m19 =>
 bp (opLoad T 3 x19 m19) m19 fun x20 m20 =>
 bp (opBin T .rem 3 x15 x20) m20 fun x21 m21 =>
 bp (opBin T .mul 3 x21 (e 8)) m21 fun x23 m23 =>
 bp (opBin T .add 3 (e 7) x23) m23 fun x24 m24 =>
 some (ups e [(30, e 7), (31, e 1), (32, e 0), (33, x3), (34, x4), (35, x5), (36, x6), (37, x7), (38, e 2), (39, e 0), (40, x10), (41, x11), (42, x12), (43, x13), (44, x14), (45, x15), (46, e 0), (47, x17), (48, x18), (49, x19), (50, x20), (51, x21), (52, e 8), (53, x23), (54, x24), (7, x24)], m24)
def r180_7 : RR := fun D e m =>
 bnd (nilChk (e 0) m) fun x2 m2 =>
 bp (opFieldAddr T 107 x2 0) m2 fun x3 m3 =>
 bp (opFieldAddr T 24 x3 0) m3 fun x4 m4 =>
 bp (opLoad T 3 x4 m4) m4 fun x5 m5 =>
 bp (opBin T .mul 3 (e 8) x5) m5 fun x6 m6 =>
 some (ups e [(55, e 8), (56, e 0), (57, x2), (58, x3), (59, x4), (60, x5), (61, x6), (8, x6)], m6)
def r180_8 : RR := fun D e m =>
 bnd (nilChk (e 0) m) fun x2 m2 =>
 bp (opFieldAddr T 107 x2 0) m2 fun x3 m3 =>
 bp (opFieldAddr T 24 x3 0) m3 fun x4 m4 =>
 bp (opLoad T 3 x4 m4) m4 fun x5 m5 =>
 bp (opBin T .quo 3 (e 1) x5) m5 fun x6 m6 =>
 some (ups e [(62, e 1), (63, e 0), (64, x2), (65, x3), (66, x4), (67, x5), (68, x6), (1, x6)], m6)
def r180_9 : RR := fun D e m =>
 bnd (nilChk (e 0) m) fun x2 m2 =>
 bp (opFieldAddr T 107 x2 0) m2 fun x3 m3 =>
 bp (opFieldAddr T 24 x3 0) m3 fun x4 m4 =>
 bp (opLoad T 3 x4 m4) m4 fun x5 m5 =>
 bp (opBin T .quo 3 (e 2) x5) m5 fun x6 m6 =>
 some (ups e [(69, e 2), (70, e 0), (71, x2), (72, x3), (73, x4), (74, x5), (75, x6), (2, x6)], m6)
noncomputable def l180_10 : RC := fun D => (sq (sq (rg (r180_5 D)) (cnd (fun e => some (e 29)) sk (exi 0))) (blk 1 (sq (rg (r180_6 D)) (sq (rg (r180_7 D)) (sq (rg (r180_8 D)) (rg (r180_9 D)))))))
def r180_11 : RR := fun D e m =>
 some (ups e [(76, e 7), (6, e 7)], m)
noncomputable def c180 : RC := fun D => (sq (rg (r180_0 D)) (sq (rg (r180_1 D)) (sq (sq (rg (r180_2 D)) (cnd (fun e => some (e 20)) (sq (rg (r180_3 D)) rt) sk)) (sq (rg (r180_4 D)) (sq (blk 0 (loopD (l180_10 D))) (sq (rg (r180_11 D)) rt))))))
theorem e180 (a0 a1 a2 : V) (m : Mem) : DD 180 [a0, a1, a2] m = fin (c180 DD) (fun e m => some [e 6]) [a0, a1, a2] m :=
 eOf (f := Tryz.f180) (by kernel_rfl) (by kernel_rfl)
def r181_0 : RR := fun D e m =>
 some (ups e [(4, .int .i64 0)], m)
def r181_1 : RR := fun D e m =>
 bnd (D 48 [e 0, e 1] m) fun x2 m2 =>
 some (ups e [(5, e 0), (6, e 1), (7, x2)], m2)
def r181_2 : RR := fun D e m =>
 some (ups e [(8, e 1), (4, e 1)], m)
def r181_3 : RR := fun D e m =>
 some (ups e [(4, .int .i64 0)], m)
noncomputable def c181 : RC := fun D => (sq (rg (r181_0 D)) (sq (sq (rg (r181_1 D)) (cnd (fun e => some (e 7)) (sq (rg (r181_2 D)) rt) sk)) (sq (rg (r181_3 D)) rt)))
theorem e181 (a0 a1 : V) (m : Mem) : DD 181 [a0, a1] m = fin (c181 DD) (fun e m => some [e 4]) [a0, a1] m :=
 eOf (f := Tryz.f181) (by kernel_rfl) (by kernel_rfl)
def r182_0 : RR := fun D e m =>
 some (ups e [(4, .bool false)], m)
def r182_1 : RR := fun D e m =>
 bnd (nilChk (e 0) m) fun x1 m1 =>
 bp (opFieldAddr T 195 x1 1) m1 fun x2 m2 =>
 bp (opLoad T 25 x2 m2) m2 fun x3 m3 =>
 bp (opLen T 25 x3) m3 fun x4 m4 =>
 some (ups e [(13, e 0), (14, x1), (15, x2), (16, x3), (17, x4), (18, .int .i64 0)], m4)
def r182_2 : RR := fun D e m =>
 bp (opBin T .lss 3 (e 18) (e 17)) m fun x0 m0 =>
 some (ups e [(19, x0)], m0)
def r182_3 : RR := fun D e m =>
 bp (opIndexAddr T 25 (e 16) (e 18)) m fun x1 m1 =>
 bp (opLoad T 22 x1 m1) m1 fun x2 m2 =>
 some (ups e [(20, e 18), (21, x1), (22, x2), (5, e 18), (6, x2)], m2)
def r182_4 : RR := fun D e m =>
 bnd (nilChk (e 0) m) fun x2 m2 =>
 bp (opFieldAddr T 195 x2 2) m2 fun x3 m3 =>
 bp (opLoad T 22 x3 m3) m3 fun x4 m4 =>
 bp (opIndexAddr T 22 x4 (e 5)) m4 fun x6 m6 =>
 bp (opLoad T 3 x6 m6) m6 fun x7 m7 =>
 bp (opIndexAddr T 22 (e 1) x7) m7 fun x8 m8 =>
 bp (opLoad T 3 x8 m8) m8 fun x9 m9 =>
 some (ups e [(23, e 1), (24, e 0), (25, x2), (26, x3), (27, x4), (28, e 5), (29, x6), (30, x7), (31, x8), (32, x9), (7, x9)], m9)
def r182_5 : RR := fun D e m =>
 bp (opBin T .neq 3 (e 7) (.int .i64 0)) m fun x1 m1 =>
 some (ups e [(33, e 7), (34, x1)], m1)
def r182_6 : RR := fun D e m =>
 bp (opLen T 22 (e 6)) m fun x1 m1 =>
 some (ups e [(35, e 6), (36, x1), (37, .int .i64 0)], m1)
def r182_7 : RR := fun D e m =>
 bp (opBin T .lss 3 (e 37) (e 36)) m fun x0 m0 =>
 some (ups e [(38, x0)], m0)
def r182_8 : RR := fun D e m =>
 bp (opIndexAddr T 22 (e 35) (e 37)) m fun x1 m1 =>
 bp (opLoad T 3 x1 m1) m1 fun x2 m2 =>
 some (ups e [(39, e 37), (40, x1), (41, x2), (8, e 37), (9, x2)], m2)
noncomputable def r182_9 : RR := fun D e m =>
 bnd (nilChk (e 0) m) fun x3 m3 =>
 bp (opFieldAddr T 195 x3 0) m3 fun x4 m4 =>
 bp (opLoad T 76 x4 m4) m4 fun x5 m5 =>
 bp (opIndexAddr T 22 (e 1) (e 8)) m5 fun x8 m8 =>
 bp (opLoad T 3 x8 m8) m8 fun x9 m9 =>
 bnd (nilChk (e 0) m9) fun x11 m11 =>
 bp (opFieldAddr T 195 x11 0) m11 fun x12 m12 =>
 bp (opLoad T 76 x12 m12) m12 fun x13 m13 =>
 bnd (D 166 [x13, e 7, e 9] m13) fun x16 m16 => chkd m13 m16 (
 bnd (D 188 [x5, x9, x16] m16) fun x17 m17 =>
 bp (opIndexAddr T 22 (e 1) (e 8)) m17 fun x18 m18 =>
 bnd ((opStore T 3 x18 x17 m18).map (V.undef, ·)) fun x19 m19 =>
 some (ups e [(42, e 1), (43, e 8), (44, e 0), (45, x3), (46, x4), (47, x5), (48, e 1), (49, e 8), (50, x8), (51, x9), (52, e 0), (53, x11), (54, x12), (55, x13), (56, e 7), (57, e 9), (58, x16), (59, x17), (60, x18)], m19))
def r182_10 : RR := fun D e m =>
 bp (opBin T .add 3 (e 37) (.int .i64 1)) m fun x0 m0 =>
 some (ups e [(61, x0), (37, x0)], m0)
noncomputable def l182_11 : RC := fun D => (sq (rg (r182_7 D)) (sq (cnd (fun e => some (e 38)) sk (exi 2)) (sq (blk 3 (sq (rg (r182_8 D)) (rg (r182_9 D)))) (rg (r182_10 D)))))
def r182_12 : RR := fun D e m =>
 bp (opBin T .add 3 (e 18) (.int .i64 1)) m fun x0 m0 =>
 some (ups e [(62, x0), (18, x0)], m0)
noncomputable def l182_13 : RC := fun D => (sq (rg (r182_2 D)) (sq (cnd (fun e => some (e 19)) sk (exi 0)) (sq (blk 1 (sq (rg (r182_3 D)) (sq (rg (r182_4 D)) (sq (rg (r182_5 D)) (cnd (fun e => some (e 34)) (sq (rg (r182_6 D)) (blk 2 (loopD (l182_11 D)))) sk))))) (rg (r182_12 D)))))
def r182_14 : RR := fun D e m =>
 bnd (D 80 [e 1, (.fn 189 [] [])] m) fun x1 m1 =>
 some (ups e [(63, e 1), (64, x1), (10, x1)], m1)
def r182_15 : RR := fun D e m =>
 bp (opBin T .lss 3 (e 10) (.int .i64 0)) m fun x1 m1 =>
 some (ups e [(65, e 10), (66, x1)], m1)
def r182_16 : RR := fun D e m =>
 some (ups e [(4, .bool false)], m)
def r182_17 : RR := fun D e m =>
 bnd (nilChk (e 0) m) fun x1 m1 =>
 bp (opFieldAddr T 195 x1 0) m1 fun x2 m2 =>
 bp (opLoad T 76 x2 m2) m2 fun x3 m3 =>
 bp (opIndexAddr T 22 (e 1) (e 10)) m3 fun x6 m6 =>
 bp (opLoad T 3 x6 m6) m6 fun x7 m7 =>
 bnd (D 167 [x3, x7] m7) fun x8 m8 =>
 bnd (extV x8 0 m8) fun x10 m10 =>
 bnd (extV x8 1 m10) fun x11 m11 =>
 some (ups e [(68, e 0), (69, x1), (70, x2), (71, x3), (72, e 1), (73, e 10), (74, x6), (75, x7), (76, x8), (67, x8), (77, x10), (78, x11), (11, x10), (12, x11)], m11)
noncomputable def r182_18 : RR := fun D e m =>
 bnd (nilChk (e 0) m) fun x2 m2 =>
 bp (opFieldAddr T 195 x2 1) m2 fun x3 m3 =>
 bp (opLoad T 25 x3 m3) m3 fun x4 m4 =>
 bnd (nilChk (e 0) m4) fun x6 m6 =>
 bp (opFieldAddr T 195 x6 0) m6 fun x7 m7 =>
 bp (opLoad T 76 x7 m7) m7 fun x8 m8 =>
 bnd (D 169 [x8, e 11, e 1] m8) fun x11 m11 => chkd m8 m11 (
 bnd (opBuildSlice T 25 1 [(0, x11)] m11) fun x12 m12 =>
 bnd (opAppend T 25 25 x4 x12 m12) fun x13 m13 =>
 bnd (nilChk (e 0) m13) fun x14 m14 =>
 bp (opFieldAddr T 195 x14 1) m14 fun x15 m15 =>
 bnd ((opStore T 25 x15 x13 m15).map (V.undef, ·)) fun x16 m16 =>
 some (ups e [(79, e 0), (80, e 0), (81, x2), (82, x3), (83, x4), (84, e 0), (85, x6), (86, x7), (87, x8), (88, e 11), (89, e 1), (90, x11), (91, x12), (92, x13), (93, x14), (94, x15)], m16))
def r182_19 : RR := fun D e m =>
 bnd (nilChk (e 0) m) fun x2 m2 =>
 bp (opFieldAddr T 195 x2 2) m2 fun x3 m3 =>
 bp (opLoad T 22 x3 m3) m3 fun x4 m4 =>
 bnd (opBuildSlice T 22 1 [(0, e 10)] m4) fun x6 m6 =>
 bnd (opAppend T 22 22 x4 x6 m6) fun x7 m7 =>
 bnd (nilChk (e 0) m7) fun x8 m8 =>
 bp (opFieldAddr T 195 x8 2) m8 fun x9 m9 =>
 bnd ((opStore T 22 x9 x7 m9).map (V.undef, ·)) fun x10 m10 =>
 some (ups e [(95, e 0), (96, e 0), (97, x2), (98, x3), (99, x4), (100, e 10), (101, x6), (102, x7), (103, x8), (104, x9)], m10)
def r182_20 : RR := fun D e m =>
 some (ups e [(4, .bool true)], m)
noncomputable def c182 : RC := fun D => (sq (rg (r182_0 D)) (sq (sq (rg (r182_1 D)) (blk 0 (loopD (l182_13 D)))) (sq (rg (r182_14 D)) (sq (sq (rg (r182_15 D)) (cnd (fun e => some (e 66)) (sq (rg (r182_16 D)) rt) sk)) (sq (rg (r182_17 D)) (sq (rg (r182_18 D)) (sq (rg (r182_19 D)) (sq (rg (r182_20 D)) rt))))))))
theorem e182 (a0 a1 : V) (m : Mem) : DD 182 [a0, a1] m = fin (c182 DD) (fun e m => some [e 4]) [a0, a1] m :=
 eOf (f := Tryz.f182) (by kernel_rfl) (by kernel_rfl)
def r183_0 : RR := fun D e m =>
 some (ups e [(4, .nils)], m)
def r183_1 : RR := fun D e m =>
 bnd (nilChk (e 0) m) fun x1 m1 =>
 bp (opFieldAddr T 157 x1 1) m1 fun x2 m2 =>
 bp (opFieldAddr T 27 x2 2) m2 fun x3 m3 =>
 bp (opLoad T 25 x3 m3) m3 fun x4 m4 =>
 bp (opLen T 25 x4) m4 fun x5 m5 =>
 bnd (opMakeSlice T 22 x5 x5 m5) fun x6 m6 =>
 some (ups e [(8, e 0), (9, x1), (10, x2), (11, x3), (12, x4), (13, x5), (14, x6), (5, x6)], m6)
def r183_2 : RR := fun D e m =>
 bnd (nilChk (e 0) m) fun x1 m1 =>
 bp (opFieldAddr T 157 x1 1) m1 fun x2 m2 =>
 bp (opFieldAddr T 27 x2 2) m2 fun x3 m3 =>
 bp (opLoad T 25 x3 m3) m3 fun x4 m4 =>
 bp (opLen T 25 x4) m4 fun x5 m5 =>
 some (ups e [(15, e 0), (16, x1), (17, x2), (18, x3), (19, x4), (20, x5), (21, .int .i64 0)], m5)
def r183_3 : RR := fun D e m =>
 bp (opBin T .lss 3 (e 21) (e 20)) m fun x0 m0 =>
 some (ups e [(22, x0)], m0)
def r183_4 : RR := fun D e m =>
 bp (opIndexAddr T 25 (e 19) (e 21)) m fun x1 m1 =>
 bp (opLoad T 22 x1 m1) m1 fun x2 m2 =>
 some (ups e [(23, e 21), (24, x1), (25, x2), (6, e 21), (7, x2)], m2)
def r183_5 : RR := fun D e m =>
 bp (opIndexAddr T 22 (e 7) (e 1)) m fun x4 m4 =>
 bp (opLoad T 3 x4 m4) m4 fun x5 m5 =>
 bp (opIndexAddr T 22 (e 5) (e 6)) m5 fun x6 m6 =>
 bnd ((opStore T 3 x6 x5 m6).map (V.undef, ·)) fun x7 m7 =>
 some (ups e [(26, e 5), (27, e 6), (28, e 7), (29, e 1), (30, x4), (31, x5), (32, x6)], m7)
def r183_6 : RR := fun D e m =>
 bp (opBin T .add 3 (e 21) (.int .i64 1)) m fun x0 m0 =>
 some (ups e [(33, x0), (21, x0)], m0)
noncomputable def l183_7 : RC := fun D => (sq (rg (r183_3 D)) (sq (cnd (fun e => some (e 22)) sk (exi 0)) (sq (blk 1 (sq (rg (r183_4 D)) (rg (r183_5 D)))) (rg (r183_6 D)))))
def r183_8 : RR := fun D e m =>
 some (ups e [(34, e 5), (4, e 5)], m)
noncomputable def c183 : RC := fun D => (sq (rg (r183_0 D)) (sq (rg (r183_1 D)) (sq (sq (rg (r183_2 D)) (blk 0 (loopD (l183_7 D)))) (sq (rg (r183_8 D)) rt))))
theorem e183 (a0 a1 : V) (m : Mem) : DD 183 [a0, a1] m = fin (c183 DD) (fun e m => some [e 4]) [a0, a1] m :=
 eOf (f := Tryz.f183) (by kernel_rfl) (by kernel_rfl)
def r187_0 : RR := fun D e m =>
 some (ups e [(4, .nils)], m)
def r187_1 : RR := fun D e m =>
 some (ups e [(5, .nils)], m)
def r187_2 : RR := fun D e m =>
 some (ups e [(6, .int .i64 0)], m)
def r187_3 : RR := fun D e m =>
 bp (opLen T 25 (e 0)) m fun x2 m2 =>
 bp (opBin T .lss 3 (e 6) x2) m2 fun x3 m3 =>
 some (ups e [(7, e 6), (8, e 0), (9, x2), (10, x3)], m3)
def r187_4 : RR := fun D e m =>
 bp (opIndexAddr T 25 (e 0) (e 6)) m fun x3 m3 =>
 bp (opLoad T 22 x3 m3) m3 fun x4 m4 =>
 bnd (D 85 [x4, e 1] m4) fun x6 m6 =>
 bnd (opBuildSlice T 25 1 [(0, x6)] m6) fun x7 m7 =>
 bnd (opAppend T 25 25 (e 5) x7 m7) fun x8 m8 =>
 some (ups e [(13, e 5), (14, e 0), (15, e 6), (16, x3), (17, x4), (18, e 1), (19, x6), (20, x7), (21, x8), (5, x8)], m8)
def r187_5 : RR := fun D e m =>
 bp (opBin T .add 3 (e 6) (.int .i64 1)) m fun x1 m1 =>
 some (ups e [(11, e 6), (12, x1), (6, x1)], m1)
noncomputable def l187_6 : RC := fun D => (sq (sq (rg (r187_3 D)) (cnd (fun e => some (e 10)) sk (exi 0))) (sq (blk 1 (rg (r187_4 D))) (rg (r187_5 D))))
def r187_7 : RR := fun D e m =>
 some (ups e [(22, e 5), (4, e 5)], m)
noncomputable def c187 : RC := fun D => (sq (rg (r187_0 D)) (sq (rg (r187_1 D)) (sq (sq (rg (r187_2 D)) (blk 0 (loopD (l187_6 D)))) (sq (rg (r187_7 D)) rt))))
theorem e187 (a0 a1 : V) (m : Mem) : DD 187 [a0, a1] m = fin (c187 DD) (fun e m => some [e 4]) [a0, a1] m :=
 eOf (f := Tryz.f187) (by kernel_rfl) (by kernel_rfl)
def r188_0 : RR := fun D e m =>
 some (ups e [(6, .int .i64 0)], m)
def r188_1 : RR := fun D e m =>
 bnd (D 165 [e 0, e 2] m) fun x4 m4 =>
 bnd (D 180 [e 0, e 1, x4] m4) fun x5 m5 =>
 some (ups e [(7, e 0), (8, e 1), (9, e 0), (10, e 2), (11, x4), (12, x5), (6, x5)], m5)
noncomputable def c188 : RC := fun D => (sq (rg (r188_0 D)) (sq (rg (r188_1 D)) rt))
theorem e188 (a0 a1 a2 : V) (m : Mem) : DD 188 [a0, a1, a2] m = fin (c188 DD) (fun e m => some [e 6]) [a0, a1, a2] m :=
 eOf (f := Tryz.f188) (by kernel_rfl) (by kernel_rfl)
def r189_0 : RR := fun D e m =>
 some (ups e [(2, .bool false)], m)
def r189_1 : RR := fun D e m =>
 bp (opBin T .neq 3 (e 0) (.int .i64 0)) m fun x1 m1 =>
 some (ups e [(3, e 0), (4, x1), (2, x1)], m1)
noncomputable def c189 : RC := fun D => (sq (rg (r189_0 D)) (sq (rg (r189_1 D)) rt))
theorem e189 (a0 : V) (m : Mem) : DD 189 [a0] m = fin (c189 DD) (fun e m => some [e 2]) [a0] m :=
 eOf (f := Tryz.f189) (by kernel_rfl) (by kernel_rfl)
def r41_0 : RR := fun D e m =>
 bnd (opBox (e 0) m) fun x0 m0 =>
 some (ups e [(2, x0), (4, .int .i64 0)], m0)
def r41_1 : RR := fun D e m =>
 some (ups e [(5, .int .i64 0)], m)
def r41_2 : RR := fun D e m =>
 bp (opLen T 22 (e 1)) m fun x2 m2 =>
 bp (opBin T .lss 3 (e 5) x2) m2 fun x3 m3 =>
 some (ups e [(6, e 5), (7, e 1), (8, x2), (9, x3)], m3)
def r41_3 : RR := fun D e m =>
 bp (opLoad T 24 (e 2) m) m fun x0 m0 =>
 bp (opIndexAddr T 22 (e 1) (e 5)) m0 fun x3 m3 =>
 bp (opLoad T 3 x3 m3) m3 fun x4 m4 =>
 bnd (D 74 [x0, x4] m4) fun x5 m5 =>
 bp (opUn .not x5) m5 fun x6 m6 =>
 some (ups e [(12, x0), (13, e 1), (14, e 5), (15, x3), (16, x4), (17, x5), (18, x6)], m6)
def r41_4 : RR := fun D e m =>
 some (ups e [(4, .int .i64 2)], m)
def r41_5 : RR := fun D e m =>
 bp (opBin T .add 3 (e 5) (.int .i64 1)) m fun x1 m1 =>
 some (ups e [(10, e 5), (11, x1), (5, x1)], m1)
noncomputable def l41_6 : RC := fun D => (sq (sq (rg (r41_2 D)) (cnd (fun e => some (e 9)) sk (exi 0))) (sq (blk 1 (sq (rg (r41_3 D)) (cnd (fun e => some (e 18)) (sq (rg (r41_4 D)) rt) sk))) (rg (r41_5 D))))
def r41_7 : RR := fun D e m =>
 some (ups e [(4, .int .i64 0)], m)
noncomputable def c41 : RC := fun D => (sq (rg (r41_0 D)) (sq (sq (rg (r41_1 D)) (blk 0 (loopD (l41_6 D)))) (sq (rg (r41_7 D)) rt)))
theorem e41 (a0 a1 : V) (m : Mem) : DD 41 [a0, a1] m = fin (c41 DD) (fun e m => some [e 4]) [a0, a1] m :=
 eOf (f := Tryz.f41) (by kernel_rfl) (by kernel_rfl)
def r6_0 : RR := fun D e m =>
 bnd (opBox (e 0) m) fun x0 m0 =>
 some (ups e [(2, x0), (4, .bool false)], m0)
def r6_1 : RR := fun D e m =>
 bp (opLoad T 31 (e 2) m) m fun x0 m0 =>
 bnd (D 12 [x0] m0) fun x1 m1 =>
 bp (opUn .not x1) m1 fun x2 m2 =>
 bg x2 false (some ((e 1), m2)) m2 fun x4 m4 =>
 bg x2 false (lft (opLen T 22 x4) m4) m4 fun x5 m5 =>
 bg x2 false (lft (opBin T .gtr 3 x5 (.int .i64 3000)) m5) m5 fun x6 m6 =>
 bnd (pickV x2 (.bool true) x6 m6) fun x7 m7 =>
 some (ups e [(9, x0), (10, x1), (11, x2), (12, x2), (13, x4), (14, x5), (15, x6), (16, x7)], m7)
def r6_2 : RR := fun D e m =>
 bnd (D 9 [] m) fun x0 m0 =>
 some (ups e [(17, x0), (4, x0)], m0)
def r6_3 : RR := fun D e m =>
 bp (opLoad T 31 (e 2) m) m fun x0 m0 =>
 bnd (D 17 [x0, e 1] m0) fun x2 m2 =>
 bnd (extV x2 0 m2) fun x4 m4 =>
 bnd (extV x2 1 m4) fun x5 m5 =>
 some (ups e [(19, x0), (20, e 1), (21, x2), (18, x2), (22, x4), (23, x5), (5, x4), (6, x5)], m5)
def r6_4 : RR := fun D e m =>
 bp (opLoad T 31 (e 2) m) m fun x0 m0 =>
 bnd (D 18 [x0, e 1] m0) fun x2 m2 =>
 bnd (extV x2 0 m2) fun x4 m4 =>
 bnd (extV x2 1 m4) fun x5 m5 =>
 some (ups e [(25, x0), (26, e 1), (27, x2), (24, x2), (28, x4), (29, x5), (7, x4), (8, x5)], m5)
def r6_5 : RR := fun D e m =>
 bp (opBin T .eql 33 (e 6) (e 8)) m fun x2 m2 =>
 bg x2 true (some ((e 5), m2)) m2 fun x4 m4 =>
 bg x2 true (some ((e 7), m4)) m4 fun x5 m5 =>
 bg x2 true (D 19 [x4, x5] m5) m5 fun x6 m6 =>
 bnd (pickV x2 x6 (.bool false) m6) fun x7 m7 =>
 bg x7 true (D 9 [] m7) m7 fun x9 m9 =>
 bnd (pickV x7 x9 (.bool false) m9) fun x10 m10 =>
 some (ups e [(30, e 6), (31, e 8), (32, x2), (33, x2), (34, x4), (35, x5), (36, x6), (37, x7), (38, x7), (39, x9), (40, x10), (4, x10)], m10)
noncomputable def c6 : RC := fun D => (sq (rg (r6_0 D)) (sq (sq (rg (r6_1 D)) (cnd (fun e => some (e 16)) (sq (rg (r6_2 D)) rt) sk)) (sq (rg (r6_3 D)) (sq (rg (r6_4 D)) (sq (rg (r6_5 D)) rt)))))
theorem e6 (a0 a1 : V) (m : Mem) : DD 6 [a0, a1] m = fin (c6 DD) (fun e m => some [e 4]) [a0, a1] m :=
 eOf (f := Tryz.f6) (by kernel_rfl) (by kernel_rfl)
def r17_0 : RR := fun D e m =>
 bnd (opBox (e 0) m) fun x0 m0 =>
 some (ups e [(2, x0), (4, .nils), (5, .int .i64 0)], m0)
def r17_1 : RR := fun D e m =>
 bp (opLoad T 31 (e 2) m) m fun x0 m0 =>
 bnd (D 10 [x0] m0) fun x1 m1 =>
 some (ups e [(7, x0), (8, x1), (6, x1)], m1)
def r17_2 : RR := fun D e m =>
 bp (opBin T .neq 33 (e 6) (.int .i64 0)) m fun x1 m1 =>
 some (ups e [(9, e 6), (10, x1)], m1)
def r17_3 : RR := fun D e m =>
 some (ups e [(11, e 6), (4, .nils), (5, e 6)], m)
def r17_4 : RR := fun D e m =>
 bp (opLoad T 31 (e 2) m) m fun x0 m0 =>
 bnd (D 40 [x0, e 1] m0) fun x2 m2 =>
 bnd (extV x2 0 m2) fun x3 m3 =>
 bnd (extV x2 1 m3) fun x4 m4 =>
 some (ups e [(12, x0), (13, e 1), (14, x2), (15, x3), (16, x4), (4, x3), (5, x4)], m4)
noncomputable def c17 : RC := fun D => (sq (rg (r17_0 D)) (sq (sq (rg (r17_1 D)) (sq (rg (r17_2 D)) (cnd (fun e => some (e 10)) (sq (rg (r17_3 D)) rt) sk))) (sq (rg (r17_4 D)) rt)))
theorem e17 (a0 a1 : V) (m : Mem) : DD 17 [a0, a1] m = fin (c17 DD) (fun e m => some [e 4, e 5]) [a0, a1] m :=
 eOf (f := Tryz.f17) (by kernel_rfl) (by kernel_rfl)
def r18_0 : RR := fun D e m =>
 bnd (opBox (e 0) m) fun x0 m0 =>
 some (ups e [(2, x0), (4, .nils), (5, .int .i64 0)], m0)
def r18_1 : RR := fun D e m =>
 bp (opLoad T 31 (e 2) m) m fun x0 m0 =>
 bnd (D 11 [x0] m0) fun x1 m1 =>
 some (ups e [(17, x0), (18, x1), (6, x1)], m1)
def r18_2 : RR := fun D e m =>
 bp (opBin T .neq 33 (e 6) (.int .i64 0)) m fun x1 m1 =>
 some (ups e [(19, e 6), (20, x1)], m1)
def r18_3 : RR := fun D e m =>
 some (ups e [(21, e 6), (4, .nils), (5, e 6)], m)
def r18_4 : RR := fun D e m =>
 bp (opFieldAddr T 31 (e 2) 0) m fun x0 m0 =>
 bp (opFieldAddr T 27 x0 2) m0 fun x1 m1 =>
 bp (opLoad T 25 x1 m1) m1 fun x2 m2 =>
 bp (opLen T 25 x2) m2 fun x3 m3 =>
 some (ups e [(22, x0), (23, x1), (24, x2), (25, x3), (7, x3)], m3)
def r18_5 : RR := fun D e m =>
 bp (opFieldAddr T 31 (e 2) 4) m fun x1 m1 =>
 bp (opLoad T 3 x1 m1) m1 fun x2 m2 =>
 bp (opBin T .mul 3 (e 7) x2) m2 fun x3 m3 =>
 some (ups e [(26, e 7), (27, x1), (28, x2), (29, x3), (8, x3)], m3)
def r18_6 : RR := fun D e m =>
 bp (opLen T 22 (e 1)) m fun x1 m1 =>
 bp (opBin T .mul 3 (.int .i64 64) (e 8)) m1 fun x3 m3 =>
 bp (opBin T .gtr 3 x1 x3) m3 fun x4 m4 =>
 some (ups e [(30, e 1), (31, x1), (32, e 8), (33, x3), (34, x4)], m4)
def r18_7 : RR := fun D e m =>
 some (ups e [(4, .nils), (5, .int .i64 8)], m)
def r18_8 : RR := fun D e m =>
 bp (opFieldAddr T 31 (e 2) 0) m fun x0 m0 =>
 bp (opFieldAddr T 27 x0 0) m0 fun x1 m1 =>
 bp (opLoad T 24 x1 m1) m1 fun x2 m2 =>
 bnd (D 41 [x2, e 1] m2) fun x4 m4 =>
 some (ups e [(35, x0), (36, x1), (37, x2), (38, e 1), (39, x4), (6, x4)], m4)
def r18_9 : RR := fun D e m =>
 bp (opBin T .neq 33 (e 6) (.int .i64 0)) m fun x1 m1 =>
 some (ups e [(40, e 6), (41, x1)], m1)
def r18_10 : RR := fun D e m =>
 some (ups e [(42, e 6), (4, .nils), (5, e 6)], m)
def r18_11 : RR := fun D e m =>
 bnd (opBuildSlice T 40 0 [] m) fun x0 m0 =>
 some (ups e [(43, x0), (9, x0)], m0)
def r18_12 : RR := fun D e m =>
 some (ups e [(10, .int .i64 0)], m)
def r18_13 : RR := fun D e m =>
 bp (opLen T 22 (e 1)) m fun x2 m2 =>
 bp (opBin T .lss 3 (e 10) x2) m2 fun x3 m3 =>
 some (ups e [(44, e 10), (45, e 1), (46, x2), (47, x3)], m3)
def r18_14 : RR := fun D e m =>
 bnd (opBuildSlice T 22 0 [] m) fun x0 m0 =>
 bp (opBin T .add 3 (e 10) (e 8)) m0 fun x5 m5 =>
 bp (opLen T 22 (e 1)) m5 fun x7 m7 =>
 bp (opMin [x5, x7]) m7 fun x8 m8 =>
 bp (opSlice T 22 (e 1) (some (e 10)) (some x8) none) m8 fun x9 m9 =>
 bnd (opAppend T 22 22 x0 x9 m9) fun x10 m10 =>
 some (ups e [(51, x0), (52, e 1), (53, e 10), (54, e 10), (55, e 8), (56, x5), (57, e 1), (58, x7), (59, x8), (60, x9), (61, x10), (11, x10)], m10)
def r18_15 : RR := fun D e m =>
 bp (opLen T 22 (e 11)) m fun x1 m1 =>
 bp (opBin T .lss 3 x1 (e 8)) m1 fun x3 m3 =>
 some (ups e [(62, e 11), (63, x1), (64, e 8), (65, x3)], m3)
def r18_16 : RR := fun D e m =>
 bnd (opBuildSlice T 22 1 [(0, .int .i64 0)] m) fun x1 m1 =>
 bnd (opAppend T 22 22 (e 11) x1 m1) fun x2 m2 =>
 some (ups e [(66, e 11), (67, x1), (68, x2), (11, x2)], m2)
noncomputable def l18_17 : RC := fun D => (sq (sq (rg (r18_15 D)) (cnd (fun e => some (e 65)) sk (exi 2))) (blk 3 (rg (r18_16 D))))
def r18_18 : RR := fun D e m =>
 bp (opFieldAddr T 31 (e 2) 0) m fun x0 m0 =>
 bp (opFieldAddr T 27 x0 1) m0 fun x1 m1 =>
 bp (opLoad T 3 x1 m1) m1 fun x2 m2 =>
 bnd (opMakeSlice T 25 x2 x2 m2) fun x3 m3 =>
 some (ups e [(69, x0), (70, x1), (71, x2), (72, x3), (12, x3)], m3)
def r18_19 : RR := fun D e m =>
 some (ups e [(13, .int .i64 0)], m)
def r18_20 : RR := fun D e m =>
 bp (opFieldAddr T 31 (e 2) 0) m fun x1 m1 =>
 bp (opFieldAddr T 27 x1 1) m1 fun x2 m2 =>
 bp (opLoad T 3 x2 m2) m2 fun x3 m3 =>
 bp (opBin T .lss 3 (e 13) x3) m3 fun x4 m4 =>
 some (ups e [(73, e 13), (74, x1), (75, x2), (76, x3), (77, x4)], m4)
def r18_21 : RR := fun D e m =>
 bp (opFieldAddr T 31 (e 2) 4) m fun x2 m2 =>
 bp (opLoad T 3 x2 m2) m2 fun x3 m3 =>
 bnd (opMakeSlice T 22 x3 x3 m3) fun x4 m4 =>
 bp (opIndexAddr T 25 (e 12) (e 13)) m4 fun x5 m5 =>
 bnd ((opStore T 22 x5 x4 m5).map (V.undef, ·)) fun x6 m6 =>
 some (ups e [(80, e 12), (81, e 13), (82, x2), (83, x3), (84, x4), (85, x5)], m6)
def r18_22 : RR := fun D e m =>
 bp (opBin T .add 3 (e 13) (.int .i64 1)) m fun x1 m1 =>
 some (ups e [(78, e 13), (79, x1), (13, x1)], m1)
noncomputable def l18_23 : RC := fun D => (sq (sq (rg (r18_20 D)) (cnd (fun e => some (e 77)) sk (exi 4))) (sq (blk 5 (rg (r18_21 D))) (rg (r18_22 D))))
def r18_24 : RR := fun D e m =>
 some (ups e [(14, .int .i64 0)], m)
def r18_25 : RR := fun D e m =>
 bp (opFieldAddr T 31 (e 2) 4) m fun x1 m1 =>
 bp (opLoad T 3 x1 m1) m1 fun x2 m2 =>
 bp (opBin T .lss 3 (e 14) x2) m2 fun x3 m3 =>
 some (ups e [(86, e 14), (87, x1), (88, x2), (89, x3)], m3)
def r18_26 : RR := fun D e m =>
 bp (opFieldAddr T 31 (e 2) 0) m fun x0 m0 =>
 bp (opFieldAddr T 27 x0 0) m0 fun x1 m1 =>
 bp (opLoad T 24 x1 m1) m1 fun x2 m2 =>
 bp (opBin T .mul 3 (e 14) (e 7)) m2 fun x6 m6 =>
 bp (opBin T .add 3 (e 14) (.int .i64 1)) m6 fun x8 m8 =>
 bp (opBin T .mul 3 x8 (e 7)) m8 fun x10 m10 =>
 bp (opSlice T 22 (e 11) (some x6) (some x10) none) m10 fun x11 m11 =>
 bp (opFieldAddr T 31 (e 2) 0) m11 fun x12 m12 =>
 bp (opFieldAddr T 27 x12 2) m12 fun x13 m13 =>
 bp (opLoad T 25 x13 m13) m13 fun x14 m14 =>
 bp (opFieldAddr T 31 (e 2) 0) m14 fun x15 m15 =>
 bp (opFieldAddr T 27 x15 1) m15 fun x16 m16 =>
 bp (opLoad T 3 x16 m16) m16 fun x17 m17 =>
 bnd (D 42 [x2, x11, x14, x17] m17) fun x18 m18 =>
 some (ups e [(92, x0), (93, x1), (94, x2), (95, e 11), (96, e 14), (97, e 7), (98, x6), (99, e 14), (100, x8), (101, e 7), (102, x10), (103, x11), (104, x12), (105, x13), (106, x14), (107, x15), (108, x16), (109, x17), (110, x18), (15, x18)], m18)
def r18_27 : RR := fun D e m =>
 some (ups e [(16, .int .i64 0)], m)
def r18_28 : RR := fun D e m =>
 bp (opFieldAddr T 31 (e 2) 0) m fun x1 m1 =>
 bp (opFieldAddr T 27 x1 1) m1 fun x2 m2 =>
 bp (opLoad T 3 x2 m2) m2 fun x3 m3 =>
 bp (opBin T .lss 3 (e 16) x3) m3 fun x4 m4 =>
 some (ups e [(111, e 16), (112, x1), (113, x2), (114, x3), (115, x4)], m4)
def r18_29 : RR := fun D e m =>
 bp (opIndexAddr T 25 (e 12) (e 16)) m fun x2 m2 =>
 bp (opLoad T 22 x2 m2) m2 fun x3 m3 =>
 bp (opIndexAddr T 22 (e 15) (e 16)) m3 fun x7 m7 =>
 bp (opLoad T 3 x7 m7) m7 fun x8 m8 =>
 bp (opIndexAddr T 22 x3 (e 14)) m8 fun x9 m9 =>
 bnd ((opStore T 3 x9 x8 m9).map (V.undef, ·)) fun x10 m10 =>
 some (ups e [(118, e 12), (119, e 16), (120, x2), (121, x3), (122, e 14), (123, e 15), (124, e 16), (125, x7), (126, x8), (127, x9)], m10)
def r18_30 : RR := fun D e m =>
 bp (opBin T .add 3 (e 16) (.int .i64 1)) m fun x1 m1 =>
 some (ups e [(116, e 16), (117, x1), (16, x1)], m1)
noncomputable def l18_31 : RC := fun D => (sq (sq (rg (r18_28 D)) (cnd (fun e => some (e 115)) sk (exi 8))) (sq (blk 9 (rg (r18_29 D))) (rg (r18_30 D))))
def r18_32 : RR := fun D e m =>
 bp (opBin T .add 3 (e 14) (.int .i64 1)) m fun x1 m1 =>
 some (ups e [(90, e 14), (91, x1), (14, x1)], m1)
noncomputable def l18_33 : RC := fun D => (sq (sq (rg (r18_25 D)) (cnd (fun e => some (e 89)) sk (exi 6))) (sq (blk 7 (sq (rg (r18_26 D)) (sq (rg (r18_27 D)) (blk 8 (loopD (l18_31 D)))))) (rg (r18_32 D))))
def r18_34 : RR := fun D e m =>
 bnd (opBuildSlice T 40 1 [(0, e 12)] m) fun x2 m2 =>
 bnd (opAppend T 40 40 (e 9) x2 m2) fun x3 m3 =>
 some (ups e [(128, e 9), (129, e 12), (130, x2), (131, x3), (9, x3)], m3)
def r18_35 : RR := fun D e m =>
 bp (opBin T .add 3 (e 10) (e 8)) m fun x2 m2 =>
 some (ups e [(48, e 10), (49, e 8), (50, x2), (10, x2)], m2)
noncomputable def l18_36 : RC := fun D => (sq (sq (rg (r18_13 D)) (cnd (fun e => some (e 47)) sk (exi 0))) (sq (blk 1 (sq (rg (r18_14 D)) (sq (blk 2 (loopD (l18_17 D))) (sq (rg (r18_18 D)) (sq (sq (rg (r18_19 D)) (blk 4 (loopD (l18_23 D)))) (sq (sq (rg (r18_24 D)) (blk 6 (loopD (l18_33 D)))) (rg (r18_34 D)))))))) (rg (r18_35 D))))
def r18_37 : RR := fun D e m =>
 some (ups e [(132, e 9), (4, e 9), (5, .int .i64 0)], m)
noncomputable def c18 : RC := fun D => (sq (rg (r18_0 D)) (sq (rg (r18_1 D)) (sq (sq (rg (r18_2 D)) (cnd (fun e => some (e 20)) (sq (rg (r18_3 D)) rt) sk)) (sq (rg (r18_4 D)) (sq (rg (r18_5 D)) (sq (sq (rg (r18_6 D)) (cnd (fun e => some (e 34)) (sq (rg (r18_7 D)) rt) sk)) (sq (rg (r18_8 D)) (sq (sq (rg (r18_9 D)) (cnd (fun e => some (e 41)) (sq (rg (r18_10 D)) rt) sk)) (sq (rg (r18_11 D)) (sq (sq (rg (r18_12 D)) (blk 0 (loopD (l18_36 D)))) (sq (rg (r18_37 D)) rt)))))))))))
theorem e18 (a0 a1 : V) (m : Mem) : DD 18 [a0, a1] m = fin (c18 DD) (fun e m => some [e 4, e 5]) [a0, a1] m :=
 eOf (f := Tryz.f18) (by kernel_rfl) (by kernel_rfl)
def r40_0 : RR := fun D e m =>
 bnd (opBox (e 0) m) fun x0 m0 =>
 some (ups e [(2, x0), (4, .nils), (5, .int .i64 0)], m0)
def r40_1 : RR := fun D e m =>
 bp (opFieldAddr T 31 (e 2) 0) m fun x0 m0 =>
 bp (opFieldAddr T 27 x0 2) m0 fun x1 m1 =>
 bp (opLoad T 25 x1 m1) m1 fun x2 m2 =>
 bp (opLen T 25 x2) m2 fun x3 m3 =>
 bnd (opAlloc T 3 m3) fun x4 m4 =>
 bnd ((opStore T 3 x4 x3 m4).map (V.undef, ·)) fun x5 m5 =>
 some (ups e [(19, x0), (20, x1), (21, x2), (22, x3), (6, x4)], m5)
def r40_2 : RR := fun D e m =>
 bp (opLoad T 3 (e 6) m) m fun x0 m0 =>
 bp (opFieldAddr T 31 (e 2) 4) m0 fun x1 m1 =>
 bp (opLoad T 3 x1 m1) m1 fun x2 m2 =>
 bp (opBin T .mul 3 x0 x2) m2 fun x3 m3 =>
 bnd (opAlloc T 3 m3) fun x4 m4 =>
 bnd ((opStore T 3 x4 x3 m4).map (V.undef, ·)) fun x5 m5 =>
 some (ups e [(23, x0), (24, x1), (25, x2), (26, x3), (7, x4)], m5)
def r40_3 : RR := fun D e m =>
 bp (opLen T 22 (e 1)) m fun x1 m1 =>
 bp (opLoad T 3 (e 7) m1) m1 fun x2 m2 =>
 bp (opBin T .mul 3 x2 (.int .i64 64)) m2 fun x3 m3 =>
 bp (opBin T .gtr 3 x1 x3) m3 fun x4 m4 =>
 some (ups e [(27, e 1), (28, x1), (29, x2), (30, x3), (31, x4)], m4)
def r40_4 : RR := fun D e m =>
 some (ups e [(4, .nils), (5, .int .i64 8)], m)
def r40_5 : RR := fun D e m =>
 bp (opFieldAddr T 31 (e 2) 0) m fun x0 m0 =>
 bp (opFieldAddr T 27 x0 0) m0 fun x1 m1 =>
 bp (opLoad T 24 x1 m1) m1 fun x2 m2 =>
 bnd (D 45 [x2] m2) fun x3 m3 =>
 bnd (extV x3 0 m3) fun x5 m5 =>
 bnd (extV x3 1 m5) fun x6 m6 =>
 bnd (opAlloc T 76 m6) fun x7 m7 =>
 bnd ((opStore T 76 x7 x5 m7).map (V.undef, ·)) fun x8 m8 =>
 some (ups e [(33, x0), (34, x1), (35, x2), (36, x3), (32, x3), (37, x5), (38, x6), (8, x7), (9, x6)], m8)
def r40_6 : RR := fun D e m =>
 bnd (D 46 [e 1, (.fn 71 [] [e 8])] m) fun x2 m2 =>
 some (ups e [(39, e 1), (40, (.fn 71 [] [e 8])), (41, x2)], m2)
def r40_7 : RR := fun D e m =>
 some (ups e [(4, .nils), (5, .int .i64 2)], m)
def r40_8 : RR := fun D e m =>
 bnd (opAlloc T 40 m) fun x0 m0 =>
 some (ups e [(10, x0)], m0)
def r40_9 : RR := fun D e m =>
 bp (opLoad T 3 (e 7) m) m fun x1 m1 =>
 bnd (D 72 [e 1, x1] m1) fun x2 m2 =>
 some (ups e [(42, e 1), (43, x1), (44, x2)], m2)
def r40_10 : RR := fun D e m =>
 some (ups e [(11, e 45)], m)
def r40_11 : RR := fun D e m =>
 bp (opLoad T 3 (e 7) m) m fun x0 m0 =>
 bnd (opMakeSlice T 22 x0 x0 m0) fun x1 m1 =>
 some (ups e [(46, x0), (47, x1), (12, x1)], m1)
def r40_12 : RR := fun D e m =>
 bnd (opCopy T 22 (e 12) (e 11) m) fun x2 m2 =>
 some (ups e [(48, e 12), (49, e 11), (50, x2)], m2)
def r40_13 : RR := fun D e m =>
 bp (opFieldAddr T 31 (e 2) 0) m fun x0 m0 =>
 bp (opFieldAddr T 27 x0 1) m0 fun x1 m1 =>
 bp (opLoad T 3 x1 m1) m1 fun x2 m2 =>
 bnd (opMakeSlice T 25 x2 x2 m2) fun x3 m3 =>
 some (ups e [(51, x0), (52, x1), (53, x2), (54, x3), (13, x3)], m3)
def r40_14 : RR := fun D e m =>
 bp (opFieldAddr T 31 (e 2) 4) m fun x0 m0 =>
 bp (opLoad T 3 x0 m0) m0 fun x1 m1 =>
 some (ups e [(55, x0), (56, x1), (57, .int .i64 0)], m1)
def r40_15 : RR := fun D e m =>
 bp (opBin T .lss 3 (e 57) (e 56)) m fun x0 m0 =>
 some (ups e [(58, x0)], m0)
def r40_16 : RR := fun D e m =>
 some (ups e [(59, e 57), (14, e 57)], m)
def r40_17 : RR := fun D e m =>
 bp (opFieldAddr T 31 (e 2) 0) m fun x0 m0 =>
 bp (opLoad T 27 x0 m0) m0 fun x1 m1 =>
 bp (opLoad T 3 (e 6) m1) m1 fun x4 m4 =>
 bp (opBin T .mul 3 (e 14) x4) m4 fun x5 m5 =>
 bp (opBin T .add 3 (e 14) (.int .i64 1)) m5 fun x7 m7 =>
 bp (opLoad T 3 (e 6) m7) m7 fun x8 m8 =>
 bp (opBin T .mul 3 x7 x8) m8 fun x9 m9 =>
 bp (opSlice T 22 (e 12) (some x5) (some x9) none) m9 fun x10 m10 =>
 bnd (D 73 [x1, x10] m10) fun x11 m11 =>
 bnd (extV x11 0 m11) fun x13 m13 =>
 bnd (extV x11 1 m13) fun x14 m14 =>
 some (ups e [(61, x0), (62, x1), (63, e 12), (64, e 14), (65, x4), (66, x5), (67, e 14), (68, x7), (69, x8), (70, x9), (71, x10), (72, x11), (60, x11), (73, x13), (74, x14), (15, x13), (16, x14)], m14)
def r40_18 : RR := fun D e m =>
 bp (opLen T 22 (e 15)) m fun x1 m1 =>
 some (ups e [(75, e 15), (76, x1), (77, .int .i64 0)], m1)
def r40_19 : RR := fun D e m =>
 bp (opBin T .lss 3 (e 77) (e 76)) m fun x0 m0 =>
 some (ups e [(78, x0)], m0)
def r40_20 : RR := fun D e m =>
 bp (opIndexAddr T 22 (e 75) (e 77)) m fun x1 m1 =>
 bp (opLoad T 3 x1 m1) m1 fun x2 m2 =>
 some (ups e [(79, e 77), (80, x1), (81, x2), (17, e 77), (18, x2)], m2)
def r40_21 : RR := fun D e m =>
 bp (opIndexAddr T 25 (e 13) (e 17)) m fun x4 m4 =>
 bp (opLoad T 22 x4 m4) m4 fun x5 m5 =>
 bnd (opBuildSlice T 22 1 [(0, e 18)] m5) fun x7 m7 =>
 bnd (opAppend T 22 22 x5 x7 m7) fun x8 m8 =>
 bp (opIndexAddr T 25 (e 13) (e 17)) m8 fun x9 m9 =>
 bnd ((opStore T 22 x9 x8 m9).map (V.undef, ·)) fun x10 m10 =>
 some (ups e [(82, e 13), (83, e 17), (84, e 13), (85, e 17), (86, x4), (87, x5), (88, e 18), (89, x7), (90, x8), (91, x9)], m10)
def r40_22 : RR := fun D e m =>
 bp (opBin T .add 3 (e 77) (.int .i64 1)) m fun x0 m0 =>
 some (ups e [(92, x0), (77, x0)], m0)
noncomputable def l40_23 : RC := fun D => (sq (rg (r40_19 D)) (sq (cnd (fun e => some (e 78)) sk (exi 4)) (sq (blk 5 (sq (rg (r40_20 D)) (rg (r40_21 D)))) (rg (r40_22 D)))))
def r40_24 : RR := fun D e m =>
 bp (opBin T .add 3 (e 57) (.int .i64 1)) m fun x0 m0 =>
 some (ups e [(93, x0), (57, x0)], m0)
noncomputable def l40_25 : RC := fun D => (sq (rg (r40_15 D)) (sq (cnd (fun e => some (e 58)) sk (exi 2)) (sq (blk 3 (sq (rg (r40_16 D)) (sq (rg (r40_17 D)) (sq (rg (r40_18 D)) (blk 4 (loopD (l40_23 D))))))) (rg (r40_24 D)))))
def r40_26 : RR := fun D e m =>
 bp (opLoad T 40 (e 10) m) m fun x0 m0 =>
 bnd (opBuildSlice T 40 1 [(0, e 13)] m0) fun x2 m2 =>
 bnd (opAppend T 40 40 x0 x2 m2) fun x3 m3 =>
 bnd ((opStore T 40 (e 10) x3 m3).map (V.undef, ·)) fun x4 m4 =>
 some (ups e [(94, x0), (95, e 13), (96, x2), (97, x3)], m4)
noncomputable def l40_27 : RC := fun D => (sq (rg (r40_10 D)) (blk 1 (sq (rg (r40_11 D)) (sq (rg (r40_12 D)) (sq (rg (r40_13 D)) (sq (sq (rg (r40_14 D)) (blk 2 (loopD (l40_25 D)))) (rg (r40_26 D))))))))
def r40_28 : RR := fun D e m =>
 bp (opLoad T 40 (e 10) m) m fun x0 m0 =>
 some (ups e [(98, x0), (4, x0), (5, .int .i64 0)], m0)
noncomputable def c40 : RC := fun D => (sq (rg (r40_0 D)) (sq (rg (r40_1 D)) (sq (rg (r40_2 D)) (sq (sq (rg (r40_3 D)) (cnd (fun e => some (e 31)) (sq (rg (r40_4 D)) rt) sk)) (sq (rg (r40_5 D)) (sq (sq (rg (r40_6 D)) (cnd (fun e => some (e 41)) (sq (rg (r40_7 D)) rt) sk)) (sq (rg (r40_8 D)) (sq (sq (rg (r40_9 D)) (blk 0 (rf (fun e => some (e 44)) 45 (l40_27 D)))) (sq (rg (r40_28 D)) rt)))))))))
theorem e40 (a0 a1 : V) (m : Mem) : DD 40 [a0, a1] m = fin (c40 DD) (fun e m => some [e 4, e 5]) [a0, a1] m :=
 eOf (f := Tryz.f40) (by kernel_rfl) (by kernel_rfl)
def r71_0 : RR := fun D e m =>
 some (ups e [(3, .bool false)], m)
def r71_1 : RR := fun D e m =>
 bp (opLoad T 76 (e 1) m) m fun x0 m0 =>
 bnd (D 48 [x0, e 0] m0) fun x2 m2 =>
 bp (opUn .not x2) m2 fun x3 m3 =>
 some (ups e [(4, x0), (5, e 0), (6, x2), (7, x3), (3, x3)], m3)
noncomputable def c71 : RC := fun D => (sq (rg (r71_0 D)) (sq (rg (r71_1 D)) rt))
theorem e71 (a0 a1 : V) (m : Mem) : DD 71 [a0, a1] m = fin (c71 DD) (fun e m => some [e 3]) [a0, a1] m :=
 eOf (f := Tryz.f71) (by kernel_rfl) (by kernel_rfl)
def r72_0 : RR := fun D e m =>
 bnd (opBox (e 0) m) fun x0 m0 =>
 bnd (opBox (e 1) m0) fun x1 m1 =>
 some (ups e [(2, x0), (3, x1), (4, .nilf)], m1)
def r72_1 : RR := fun D e m =>
 bp (opLoad T 3 (e 3) m) m fun x0 m0 =>
 bp (opBin T .lss 3 x0 (.int .i64 1)) m0 fun x1 m1 =>
 some (ups e [(5, x0), (6, x1)], m1)
def r72_2 : RR := fun D e m =>
 bnd none fun x0 m0 =>
 bnd none fun x1 m1 =>
 some (ups e [(7, x0)], m1)
def r72_3 : RR := fun D e m =>
 some (ups e [(8, (.fn 112 [] [e 2, e 3])), (4, (.fn 112 [] [e 2, e 3]))], m)
noncomputable def c72 : RC := fun D => (sq (rg (r72_0 D)) (sq (sq (rg (r72_1 D)) (cnd (fun e => some (e 6)) (rg (r72_2 D)) sk)) (sq (rg (r72_3 D)) rt)))
theorem e72 (a0 a1 : V) (m : Mem) : DD 72 [a0, a1] m = fin (c72 DD) (fun e m => some [e 4]) [a0, a1] m :=
 eOf (f := Tryz.f72) (by kernel_rfl) (by kernel_rfl)
def r46_0 : RR := fun D e m =>
 some (ups e [(4, .bool false)], m)
def r46_1 : RR := fun D e m =>
 bnd (D 80 [e 0, e 1] m) fun x2 m2 =>
 bp (opBin T .geq 3 x2 (.int .i64 0)) m2 fun x3 m3 =>
 some (ups e [(5, e 0), (6, e 1), (7, x2), (8, x3), (4, x3)], m3)
noncomputable def c46 : RC := fun D => (sq (rg (r46_0 D)) (sq (rg (r46_1 D)) rt))
theorem e46 (a0 a1 : V) (m : Mem) : DD 46 [a0, a1] m = fin (c46 DD) (fun e m => some [e 4]) [a0, a1] m :=
 eOf (f := Tryz.f46) (by kernel_rfl) (by kernel_rfl)
def r73_0 : RR := fun D e m =>
 bnd (opBox (e 0) m) fun x0 m0 =>
 some (ups e [(2, x0), (4, .nils), (5, .int .i64 0)], m0)
def r73_1 : RR := fun D e m =>
 bp (opLoad T 27 (e 2) m) m fun x0 m0 =>
 bnd (D 26 [x0] m0) fun x1 m1 =>
 some (ups e [(7, x0), (8, x1), (6, x1)], m1)
def r73_2 : RR := fun D e m =>
 bp (opBin T .eql 33 (e 6) (.int .i64 0)) m fun x1 m1 =>
 some (ups e [(9, e 6), (10, x1)], m1)
def r73_3 : RR := fun D e m =>
 bp (opFieldAddr T 27 (e 2) 0) m fun x0 m0 =>
 bp (opLoad T 24 x0 m0) m0 fun x1 m1 =>
 bp (opFieldAddr T 27 (e 2) 2) m1 fun x3 m3 =>
 bp (opLoad T 25 x3 m3) m3 fun x4 m4 =>
 bp (opLen T 25 x4) m4 fun x5 m5 =>
 bnd (D 113 [x1, e 1, x5] m5) fun x6 m6 =>
 some (ups e [(11, x0), (12, x1), (13, e 1), (14, x3), (15, x4), (16, x5), (17, x6), (6, x6)], m6)
def r73_4 : RR := fun D e m =>
 bp (opBin T .neq 33 (e 6) (.int .i64 0)) m fun x1 m1 =>
 some (ups e [(18, e 6), (19, x1)], m1)
def r73_5 : RR := fun D e m =>
 some (ups e [(20, e 6), (4, .nils), (5, e 6)], m)
noncomputable def r73_6 : RR := fun D e m =>
 bp (opFieldAddr T 27 (e 2) 0) m fun x0 m0 =>
 bp (opLoad T 24 x0 m0) m0 fun x1 m1 =>
 bp (opLoad T 27 (e 2) m1) m1 fun x3 m3 =>
 bnd (D 58 [x3] m3) fun x4 m4 => chkd m3 m4 (
 bnd (D 114 [x1, e 1, x4] m4) fun x5 m5 =>
 bnd (extV x5 0 m5) fun x6 m6 =>
 bnd (extV x5 1 m6) fun x7 m7 =>
 some (ups e [(21, x0), (22, x1), (23, e 1), (24, x3), (25, x4), (26, x5), (27, x6), (28, x7), (4, x6), (5, x7)], m7))
noncomputable def c73 : RC := fun D => (sq (rg (r73_0 D)) (sq (rg (r73_1 D)) (sq (sq (rg (r73_2 D)) (cnd (fun e => some (e 10)) (rg (r73_3 D)) sk)) (sq (sq (rg (r73_4 D)) (cnd (fun e => some (e 19)) (sq (rg (r73_5 D)) rt) sk)) (sq (rg (r73_6 D)) rt)))))
theorem e73 (a0 a1 : V) (m : Mem) : DD 73 [a0, a1] m = fin (c73 DD) (fun e m => some [e 4, e 5]) [a0, a1] m :=
 eOf (f := Tryz.f73) (by kernel_rfl) (by kernel_rfl)
def r113_0 : RR := fun D e m =>
 bnd (opBox (e 0) m) fun x0 m0 =>
 some (ups e [(3, x0), (6, .int .i64 0)], m0)
def r113_1 : RR := fun D e m =>
 bp (opLen T 22 (e 1)) m fun x1 m1 =>
 bp (opBin T .neq 3 x1 (e 2)) m1 fun x3 m3 =>
 some (ups e [(9, e 1), (10, x1), (11, e 2), (12, x3)], m3)
def r113_2 : RR := fun D e m =>
 some (ups e [(6, .int .i64 4)], m)
def r113_3 : RR := fun D e m =>
 bp (opLoad T 24 (e 3) m) m fun x0 m0 =>
 bnd (D 45 [x0] m0) fun x1 m1 =>
 bnd (extV x1 0 m1) fun x3 m3 =>
 bnd (extV x1 1 m3) fun x4 m4 =>
 bnd (opAlloc T 76 m4) fun x5 m5 =>
 bnd ((opStore T 76 x5 x3 m5).map (V.undef, ·)) fun x6 m6 =>
 some (ups e [(14, x0), (15, x1), (13, x1), (16, x3), (17, x4), (7, x5), (8, x4)], m6)
def r113_4 : RR := fun D e m =>
 bp (opBin T .neq 33 (e 8) (.int .i64 0)) m fun x1 m1 =>
 some (ups e [(18, e 8), (19, x1)], m1)
def r113_5 : RR := fun D e m =>
 some (ups e [(20, e 8), (6, e 8)], m)
def r113_6 : RR := fun D e m =>
 bnd (D 46 [e 1, (.fn 140 [] [e 7])] m) fun x2 m2 =>
 some (ups e [(21, e 1), (22, (.fn 140 [] [e 7])), (23, x2)], m2)
def r113_7 : RR := fun D e m =>
 some (ups e [(6, .int .i64 2)], m)
def r113_8 : RR := fun D e m =>
 some (ups e [(6, .int .i64 0)], m)
noncomputable def c113 : RC := fun D => (sq (rg (r113_0 D)) (sq (sq (rg (r113_1 D)) (cnd (fun e => some (e 12)) (sq (rg (r113_2 D)) rt) sk)) (sq (rg (r113_3 D)) (sq (sq (rg (r113_4 D)) (cnd (fun e => some (e 19)) (sq (rg (r113_5 D)) rt) sk)) (sq (sq (rg (r113_6 D)) (cnd (fun e => some (e 23)) (sq (rg (r113_7 D)) rt) sk)) (sq (rg (r113_8 D)) rt))))))
theorem e113 (a0 a1 a2 : V) (m : Mem) : DD 113 [a0, a1, a2] m = fin (c113 DD) (fun e m => some [e 6]) [a0, a1, a2] m :=
 eOf (f := Tryz.f113) (by kernel_rfl) (by kernel_rfl)
def r140_0 : RR := fun D e m =>
 some (ups e [(3, .bool false)], m)
def r140_1 : RR := fun D e m =>
 bp (opLoad T 76 (e 1) m) m fun x0 m0 =>
 bnd (D 48 [x0, e 0] m0) fun x2 m2 =>
 bp (opUn .not x2) m2 fun x3 m3 =>
 some (ups e [(4, x0), (5, e 0), (6, x2), (7, x3), (3, x3)], m3)
noncomputable def c140 : RC := fun D => (sq (rg (r140_0 D)) (sq (rg (r140_1 D)) rt))
theorem e140 (a0 a1 : V) (m : Mem) : DD 140 [a0, a1] m = fin (c140 DD) (fun e m => some [e 3]) [a0, a1] m :=
 eOf (f := Tryz.f140) (by kernel_rfl) (by kernel_rfl)
def r114_0 : RR := fun D e m =>
 bnd (opBox (e 0) m) fun x0 m0 =>
 bnd (opBox (e 2) m0) fun x1 m1 =>
 some (ups e [(3, x0), (5, x1), (6, .nils), (7, .int .i64 0)], m1)
def r114_1 : RR := fun D e m =>
 bp (opLoad T 24 (e 3) m) m fun x0 m0 =>
 bp (opLoad T 88 (e 5) m0) m0 fun x1 m1 =>
 bnd (opBuildSlice T 181 1 [(0, x1)] m1) fun x2 m2 =>
 bnd (D 141 [x0, x2] m2) fun x3 m3 =>
 bnd (extV x3 0 m3) fun x5 m5 =>
 bnd (extV x3 1 m5) fun x6 m6 =>
 some (ups e [(12, x0), (13, x1), (14, x2), (15, x3), (11, x3), (16, x5), (17, x6), (8, x5), (9, x6)], m6)
def r114_2 : RR := fun D e m =>
 bp (opBin T .neq 33 (e 9) (.int .i64 0)) m fun x1 m1 =>
 some (ups e [(18, e 9), (19, x1)], m1)
def r114_3 : RR := fun D e m =>
 some (ups e [(20, e 9), (6, .nils), (7, e 9)], m)
def r114_4 : RR := fun D e m =>
 bp (opLen T 22 (e 1)) m fun x1 m1 =>
 bp (opFieldAddr T 88 (e 5) 1) m1 fun x2 m2 =>
 bp (opLoad T 25 x2 m2) m2 fun x3 m3 =>
 bp (opLen T 25 x3) m3 fun x4 m4 =>
 bp (opBin T .neq 3 x1 x4) m4 fun x5 m5 =>
 some (ups e [(21, e 1), (22, x1), (23, x2), (24, x3), (25, x4), (26, x5)], m5)
def r114_5 : RR := fun D e m =>
 some (ups e [(6, .nils), (7, .int .i64 3)], m)
def r114_6 : RR := fun D e m =>
 bnd (D 142 [e 8, e 1] m) fun x2 m2 =>
 some (ups e [(27, e 8), (28, e 1), (29, x2), (10, x2)], m2)
def r114_7 : RR := fun D e m =>
 bp (opBin T .neq 33 (e 10) (.int .i64 0)) m fun x1 m1 =>
 some (ups e [(30, e 10), (31, x1)], m1)
def r114_8 : RR := fun D e m =>
 some (ups e [(32, e 10), (6, .nils), (7, e 10)], m)
def r114_9 : RR := fun D e m =>
 bp (opFieldAddr T 88 (e 5) 1) m fun x2 m2 =>
 bp (opLoad T 25 x2 m2) m2 fun x3 m3 =>
 bp (opFieldAddr T 88 (e 5) 0) m3 fun x4 m4 =>
 bp (opLoad T 3 x4 m4) m4 fun x5 m5 =>
 bnd (D 143 [e 8, e 1, x3, x5] m5) fun x6 m6 =>
 some (ups e [(33, e 8), (34, e 1), (35, x2), (36, x3), (37, x4), (38, x5), (39, x6), (6, x6), (7, .int .i64 0)], m6)
noncomputable def c114 : RC := fun D => (sq (rg (r114_0 D)) (sq (rg (r114_1 D)) (sq (sq (rg (r114_2 D)) (cnd (fun e => some (e 19)) (sq (rg (r114_3 D)) rt) sk)) (sq (sq (rg (r114_4 D)) (cnd (fun e => some (e 26)) (sq (rg (r114_5 D)) rt) sk)) (sq (sq (rg (r114_6 D)) (sq (rg (r114_7 D)) (cnd (fun e => some (e 31)) (sq (rg (r114_8 D)) rt) sk))) (sq (rg (r114_9 D)) rt))))))
theorem e114 (a0 a1 a2 : V) (m : Mem) : DD 114 [a0, a1, a2] m = fin (c114 DD) (fun e m => some [e 6, e 7]) [a0, a1, a2] m :=
 eOf (f := Tryz.f114) (by kernel_rfl) (by kernel_rfl)
def r143_0 : RR := fun D e m =>
 some (ups e [(8, .nils)], m)
def r143_1 : RR := fun D e m =>
 bnd (opMakeSlice T 22 (e 3) (e 3) m) fun x1 m1 =>
 some (ups e [(12, e 3), (13, x1), (9, x1)], m1)
def r143_2 : RR := fun D e m =>
 bp (opLen T 22 (e 1)) m fun x1 m1 =>
 some (ups e [(14, e 1), (15, x1), (16, .int .i64 0)], m1)
def r143_3 : RR := fun D e m =>
 bp (opBin T .lss 3 (e 16) (e 15)) m fun x0 m0 =>
 some (ups e [(17, x0)], m0)
def r143_4 : RR := fun D e m =>
 bp (opIndexAddr T 22 (e 14) (e 16)) m fun x1 m1 =>
 bp (opLoad T 3 x1 m1) m1 fun x2 m2 =>
 some (ups e [(18, e 16), (19, x1), (20, x2), (10, e 16), (11, x2)], m2)
def r143_5 : RR := fun D e m =>
 bp (opBin T .neq 3 (e 11) (.int .i64 0)) m fun x1 m1 =>
 some (ups e [(21, e 11), (22, x1)], m1)
def r143_6 : RR := fun D e m =>
 bp (opIndexAddr T 25 (e 2) (e 10)) m fun x5 m5 =>
 bp (opLoad T 22 x5 m5) m5 fun x6 m6 =>
 bnd (D 161 [e 0, e 9, e 11, x6] m6) fun x7 m7 =>
 some (ups e [(23, e 0), (24, e 9), (25, e 11), (26, e 2), (27, e 10), (28, x5), (29, x6), (30, x7)], m7)
def r143_7 : RR := fun D e m =>
 bp (opBin T .add 3 (e 16) (.int .i64 1)) m fun x0 m0 =>
 some (ups e [(31, x0), (16, x0)], m0)
noncomputable def l143_8 : RC := fun D => (sq (rg (r143_3 D)) (sq (cnd (fun e => some (e 17)) sk (exi 0)) (sq (blk 1 (sq (rg (r143_4 D)) (sq (rg (r143_5 D)) (cnd (fun e => some (e 22)) (rg (r143_6 D)) sk)))) (rg (r143_7 D)))))
def r143_9 : RR := fun D e m =>
 some (ups e [(32, e 9), (8, e 9)], m)
noncomputable def c143 : RC := fun D => (sq (rg (r143_0 D)) (sq (rg (r143_1 D)) (sq (sq (rg (r143_2 D)) (blk 0 (loopD (l143_8 D)))) (sq (rg (r143_9 D)) rt))))
theorem e143 (a0 a1 a2 a3 : V) (m : Mem) : DD 143 [a0, a1, a2, a3] m = fin (c143 DD) (fun e m => some [e 8]) [a0, a1, a2, a3] m :=
 eOf (f := Tryz.f143) (by kernel_rfl) (by kernel_rfl)
def r42_0 : RR := fun D e m =>
 bnd (opBox (e 0) m) fun x0 m0 =>
 some (ups e [(4, x0), (8, .nils)], m0)
def r42_1 : RR := fun D e m =>
 bnd (opMakeSlice T 22 (e 3) (e 3) m) fun x1 m1 =>
 some (ups e [(11, e 3), (12, x1), (9, x1)], m1)
def r42_2 : RR := fun D e m =>
 some (ups e [(10, .int .i64 0)], m)
def r42_3 : RR := fun D e m =>
 bp (opLen T 25 (e 2)) m fun x2 m2 =>
 bp (opBin T .lss 3 (e 10) x2) m2 fun x3 m3 =>
 bg x3 true (some ((e 10), m3)) m3 fun x5 m5 =>
 bg x3 true (some ((e 1), m5)) m5 fun x6 m6 =>
 bg x3 true (lft (opLen T 22 x6) m6) m6 fun x7 m7 =>
 bg x3 true (lft (opBin T .lss 3 x5 x7) m7) m7 fun x8 m8 =>
 bnd (pickV x3 x8 (.bool false) m8) fun x9 m9 =>
 some (ups e [(13, e 10), (14, e 2), (15, x2), (16, x3), (17, x3), (18, x5), (19, x6), (20, x7), (21, x8), (22, x9)], m9)
def r42_4 : RR := fun D e m =>
 bp (opIndexAddr T 22 (e 1) (e 10)) m fun x2 m2 =>
 bp (opLoad T 3 x2 m2) m2 fun x3 m3 =>
 bp (opBin T .neq 3 x3 (.int .i64 0)) m3 fun x4 m4 =>
 some (ups e [(25, e 1), (26, e 10), (27, x2), (28, x3), (29, x4)], m4)
def r42_5 : RR := fun D e m =>
 bp (opLoad T 24 (e 4) m) m fun x0 m0 =>
 bp (opIndexAddr T 22 (e 1) (e 10)) m0 fun x4 m4 =>
 bp (opLoad T 3 x4 m4) m4 fun x5 m5 =>
 bp (opIndexAddr T 25 (e 2) (e 10)) m5 fun x8 m8 =>
 bp (opLoad T 22 x8 m8) m8 fun x9 m9 =>
 bnd (D 75 [x0, e 9, x5, x9] m9) fun x10 m10 =>
 some (ups e [(30, x0), (31, e 9), (32, e 1), (33, e 10), (34, x4), (35, x5), (36, e 2), (37, e 10), (38, x8), (39, x9), (40, x10), (9, x10)], m10)
def r42_6 : RR := fun D e m =>
 bp (opBin T .add 3 (e 10) (.int .i64 1)) m fun x1 m1 =>
 some (ups e [(23, e 10), (24, x1), (10, x1)], m1)
noncomputable def l42_7 : RC := fun D => (sq (sq (rg (r42_3 D)) (cnd (fun e => some (e 22)) sk (exi 0))) (sq (blk 1 (sq (rg (r42_4 D)) (cnd (fun e => some (e 29)) (rg (r42_5 D)) sk))) (rg (r42_6 D))))
def r42_8 : RR := fun D e m =>
 some (ups e [(41, e 9), (8, e 9)], m)
noncomputable def c42 : RC := fun D => (sq (rg (r42_0 D)) (sq (rg (r42_1 D)) (sq (sq (rg (r42_2 D)) (blk 0 (loopD (l42_7 D)))) (sq (rg (r42_8 D)) rt))))
theorem e42 (a0 a1 a2 a3 : V) (m : Mem) : DD 42 [a0, a1, a2, a3] m = fin (c42 DD) (fun e m => some [e 8]) [a0, a1, a2, a3] m :=
 eOf (f := Tryz.f42) (by kernel_rfl) (by kernel_rfl)
def r19_0 : RR := fun D e m =>
 some (ups e [(4, .bool false)], m)
def r19_1 : RR := fun D e m =>
 bp (opLen T 40 (e 0)) m fun x1 m1 =>
 bp (opLen T 40 (e 1)) m1 fun x3 m3 =>
 bp (opBin T .neq 3 x1 x3) m3 fun x4 m4 =>
 some (ups e [(6, e 0), (7, x1), (8, e 1), (9, x3), (10, x4)], m4)
def r19_2 : RR := fun D e m =>
 some (ups e [(4, .bool false)], m)
def r19_3 : RR := fun D e m =>
 some (ups e [(5, .int .i64 0)], m)
def r19_4 : RR := fun D e m =>
 bp (opLen T 40 (e 0)) m fun x2 m2 =>
 bp (opBin T .lss 3 (e 5) x2) m2 fun x3 m3 =>
 some (ups e [(11, e 5), (12, e 0), (13, x2), (14, x3)], m3)
def r19_5 : RR := fun D e m =>
 bp (opIndexAddr T 40 (e 0) (e 5)) m fun x2 m2 =>
 bp (opLoad T 25 x2 m2) m2 fun x3 m3 =>
 bp (opIndexAddr T 40 (e 1) (e 5)) m3 fun x6 m6 =>
 bp (opLoad T 25 x6 m6) m6 fun x7 m7 =>
 bnd (D 22 [x3, x7] m7) fun x8 m8 =>
 bp (opUn .not x8) m8 fun x9 m9 =>
 some (ups e [(17, e 0), (18, e 5), (19, x2), (20, x3), (21, e 1), (22, e 5), (23, x6), (24, x7), (25, x8), (26, x9)], m9)
def r19_6 : RR := fun D e m =>
 some (ups e [(4, .bool false)], m)
def r19_7 : RR := fun D e m =>
 bp (opBin T .add 3 (e 5) (.int .i64 1)) m fun x1 m1 =>
 some (ups e [(15, e 5), (16, x1), (5, x1)], m1)
noncomputable def l19_8 : RC := fun D => (sq (sq (rg (r19_4 D)) (cnd (fun e => some (e 14)) sk (exi 0))) (sq (blk 1 (sq (rg (r19_5 D)) (cnd (fun e => some (e 26)) (sq (rg (r19_6 D)) rt) sk))) (rg (r19_7 D))))
def r19_9 : RR := fun D e m =>
 some (ups e [(4, .bool true)], m)
noncomputable def c19 : RC := fun D => (sq (rg (r19_0 D)) (sq (sq (rg (r19_1 D)) (cnd (fun e => some (e 10)) (sq (rg (r19_2 D)) rt) sk)) (sq (sq (rg (r19_3 D)) (blk 0 (loopD (l19_8 D)))) (sq (rg (r19_9 D)) rt))))
theorem e19 (a0 a1 : V) (m : Mem) : DD 19 [a0, a1] m = fin (c19 DD) (fun e m => some [e 4]) [a0, a1] m :=
 eOf (f := Tryz.f19) (by kernel_rfl) (by kernel_rfl)
def r22_0 : RR := fun D e m =>
 some (ups e [(4, .bool false)], m)
def r22_1 : RR := fun D e m =>
 bnd (D 52 [e 0, e 1] m) fun x2 m2 =>
 some (ups e [(5, e 0), (6, e 1), (7, x2), (4, x2)], m2)
noncomputable def c22 : RC := fun D => (sq (rg (r22_0 D)) (sq (rg (r22_1 D)) rt))
theorem e22 (a0 a1 : V) (m : Mem) : DD 22 [a0, a1] m = fin (c22 DD) (fun e m => some [e 4]) [a0, a1] m :=
 eOf (f := Tryz.f22) (by kernel_rfl) (by kernel_rfl)
def r52_0 : RR := fun D e m =>
 some (ups e [(4, .bool false)], m)
def r52_1 : RR := fun D e m =>
 bp (opLen T 25 (e 0)) m fun x1 m1 =>
 bp (opLen T 25 (e 1)) m1 fun x3 m3 =>
 bp (opBin T .neq 3 x1 x3) m3 fun x4 m4 =>
 some (ups e [(6, e 0), (7, x1), (8, e 1), (9, x3), (10, x4)], m4)
def r52_2 : RR := fun D e m =>
 some (ups e [(4, .bool false)], m)
def r52_3 : RR := fun D e m =>
 some (ups e [(5, .int .i64 0)], m)
def r52_4 : RR := fun D e m =>
 bp (opLen T 25 (e 0)) m fun x2 m2 =>
 bp (opBin T .lss 3 (e 5) x2) m2 fun x3 m3 =>
 some (ups e [(11, e 5), (12, e 0), (13, x2), (14, x3)], m3)
def r52_5 : RR := fun D e m =>
 bp (opIndexAddr T 25 (e 0) (e 5)) m fun x2 m2 =>
 bp (opLoad T 22 x2 m2) m2 fun x3 m3 =>
 bp (opIndexAddr T 25 (e 1) (e 5)) m3 fun x6 m6 =>
 bp (opLoad T 22 x6 m6) m6 fun x7 m7 =>
 bnd (D 53 [x3, x7] m7) fun x8 m8 =>
 bp (opBin T .neq 3 x8 (.int .i64 0)) m8 fun x9 m9 =>
 some (ups e [(17, e 0), (18, e 5), (19, x2), (20, x3), (21, e 1), (22, e 5), (23, x6), (24, x7), (25, x8), (26, x9)], m9)
def r52_6 : RR := fun D e m =>
 some (ups e [(4, .bool false)], m)
def r52_7 : RR := fun D e m =>
 bp (opBin T .add 3 (e 5) (.int .i64 1)) m fun x1 m1 =>
 some (ups e [(15, e 5), (16, x1), (5, x1)], m1)
noncomputable def l52_8 : RC := fun D => (sq (sq (rg (r52_4 D)) (cnd (fun e => some (e 14)) sk (exi 0))) (sq (blk 1 (sq (rg (r52_5 D)) (cnd (fun e => some (e 26)) (sq (rg (r52_6 D)) rt) sk))) (rg (r52_7 D))))
def r52_9 : RR := fun D e m =>
 some (ups e [(4, .bool true)], m)
noncomputable def c52 : RC := fun D => (sq (rg (r52_0 D)) (sq (sq (rg (r52_1 D)) (cnd (fun e => some (e 10)) (sq (rg (r52_2 D)) rt) sk)) (sq (sq (rg (r52_3 D)) (blk 0 (loopD (l52_8 D)))) (sq (rg (r52_9 D)) rt))))
theorem e52 (a0 a1 : V) (m : Mem) : DD 52 [a0, a1] m = fin (c52 DD) (fun e m => some [e 4]) [a0, a1] m :=
 eOf (f := Tryz.f52) (by kernel_rfl) (by kernel_rfl)
def r53_0 : RR := fun D e m =>
 some (ups e [(4, .int .i64 0)], m)
def r53_1 : RR := fun D e m =>
 some (ups e [(5, .int .i64 0)], m)
def r53_2 : RR := fun D e m =>
 bp (opLen T 22 (e 0)) m fun x2 m2 =>
 bp (opBin T .lss 3 (e 5) x2) m2 fun x3 m3 =>
 bg x3 true (some ((e 5), m3)) m3 fun x5 m5 =>
 bg x3 true (some ((e 1), m5)) m5 fun x6 m6 =>
 bg x3 true (lft (opLen T 22 x6) m6) m6 fun x7 m7 =>
 bg x3 true (lft (opBin T .lss 3 x5 x7) m7) m7 fun x8 m8 =>
 bnd (pickV x3 x8 (.bool false) m8) fun x9 m9 =>
 some (ups e [(6, e 5), (7, e 0), (8, x2), (9, x3), (10, x3), (11, x5), (12, x6), (13, x7), (14, x8), (15, x9)], m9)
def r53_3 : RR := fun D e m =>
 bp (opIndexAddr T 22 (e 0) (e 5)) m fun x2 m2 =>
 bp (opLoad T 3 x2 m2) m2 fun x3 m3 =>
 bp (opIndexAddr T 22 (e 1) (e 5)) m3 fun x6 m6 =>
 bp (opLoad T 3 x6 m6) m6 fun x7 m7 =>
 bp (opBin T .lss 3 x3 x7) m7 fun x8 m8 =>
 some (ups e [(18, e 0), (19, e 5), (20, x2), (21, x3), (22, e 1), (23, e 5), (24, x6), (25, x7), (26, x8)], m8)
def r53_4 : RR := fun D e m =>
 some (ups e [(4, (.int .i64 (-1)))], m)
def r53_5 : RR := fun D e m =>
 bp (opIndexAddr T 22 (e 0) (e 5)) m fun x2 m2 =>
 bp (opLoad T 3 x2 m2) m2 fun x3 m3 =>
 bp (opIndexAddr T 22 (e 1) (e 5)) m3 fun x6 m6 =>
 bp (opLoad T 3 x6 m6) m6 fun x7 m7 =>
 bp (opBin T .gtr 3 x3 x7) m7 fun x8 m8 =>
 some (ups e [(27, e 0), (28, e 5), (29, x2), (30, x3), (31, e 1), (32, e 5), (33, x6), (34, x7), (35, x8)], m8)
def r53_6 : RR := fun D e m =>
 some (ups e [(4, .int .i64 1)], m)
def r53_7 : RR := fun D e m =>
 bp (opBin T .add 3 (e 5) (.int .i64 1)) m fun x1 m1 =>
 some (ups e [(16, e 5), (17, x1), (5, x1)], m1)
noncomputable def l53_8 : RC := fun D => (sq (sq (rg (r53_2 D)) (cnd (fun e => some (e 15)) sk (exi 0))) (sq (blk 1 (sq (sq (rg (r53_3 D)) (cnd (fun e => some (e 26)) (sq (rg (r53_4 D)) rt) sk)) (sq (rg (r53_5 D)) (cnd (fun e => some (e 35)) (sq (rg (r53_6 D)) rt) sk)))) (rg (r53_7 D))))
def r53_9 : RR := fun D e m =>
 bp (opLen T 22 (e 0)) m fun x1 m1 =>
 bp (opLen T 22 (e 1)) m1 fun x3 m3 =>
 bp (opBin T .lss 3 x1 x3) m3 fun x4 m4 =>
 some (ups e [(36, e 0), (37, x1), (38, e 1), (39, x3), (40, x4)], m4)
def r53_10 : RR := fun D e m =>
 some (ups e [(4, (.int .i64 (-1)))], m)
def r53_11 : RR := fun D e m =>
 bp (opLen T 22 (e 0)) m fun x1 m1 =>
 bp (opLen T 22 (e 1)) m1 fun x3 m3 =>
 bp (opBin T .gtr 3 x1 x3) m3 fun x4 m4 =>
 some (ups e [(41, e 0), (42, x1), (43, e 1), (44, x3), (45, x4)], m4)
def r53_12 : RR := fun D e m =>
 some (ups e [(4, .int .i64 1)], m)
def r53_13 : RR := fun D e m =>
 some (ups e [(4, .int .i64 0)], m)
noncomputable def c53 : RC := fun D => (sq (rg (r53_0 D)) (sq (sq (rg (r53_1 D)) (blk 0 (loopD (l53_8 D)))) (sq (sq (rg (r53_9 D)) (cnd (fun e => some (e 40)) (sq (rg (r53_10 D)) rt) sk)) (sq (sq (rg (r53_11 D)) (cnd (fun e => some (e 45)) (sq (rg (r53_12 D)) rt) sk)) (sq (rg (r53_13 D)) rt)))))
theorem e53 (a0 a1 : V) (m : Mem) : DD 53 [a0, a1] m = fin (c53 DD) (fun e m => some [e 4]) [a0, a1] m :=
 eOf (f := Tryz.f53) (by kernel_rfl) (by kernel_rfl)
def r12_0 : RR := fun D e m =>
 bnd (opBox (e 0) m) fun x0 m0 =>
 some (ups e [(1, x0), (2, .bool false)], m0)
def r12_1 : RR := fun D e m =>
 bp (opFieldAddr T 31 (e 1) 2) m fun x0 m0 =>
 bp (opFieldAddr T 29 x0 0) m0 fun x1 m1 =>
 bp (opLoad T 25 x1 m1) m1 fun x2 m2 =>
 bp (opLen T 25 x2) m2 fun x3 m3 =>
 bp (opBin T .leq 3 x3 (.int .i64 300)) m3 fun x4 m4 =>
 bg x4 true (lft (opFieldAddr T 31 (e 1) 0) m4) m4 fun x6 m6 =>
 bg x4 true (lft (opFieldAddr T 27 x6 1) m6) m6 fun x7 m7 =>
 bg x4 true (lft (opLoad T 3 x7 m7) m7) m7 fun x8 m8 =>
 bg x4 true (lft (opBin T .leq 3 x8 (.int .i64 8)) m8) m8 fun x9 m9 =>
 bnd (pickV x4 x9 (.bool false) m9) fun x10 m10 =>
 some (ups e [(3, x0), (4, x1), (5, x2), (6, x3), (7, x4), (8, x4), (9, x6), (10, x7), (11, x8), (12, x9), (13, x10), (2, x10)], m10)
noncomputable def c12 : RC := fun D => (sq (rg (r12_0 D)) (sq (rg (r12_1 D)) rt))
theorem e12 (a0 : V) (m : Mem) : DD 12 [a0] m = fin (c12 DD) (fun e m => some [e 2]) [a0] m :=
 eOf (f := Tryz.f12) (by kernel_rfl) (by kernel_rfl)
end Go.Proofs.YtefjnnghfloddaaGreat.Abs
