/- A part of a proof of a law of the store, without conditions: its texts are: Fu1. -/
import Derived.Test.YtefjnnghfloddaaGreatGe
/- The program's functions as the executor runs them, each proved to be so. Printed by gen.py, a program of this work. -/
namespace Go.Proofs.YtefjnnghfloddaaGreat.Abs
open Go.Proofs
set_option linter.unusedVariables false
set_option maxRecDepth 100000
def r166_0 : RR := fun D e m =>
 some (ups e [(6, .int .i64 0)], m)
def r166_1 : RR := fun D e m =>
 bnd (D 181 [e 0, e 1] m) fun x2 m2 =>
 bnd (D 181 [e 0, e 2] m2) fun x5 m5 =>
 some (ups e [(7, e 0), (8, e 1), (9, x2), (10, e 0), (11, e 2), (12, x5), (1, x2), (2, x5)], m5)
def r166_2 : RR := fun D e m =>
 bp (opBin T .eql 3 (e 1) (.int .i64 0)) m fun x1 m1 =>
 bg x1 false (some ((e 2), m1)) m1 fun x3 m3 =>
 bg x1 false (lft (opBin T .eql 3 x3 (.int .i64 0)) m3) m3 fun x4 m4 =>
 bnd (pickV x1 (.bool true) x4 m4) fun x5 m5 =>
 some (ups e [(13, e 1), (14, x1), (15, x1), (16, x3), (17, x4), (18, x5)], m5)
def r166_3 : RR := fun D e m =>
 some (ups e [(6, .int .i64 0)], m)
def r166_4 : RR := fun D e m =>
 bnd (nilChk (e 0) m) fun x1 m1 =>
 bp (opFieldAddr T 107 x1 2) m1 fun x2 m2 =>
 bp (opLoad T 22 x2 m2) m2 fun x3 m3 =>
 bnd (nilChk (e 0) m3) fun x5 m5 =>
 bp (opFieldAddr T 107 x5 3) m5 fun x6 m6 =>
 bp (opLoad T 22 x6 m6) m6 fun x7 m7 =>
 bp (opIndexAddr T 22 x7 (e 1)) m7 fun x9 m9 =>
 bp (opLoad T 3 x9 m9) m9 fun x10 m10 =>
 bnd (nilChk (e 0) m10) fun x12 m12 =>
 bp (opFieldAddr T 107 x12 3) m12 fun x13 m13 =>
 bp (opLoad T 22 x13 m13) m13 fun x14 m14 =>
 bp (opIndexAddr T 22 x14 (e 2)) m14 fun x16 m16 =>
 bp (opLoad T 3 x16 m16) m16 fun x17 m17 =>
 bp (opBin T .add 3 x10 x17) m17 fun x18 m18 =>
 bnd (nilChk (e 0) m18) fun x20 m20 =>
 bp (opFieldAddr T 107 x20 1) m20 fun x21 m21 =>
 bp (opLoad T 3 x21 m21) m21 fun x22 m22 =>
 bp (opBin T .sub 3 x22 (.int .i64 1)) m22 fun x23 m23 =>
 bp (opBin T .rem 3 x18 x23) m23 fun x24 m24 =>
 bp (opIndexAddr T 22 x3 x24) m24 fun x25 m25 =>
 bp (opLoad T 3 x25 m25) m25 fun x26 m26 =>
 some (ups e [(19, e 0), (20, x1), (21, x2), (22, x3), (23, e 0), (24, x5), (25, x6), (26, x7), (27, e 1), (28, x9), (29, x10), (30, e 0), (31, x12), (32, x13), (33, x14), (34, e 2), (35, x16), (36, x17), (37, x18), (38, e 0), (39, x20), (40, x21), (41, x22), (42, x23), (43, x24), (44, x25), (45, x26), (6, x26)], m26)
noncomputable def c166 : RC := fun D => (sq (rg (r166_0 D)) (sq (rg (r166_1 D)) (sq (sq (rg (r166_2 D)) (cnd (fun e => some (e 18)) (sq (rg (r166_3 D)) rt) sk)) (sq (rg (r166_4 D)) rt))))
theorem e166 (a0 a1 a2 : V) (m : Mem) : DD 166 [a0, a1, a2] m = fin (c166 DD) (fun e m => some [e 6]) [a0, a1, a2] m :=
 eOf (f := Tryz.f166) (by kernel_rfl) (by kernel_rfl)
def r167_0 : RR := fun D e m =>
 some (ups e [(4, .int .i64 0), (5, .int .i64 0)], m)
def r167_1 : RR := fun D e m =>
 bnd (D 181 [e 0, e 1] m) fun x2 m2 =>
 some (ups e [(6, e 0), (7, e 1), (8, x2), (1, x2)], m2)
def r167_2 : RR := fun D e m =>
 bp (opBin T .eql 3 (e 1) (.int .i64 0)) m fun x1 m1 =>
 some (ups e [(9, e 1), (10, x1)], m1)
def r167_3 : RR := fun D e m =>
 some (ups e [(4, .int .i64 0), (5, .int .i64 7)], m)
def r167_4 : RR := fun D e m =>
 bnd (nilChk (e 0) m) fun x1 m1 =>
 bp (opFieldAddr T 107 x1 2) m1 fun x2 m2 =>
 bp (opLoad T 22 x2 m2) m2 fun x3 m3 =>
 bnd (nilChk (e 0) m3) fun x5 m5 =>
 bp (opFieldAddr T 107 x5 1) m5 fun x6 m6 =>
 bp (opLoad T 3 x6 m6) m6 fun x7 m7 =>
 bp (opBin T .sub 3 x7 (.int .i64 1)) m7 fun x8 m8 =>
 bnd (nilChk (e 0) m8) fun x10 m10 =>
 bp (opFieldAddr T 107 x10 3) m10 fun x11 m11 =>
 bp (opLoad T 22 x11 m11) m11 fun x12 m12 =>
 bp (opIndexAddr T 22 x12 (e 1)) m12 fun x14 m14 =>
 bp (opLoad T 3 x14 m14) m14 fun x15 m15 =>
 bp (opBin T .sub 3 x8 x15) m15 fun x16 m16 =>
 bnd (nilChk (e 0) m16) fun x18 m18 =>
 bp (opFieldAddr T 107 x18 1) m18 fun x19 m19 =>
 bp (opLoad T 3 x19 m19) m19 fun x20 m20 =>
 bp (opBin T .sub 3 x20 (.int .i64 1)) m20 fun x21 m21 =>
 bp (opBin T .rem 3 x16 x21) m21 fun x22 m22 =>
 bp (opIndexAddr T 22 x3 x22) m22 fun x23 m23 =>
 bp (opLoad T 3 x23 m23) m23 fun x24 m24 =>
 some (ups e [(11, e 0), (12, x1), (13, x2), (14, x3), (15, e 0), (16, x5), (17, x6), (18, x7), (19, x8), (20, e 0), (21, x10), (22, x11), (23, x12), (24, e 1), (25, x14), (26, x15), (27, x16), (28, e 0), (29, x18), (30, x19), (31, x20), (32, x21), (33, x22), (34, x23), (35, x24), (4, x24), (5, .int .i64 0)], m24)
noncomputable def c167 : RC := fun D => (sq (rg (r167_0 D)) (sq (rg (r167_1 D)) (sq (sq (rg (r167_2 D)) (cnd (fun e => some (e 10)) (sq (rg (r167_3 D)) rt) sk)) (sq (rg (r167_4 D)) rt))))
theorem e167 (a0 a1 : V) (m : Mem) : DD 167 [a0, a1] m = fin (c167 DD) (fun e m => some [e 4, e 5]) [a0, a1] m :=
 eOf (f := Tryz.f167) (by kernel_rfl) (by kernel_rfl)
noncomputable def r168_0 : RR := fun D e m =>
 bp (opLoad T 3 (e 3) m) m fun x1 m1 =>
 bp (opLoad T 76 (e 1) m1) m1 fun x2 m2 =>
 bp (opLoad T 3 (e 2) m2) m2 fun x3 m3 =>
 bp (opLoad T 3 (e 3) m3) m3 fun x5 m5 =>
 bp (opIndexAddr T 25 (e 0) x5) m5 fun x6 m6 =>
 bp (opLoad T 22 x6 m6) m6 fun x7 m7 =>
 bnd (D 169 [x2, x3, x7] m7) fun x8 m8 => chkd m7 m8 (
 bp (opIndexAddr T 25 (e 0) x1) m8 fun x9 m9 =>
 bnd ((opStore T 22 x9 x8 m9).map (V.undef, ·)) fun x10 m10 =>
 some (ups e [(5, e 0), (6, x1), (7, x2), (8, x3), (9, e 0), (10, x5), (11, x6), (12, x7), (13, x8), (14, x9)], m10))
noncomputable def c168 : RC := fun D => (rg (r168_0 D))
theorem e168 (a0 a1 a2 a3 : V) (m : Mem) : DD 168 [a0, a1, a2, a3] m = fin (c168 DD) (fun e m => some []) [a0, a1, a2, a3] m :=
 eOf (f := Tryz.f168) (by kernel_rfl) (by kernel_rfl)
def r169_0 : RR := fun D e m =>
 some (ups e [(6, .nils)], m)
def r169_1 : RR := fun D e m =>
 bp (opLen T 22 (e 2)) m fun x1 m1 =>
 bnd (opMakeSlice T 22 x1 x1 m1) fun x2 m2 =>
 some (ups e [(10, e 2), (11, x1), (12, x2), (7, x2)], m2)
def r169_2 : RR := fun D e m =>
 bp (opLen T 22 (e 2)) m fun x1 m1 =>
 some (ups e [(13, e 2), (14, x1), (15, .int .i64 0)], m1)
def r169_3 : RR := fun D e m =>
 bp (opBin T .lss 3 (e 15) (e 14)) m fun x0 m0 =>
 some (ups e [(16, x0)], m0)
def r169_4 : RR := fun D e m =>
 bp (opIndexAddr T 22 (e 13) (e 15)) m fun x1 m1 =>
 bp (opLoad T 3 x1 m1) m1 fun x2 m2 =>
 some (ups e [(17, e 15), (18, x1), (19, x2), (8, e 15), (9, x2)], m2)
def r169_5 : RR := fun D e m =>
 bnd (D 166 [e 0, e 1, e 9] m) fun x5 m5 =>
 bp (opIndexAddr T 22 (e 7) (e 8)) m5 fun x6 m6 =>
 bnd ((opStore T 3 x6 x5 m6).map (V.undef, ·)) fun x7 m7 =>
 some (ups e [(20, e 7), (21, e 8), (22, e 0), (23, e 1), (24, e 9), (25, x5), (26, x6)], m7)
def r169_6 : RR := fun D e m =>
 bp (opBin T .add 3 (e 15) (.int .i64 1)) m fun x0 m0 =>
 some (ups e [(27, x0), (15, x0)], m0)
noncomputable def l169_7 : RC := fun D => (sq (rg (r169_3 D)) (sq (cnd (fun e => some (e 16)) sk (exi 0)) (sq (blk 1 (sq (rg (r169_4 D)) (rg (r169_5 D)))) (rg (r169_6 D)))))
def r169_8 : RR := fun D e m =>
 some (ups e [(28, e 7), (6, e 7)], m)
noncomputable def c169 : RC := fun D => (sq (rg (r169_0 D)) (sq (rg (r169_1 D)) (sq (sq (rg (r169_2 D)) (blk 0 (loopD (l169_7 D)))) (sq (rg (r169_8 D)) rt))))
theorem e169 (a0 a1 a2 : V) (m : Mem) : DD 169 [a0, a1, a2] m = fin (c169 DD) (fun e m => some [e 6]) [a0, a1, a2] m :=
 eOf (f := Tryz.f169) (by kernel_rfl) (by kernel_rfl)
noncomputable def r170_0 : RR := fun D e m =>
 bp (opLoad T 76 (e 1) m) m fun x0 m0 =>
 bp (opLoad T 3 (e 2) m0) m0 fun x2 m2 =>
 bp (opIndexAddr T 25 (e 0) x2) m2 fun x3 m3 =>
 bp (opLoad T 22 x3 m3) m3 fun x4 m4 =>
 bp (opLoad T 76 (e 1) m4) m4 fun x5 m5 =>
 bp (opLoad T 3 (e 3) m5) m5 fun x6 m6 =>
 bnd (D 165 [x5, x6] m6) fun x7 m7 => chkd m6 m7 (
 bp (opLoad T 3 (e 4) m7) m7 fun x9 m9 =>
 bp (opIndexAddr T 25 (e 0) x9) m9 fun x10 m10 =>
 bp (opLoad T 22 x10 m10) m10 fun x11 m11 =>
 bnd (D 161 [x0, x4, x7, x11] m11) fun x12 m12 =>
 some (ups e [(6, x0), (7, e 0), (8, x2), (9, x3), (10, x4), (11, x5), (12, x6), (13, x7), (14, e 0), (15, x9), (16, x10), (17, x11), (18, x12)], m12))
noncomputable def c170 : RC := fun D => (rg (r170_0 D))
theorem e170 (a0 a1 a2 a3 a4 : V) (m : Mem) : DD 170 [a0, a1, a2, a3, a4] m = fin (c170 DD) (fun e m => some []) [a0, a1, a2, a3, a4] m :=
 eOf (f := Tryz.f170) (by kernel_rfl) (by kernel_rfl)
def r171_0 : RR := fun D e m =>
 some (ups e [(6, .nils)], m)
def r171_1 : RR := fun D e m =>
 bnd (nilChk (e 0) m) fun x1 m1 =>
 bp (opFieldAddr T 157 x1 0) m1 fun x2 m2 =>
 bp (opLoad T 76 x2 m2) m2 fun x3 m3 =>
 bp (opBuild T 195 [(0, x3)]) m3 fun x4 m4 =>
 bnd (opBox x4 m4) fun x5 m5 =>
 some (ups e [(11, e 0), (12, x1), (13, x2), (14, x3), (15, x4), (16, x5), (7, x5)], m5)
def r171_2 : RR := fun D e m =>
 some (ups e [(8, .nils)], m)
def r171_3 : RR := fun D e m =>
 bp (opLen T 22 (e 1)) m fun x1 m1 =>
 some (ups e [(17, e 1), (18, x1), (19, .int .i64 0)], m1)
def r171_4 : RR := fun D e m =>
 bp (opBin T .lss 3 (e 19) (e 18)) m fun x0 m0 =>
 some (ups e [(20, x0)], m0)
def r171_5 : RR := fun D e m =>
 bp (opIndexAddr T 22 (e 17) (e 19)) m fun x0 m0 =>
 bp (opLoad T 3 x0 m0) m0 fun x1 m1 =>
 some (ups e [(21, x0), (22, x1), (10, x1)], m1)
def r171_6 : RR := fun D e m =>
 bp (opLen T 22 (e 8)) m fun x1 m1 =>
 bp (opBin T .eql 3 x1 (e 2)) m1 fun x3 m3 =>
 some (ups e [(23, e 8), (24, x1), (25, e 2), (26, x3)], m3)
def r171_7 : RR := fun D e m =>
 bnd (D 183 [e 0, e 10] m) fun x3 m3 =>
 bnd (D 182 [e 7, x3] m3) fun x4 m4 =>
 some (ups e [(27, e 7), (28, e 0), (29, e 10), (30, x3), (31, x4)], m4)
def r171_8 : RR := fun D e m =>
 bnd (opBuildSlice T 22 1 [(0, e 10)] m) fun x2 m2 =>
 bnd (opAppend T 22 22 (e 8) x2 m2) fun x3 m3 =>
 some (ups e [(32, e 8), (33, e 10), (34, x2), (35, x3), (8, x3)], m3)
def r171_9 : RR := fun D e m =>
 bp (opBin T .add 3 (e 19) (.int .i64 1)) m fun x0 m0 =>
 some (ups e [(36, x0), (19, x0)], m0)
noncomputable def l171_10 : RC := fun D => (sq (rg (r171_4 D)) (sq (cnd (fun e => some (e 20)) sk (exi 0)) (sq (blk 1 (sq (rg (r171_5 D)) (sq (sq (rg (r171_6 D)) (cnd (fun e => some (e 26)) (exi 0) sk)) (sq (rg (r171_7 D)) (cnd (fun e => some (e 31)) (rg (r171_8 D)) sk))))) (rg (r171_9 D)))))
def r171_11 : RR := fun D e m =>
 some (ups e [(37, e 8), (6, e 8)], m)
noncomputable def c171 : RC := fun D => (sq (rg (r171_0 D)) (sq (rg (r171_1 D)) (sq (rg (r171_2 D)) (sq (sq (rg (r171_3 D)) (blk 0 (loopD (l171_10 D)))) (sq (rg (r171_11 D)) rt)))))
theorem e171 (a0 a1 a2 : V) (m : Mem) : DD 171 [a0, a1, a2] m = fin (c171 DD) (fun e m => some [e 6]) [a0, a1, a2] m :=
 eOf (f := Tryz.f171) (by kernel_rfl) (by kernel_rfl)
def r174_0 : RR := fun D e m =>
 some (ups e [(4, .bool false)], m)
def r174_1 : RR := fun D e m =>
 some (ups e [(5, .int .i64 0)], m)
def r174_2 : RR := fun D e m =>
 bp (opLen T 22 (e 0)) m fun x2 m2 =>
 bp (opBin T .lss 3 (e 5) x2) m2 fun x3 m3 =>
 some (ups e [(6, e 5), (7, e 0), (8, x2), (9, x3)], m3)
def r174_3 : RR := fun D e m =>
 bp (opIndexAddr T 22 (e 0) (e 5)) m fun x2 m2 =>
 bp (opLoad T 3 x2 m2) m2 fun x3 m3 =>
 bp (opBin T .lss 3 x3 (.int .i64 0)) m3 fun x4 m4 =>
 bg x4 false (some ((e 0), m4)) m4 fun x6 m6 =>
 bg x4 false (some ((e 5), m6)) m6 fun x7 m7 =>
 bg x4 false (lft (opIndexAddr T 22 x6 x7) m7) m7 fun x8 m8 =>
 bg x4 false (lft (opLoad T 3 x8 m8) m8) m8 fun x9 m9 =>
 bg x4 false (some ((e 1), m9)) m9 fun x10 m10 =>
 bg x4 false (lft (opBin T .geq 3 x9 x10) m10) m10 fun x11 m11 =>
 bnd (pickV x4 (.bool true) x11 m11) fun x12 m12 =>
 bg x12 false (some ((e 5), m12)) m12 fun x14 m14 =>
 bg x12 false (lft (opBin T .gtr 3 x14 (.int .i64 0)) m14) m14 fun x15 m15 =>
 bg x12 false (some (x15, m15)) m15 fun x16 m16 =>
 bg x16 true (some ((e 0), m16)) m16 fun x17 m17 =>
 bg x16 true (some ((e 5), m17)) m17 fun x18 m18 =>
 bg x16 true (lft (opIndexAddr T 22 x17 x18) m18) m18 fun x19 m19 =>
 bg x16 true (lft (opLoad T 3 x19 m19) m19) m19 fun x20 m20 =>
 bg x16 true (some ((e 0), m20)) m20 fun x21 m21 =>
 bg x16 true (some ((e 5), m21)) m21 fun x22 m22 =>
 bg x16 true (lft (opBin T .sub 3 x22 (.int .i64 1)) m22) m22 fun x23 m23 =>
 bg x16 true (lft (opIndexAddr T 22 x21 x23) m23) m23 fun x24 m24 =>
 bg x16 true (lft (opLoad T 3 x24 m24) m24) m24 fun x25 m25 =>
 bg x16 true (lft (opBin T .leq 3 x20 x25) m25) m25 fun x26 m26 =>
 bg x12 false (pickV x16 x26 (.bool false) m26) m26 fun x27 m27 =>
 bnd (pickV x12 (.bool true) x27 m27) fun x28 m28 =>
 some (ups e [(12, e 0), (13, e 5), (14, x2), (15, x3), (16, x4), (17, x4), (18, x6), (19, x7), (20, x8), (21, x9), (22, x10), (23, x11), (24, x12), (25, x12), (26, x14), (27, x15), (28, x16), (29, x17), (30, x18), (31, x19), (32, x20), (33, x21), (34, x22), (35, x23), (36, x24), (37, x25), (38, x26), (39, x27), (40, x28)], m28)
def r174_4 : RR := fun D e m =>
 some (ups e [(4, .bool false)], m)
def r174_5 : RR := fun D e m =>
 bp (opBin T .add 3 (e 5) (.int .i64 1)) m fun x1 m1 =>
 some (ups e [(10, e 5), (11, x1), (5, x1)], m1)
noncomputable def l174_6 : RC := fun D => (sq (sq (rg (r174_2 D)) (cnd (fun e => some (e 9)) sk (exi 0))) (sq (blk 1 (sq (rg (r174_3 D)) (cnd (fun e => some (e 40)) (sq (rg (r174_4 D)) rt) sk))) (rg (r174_5 D))))
def r174_7 : RR := fun D e m =>
 some (ups e [(4, .bool true)], m)
noncomputable def c174 : RC := fun D => (sq (rg (r174_0 D)) (sq (sq (rg (r174_1 D)) (blk 0 (loopD (l174_6 D)))) (sq (rg (r174_7 D)) rt)))
theorem e174 (a0 a1 : V) (m : Mem) : DD 174 [a0, a1] m = fin (c174 DD) (fun e m => some [e 4]) [a0, a1] m :=
 eOf (f := Tryz.f174) (by kernel_rfl) (by kernel_rfl)
def r175_0 : RR := fun D e m =>
 some (ups e [(4, .bool false)], m)
def r175_1 : RR := fun D e m =>
 some (ups e [(5, .int .i64 0)], m)
def r175_2 : RR := fun D e m =>
 bp (opLen T 22 (e 0)) m fun x2 m2 =>
 bp (opBin T .lss 3 (e 5) x2) m2 fun x3 m3 =>
 some (ups e [(6, e 5), (7, e 0), (8, x2), (9, x3)], m3)
def r175_3 : RR := fun D e m =>
 bp (opIndexAddr T 22 (e 0) (e 5)) m fun x2 m2 =>
 bp (opLoad T 3 x2 m2) m2 fun x3 m3 =>
 bp (opBin T .eql 3 x3 (e 1)) m3 fun x5 m5 =>
 some (ups e [(12, e 0), (13, e 5), (14, x2), (15, x3), (16, e 1), (17, x5)], m5)
def r175_4 : RR := fun D e m =>
 some (ups e [(4, .bool true)], m)
def r175_5 : RR := fun D e m =>
 bp (opBin T .add 3 (e 5) (.int .i64 1)) m fun x1 m1 =>
 some (ups e [(10, e 5), (11, x1), (5, x1)], m1)
noncomputable def l175_6 : RC := fun D => (sq (sq (rg (r175_2 D)) (cnd (fun e => some (e 9)) sk (exi 0))) (sq (blk 1 (sq (rg (r175_3 D)) (cnd (fun e => some (e 17)) (sq (rg (r175_4 D)) rt) sk))) (rg (r175_5 D))))
def r175_7 : RR := fun D e m =>
 some (ups e [(4, .bool false)], m)
noncomputable def c175 : RC := fun D => (sq (rg (r175_0 D)) (sq (sq (rg (r175_1 D)) (blk 0 (loopD (l175_6 D)))) (sq (rg (r175_7 D)) rt)))
theorem e175 (a0 a1 : V) (m : Mem) : DD 175 [a0, a1] m = fin (c175 DD) (fun e m => some [e 4]) [a0, a1] m :=
 eOf (f := Tryz.f175) (by kernel_rfl) (by kernel_rfl)
def r176_0 : RR := fun D e m =>
 bnd (opBox (e 0) m) fun x0 m0 =>
 some (ups e [(3, x0), (6, .int .i64 0)], m0)
noncomputable def r176_1 : RR := fun D e m =>
 bp (opLoad T 24 (e 3) m) m fun x0 m0 =>
 bnd (D 187 [e 1, e 2] m0) fun x3 m3 => chkd m0 m3 (
 bp (opLen T 22 (e 2)) m3 fun x5 m5 =>
 bnd (D 97 [x0, x3, x5] m5) fun x6 m6 =>
 bnd (extV x6 0 m6) fun x8 m8 =>
 bnd (extV x6 1 m8) fun x9 m9 =>
 some (ups e [(10, x0), (11, e 1), (12, e 2), (13, x3), (14, e 2), (15, x5), (16, x6), (9, x6), (17, x8), (18, x9), (7, x8), (8, x9)], m9))
def r176_2 : RR := fun D e m =>
 bp (opLen T 22 (e 8)) m fun x1 m1 =>
 some (ups e [(19, e 8), (20, x1), (6, x1)], m1)
noncomputable def c176 : RC := fun D => (sq (rg (r176_0 D)) (sq (rg (r176_1 D)) (sq (rg (r176_2 D)) rt)))
theorem e176 (a0 a1 a2 : V) (m : Mem) : DD 176 [a0, a1, a2] m = fin (c176 DD) (fun e m => some [e 6]) [a0, a1, a2] m :=
 eOf (f := Tryz.f176) (by kernel_rfl) (by kernel_rfl)
def r180_0 : RR := fun D e m =>
 some (ups e [(6, .int .i64 0)], m)
def r180_1 : RR := fun D e m =>
 bnd (D 181 [e 0, e 1] m) fun x2 m2 =>
 bnd (D 181 [e 0, e 2] m2) fun x5 m5 =>
 some (ups e [(9, e 0), (10, e 1), (11, x2), (12, e 0), (13, e 2), (14, x5), (1, x2), (2, x5)], m5)
def r180_2 : RR := fun D e m =>
 bnd (nilChk (e 0) m) fun x1 m1 =>
 bp (opFieldAddr T 107 x1 0) m1 fun x2 m2 =>
 bp (opFieldAddr T 24 x2 0) m2 fun x3 m3 =>
 bp (opLoad T 3 x3 m3) m3 fun x4 m4 =>
 bp (opBin T .eql 3 x4 (.int .i64 2)) m4 fun x5 m5 =>
 some (ups e [(15, e 0), (16, x1), (17, x2), (18, x3), (19, x4), (20, x5)], m5)
def r180_3 : RR := fun D e m =>
 bp (opBin T .xor 3 (e 1) (e 2)) m fun x2 m2 =>
 some (ups e [(21, e 1), (22, e 2), (23, x2), (6, x2)], m2)
def r180_4 : RR := fun D e m =>
 some (ups e [(7, .int .i64 0), (8, .int .i64 1)], m)
def r180_5 : RR := fun D e m =>
 bp (opBin T .gtr 3 (e 1) (.int .i64 0)) m fun x1 m1 =>
 bg x1 false (some ((e 2), m1)) m1 fun x3 m3 =>
 bg x1 false (lft (opBin T .gtr 3 x3 (.int .i64 0)) m3) m3 fun x4 m4 =>
 bnd (pickV x1 (.bool true) x4 m4) fun x5 m5 =>
 some (ups e [(24, e 1), (25, x1), (26, x1), (27, x3), (28, x4), (29, x5)], m5)
def r180_6 : RR := fun D e m =>
 bnd (nilChk (e 0) m) fun x3 m3 =>
 bp (opFieldAddr T 107 x3 0) m3 fun x4 m4 =>
 bp (opFieldAddr T 24 x4 0) m4 fun x5 m5 =>
 bp (opLoad T 3 x5 m5) m5 fun x6 m6 =>
 bp (opBin T .rem 3 (e 1) x6) m6 fun x7 m7 =>
 bnd (nilChk (e 0) m7) fun x10 m10 =>
 bp (opFieldAddr T 107 x10 0) m10 fun x11 m11 =>
 bp (opFieldAddr T 24 x11 0) m11 fun x12 m12 =>
 bp (opLoad T 3 x12 m12) m12 fun x13 m13 =>
 bp (opBin T .rem 3 (e 2) x13) m13 fun x14 m14 =>
 bp (opBin T .add 3 x7 x14) m14 fun x15 m15 =>
 bnd (nilChk (e 0) m15) fun x17 m17 =>
 bp (opFieldAddr T 107 x17 0) m17 fun x18 m18 =>
 bp (opFieldAddr T 24 x18 0) m18 fun x19 m19 =>
 bp (opLoad T 3 x19 m19) m19 fun x20 m20 =>
 bp (opBin T .rem 3 x15 x20) m20 fun x21 m21 =>
 bp (opBin T .mul 3 x21 (e 8)) m21 fun x23 m23 =>
 bp (opBin T .add 3 (e 7) x23) m23 fun x24 m24 =>
 some (ups e [(30, e 7), (31, e 1), (32, e 0), (33, x3), (34, x4), (35, x5), (36, x6), (37, x7), (38, e 2), (39, e 0), (40, x10), (41, x11), (42, x12), (43, x13), (44, x14), (45, x15), (46, e 0), (47, x17), (48, x18), (49, x19), (50, x20), (51, x21), (52, e 8), (53, x23), (54, x24), (7, x24)], m24)
def r180_7 : RR := fun D e m =>
 bnd (nilChk (e 0) m) fun x2 m2 =>
 bp (opFieldAddr T 107 x2 0) m2 fun x3 m3 =>
 bp (opFieldAddr T 24 x3 0) m3 fun x4 m4 =>
 bp (opLoad T 3 x4 m4) m4 fun x5 m5 =>
 bp (opBin T .mul 3 (e 8) x5) m5 fun x6 m6 =>
 some (ups e [(55, e 8), (56, e 0), (57, x2), (58, x3), (59, x4), (60, x5), (61, x6), (8, x6)], m6)
def r180_8 : RR := fun D e m =>
 bnd (nilChk (e 0) m) fun x2 m2 =>
 bp (opFieldAddr T 107 x2 0) m2 fun x3 m3 =>
 bp (opFieldAddr T 24 x3 0) m3 fun x4 m4 =>
 bp (opLoad T 3 x4 m4) m4 fun x5 m5 =>
 bp (opBin T .quo 3 (e 1) x5) m5 fun x6 m6 =>
 some (ups e [(62, e 1), (63, e 0), (64, x2), (65, x3), (66, x4), (67, x5), (68, x6), (1, x6)], m6)
def r180_9 : RR := fun D e m =>
 bnd (nilChk (e 0) m) fun x2 m2 =>
 bp (opFieldAddr T 107 x2 0) m2 fun x3 m3 =>
 bp (opFieldAddr T 24 x3 0) m3 fun x4 m4 =>
 bp (opLoad T 3 x4 m4) m4 fun x5 m5 =>
 bp (opBin T .quo 3 (e 2) x5) m5 fun x6 m6 =>
 some (ups e [(69, e 2), (70, e 0), (71, x2), (72, x3), (73, x4), (74, x5), (75, x6), (2, x6)], m6)
noncomputable def l180_10 : RC := fun D => (sq (sq (rg (r180_5 D)) (cnd (fun e => some (e 29)) sk (exi 0))) (blk 1 (sq (rg (r180_6 D)) (sq (rg (r180_7 D)) (sq (rg (r180_8 D)) (rg (r180_9 D)))))))
def r180_11 : RR := fun D e m =>
 some (ups e [(76, e 7), (6, e 7)], m)
noncomputable def c180 : RC := fun D => (sq (rg (r180_0 D)) (sq (rg (r180_1 D)) (sq (sq (rg (r180_2 D)) (cnd (fun e => some (e 20)) (sq (rg (r180_3 D)) rt) sk)) (sq (rg (r180_4 D)) (sq (blk 0 (loopD (l180_10 D))) (sq (rg (r180_11 D)) rt))))))
theorem e180 (a0 a1 a2 : V) (m : Mem) : DD 180 [a0, a1, a2] m = fin (c180 DD) (fun e m => some [e 6]) [a0, a1, a2] m :=
 eOf (f := Tryz.f180) (by kernel_rfl) (by kernel_rfl)
def r181_0 : RR := fun D e m =>
 some (ups e [(4, .int .i64 0)], m)
def r181_1 : RR := fun D e m =>
 bnd (D 48 [e 0, e 1] m) fun x2 m2 =>
 some (ups e [(5, e 0), (6, e 1), (7, x2)], m2)
def r181_2 : RR := fun D e m =>
 some (ups e [(8, e 1), (4, e 1)], m)
def r181_3 : RR := fun D e m =>
 some (ups e [(4, .int .i64 0)], m)
noncomputable def c181 : RC := fun D => (sq (rg (r181_0 D)) (sq (sq (rg (r181_1 D)) (cnd (fun e => some (e 7)) (sq (rg (r181_2 D)) rt) sk)) (sq (rg (r181_3 D)) rt)))
theorem e181 (a0 a1 : V) (m : Mem) : DD 181 [a0, a1] m = fin (c181 DD) (fun e m => some [e 4]) [a0, a1] m :=
 eOf (f := Tryz.f181) (by kernel_rfl) (by kernel_rfl)
def r182_0 : RR := fun D e m =>
 some (ups e [(4, .bool false)], m)
def r182_1 : RR := fun D e m =>
 bnd (nilChk (e 0) m) fun x1 m1 =>
 bp (opFieldAddr T 195 x1 1) m1 fun x2 m2 =>
 bp (opLoad T 25 x2 m2) m2 fun x3 m3 =>
 bp (opLen T 25 x3) m3 fun x4 m4 =>
 some (ups e [(13, e 0), (14, x1), (15, x2), (16, x3), (17, x4), (18, .int .i64 0)], m4)
def r182_2 : RR := fun D e m =>
 bp (opBin T .lss 3 (e 18) (e 17)) m fun x0 m0 =>
 some (ups e [(19, x0)], m0)
def r182_3 : RR := fun D e m =>
 bp (opIndexAddr T 25 (e 16) (e 18)) m fun x1 m1 =>
 bp (opLoad T 22 x1 m1) m1 fun x2 m2 =>
 some (ups e [(20, e 18), (21, x1), (22, x2), (5, e 18), (6, x2)], m2)
def r182_4 : RR := fun D e m =>
 bnd (nilChk (e 0) m) fun x2 m2 =>
 bp (opFieldAddr T 195 x2 2) m2 fun x3 m3 =>
 bp (opLoad T 22 x3 m3) m3 fun x4 m4 =>
 bp (opIndexAddr T 22 x4 (e 5)) m4 fun x6 m6 =>
 bp (opLoad T 3 x6 m6) m6 fun x7 m7 =>
 bp (opIndexAddr T 22 (e 1) x7) m7 fun x8 m8 =>
 bp (opLoad T 3 x8 m8) m8 fun x9 m9 =>
 some (ups e [(23, e 1), (24, e 0), (25, x2), (26, x3), (27, x4), (28, e 5), (29, x6), (30, x7), (31, x8), (32, x9), (7, x9)], m9)
def r182_5 : RR := fun D e m =>
 bp (opBin T .neq 3 (e 7) (.int .i64 0)) m fun x1 m1 =>
 some (ups e [(33, e 7), (34, x1)], m1)
def r182_6 : RR := fun D e m =>
 bp (opLen T 22 (e 6)) m fun x1 m1 =>
 some (ups e [(35, e 6), (36, x1), (37, .int .i64 0)], m1)
def r182_7 : RR := fun D e m =>
 bp (opBin T .lss 3 (e 37) (e 36)) m fun x0 m0 =>
 some (ups e [(38, x0)], m0)
def r182_8 : RR := fun D e m =>
 bp (opIndexAddr T 22 (e 35) (e 37)) m fun x1 m1 =>
 bp (opLoad T 3 x1 m1) m1 fun x2 m2 =>
 some (ups e [(39, e 37), (40, x1), (41, x2), (8, e 37), (9, x2)], m2)
noncomputable def r182_9 : RR := fun D e m =>
 bnd (nilChk (e 0) m) fun x3 m3 =>
 bp (opFieldAddr T 195 x3 0) m3 fun x4 m4 =>
 bp (opLoad T 76 x4 m4) m4 fun x5 m5 =>
 bp (opIndexAddr T 22 (e 1) (e 8)) m5 fun x8 m8 =>
 bp (opLoad T 3 x8 m8) m8 fun x9 m9 =>
 bnd (nilChk (e 0) m9) fun x11 m11 =>
 bp (opFieldAddr T 195 x11 0) m11 fun x12 m12 =>
 bp (opLoad T 76 x12 m12) m12 fun x13 m13 =>
 bnd (D 166 [x13, e 7, e 9] m13) fun x16 m16 => chkd m13 m16 (
 bnd (D 188 [x5, x9, x16] m16) fun x17 m17 =>
 bp (opIndexAddr T 22 (e 1) (e 8)) m17 fun x18 m18 =>
 bnd ((opStore T 3 x18 x17 m18).map (V.undef, ·)) fun x19 m19 =>
 some (ups e [(42, e 1), (43, e 8), (44, e 0), (45, x3), (46, x4), (47, x5), (48, e 1), (49, e 8), (50, x8), (51, x9), (52, e 0), (53, x11), (54, x12), (55, x13), (56, e 7), (57, e 9), (58, x16), (59, x17), (60, x18)], m19))
def r182_10 : RR := fun D e m =>
 bp (opBin T .add 3 (e 37) (.int .i64 1)) m fun x0 m0 =>
 some (ups e [(61, x0), (37, x0)], m0)
noncomputable def l182_11 : RC := fun D => (sq (rg (r182_7 D)) (sq (cnd (fun e => some (e 38)) sk (exi 2)) (sq (blk 3 (sq (rg (r182_8 D)) (rg (r182_9 D)))) (rg (r182_10 D)))))
def r182_12 : RR := fun D e m =>
 bp (opBin T .add 3 (e 18) (.int .i64 1)) m fun x0 m0 =>
 some (ups e [(62, x0), (18, x0)], m0)
noncomputable def l182_13 : RC := fun D => (sq (rg (r182_2 D)) (sq (cnd (fun e => some (e 19)) sk (exi 0)) (sq (blk 1 (sq (rg (r182_3 D)) (sq (rg (r182_4 D)) (sq (rg (r182_5 D)) (cnd (fun e => some (e 34)) (sq (rg (r182_6 D)) (blk 2 (loopD (l182_11 D)))) sk))))) (rg (r182_12 D)))))
def r182_14 : RR := fun D e m =>
 bnd (D 80 [e 1, (.fn 189 [] [])] m) fun x1 m1 =>
 some (ups e [(63, e 1), (64, x1), (10, x1)], m1)
def r182_15 : RR := fun D e m =>
 bp (opBin T .lss 3 (e 10) (.int .i64 0)) m fun x1 m1 =>
 some (ups e [(65, e 10), (66, x1)], m1)
def r182_16 : RR := fun D e m =>
 some (ups e [(4, .bool false)], m)
def r182_17 : RR := fun D e m =>
 bnd (nilChk (e 0) m) fun x1 m1 =>
 bp (opFieldAddr T 195 x1 0) m1 fun x2 m2 =>
 bp (opLoad T 76 x2 m2) m2 fun x3 m3 =>
 bp (opIndexAddr T 22 (e 1) (e 10)) m3 fun x6 m6 =>
 bp (opLoad T 3 x6 m6) m6 fun x7 m7 =>
 bnd (D 167 [x3, x7] m7) fun x8 m8 =>
 bnd (extV x8 0 m8) fun x10 m10 =>
 bnd (extV x8 1 m10) fun x11 m11 =>
 some (ups e [(68, e 0), (69, x1), (70, x2), (71, x3), (72, e 1), (73, e 10), (74, x6), (75, x7), (76, x8), (67, x8), (77, x10), (78, x11), (11, x10), (12, x11)], m11)
noncomputable def r182_18 : RR := fun D e m =>
 bnd (nilChk (e 0) m) fun x2 m2 =>
 bp (opFieldAddr T 195 x2 1) m2 fun x3 m3 =>
 bp (opLoad T 25 x3 m3) m3 fun x4 m4 =>
 bnd (nilChk (e 0) m4) fun x6 m6 =>
 bp (opFieldAddr T 195 x6 0) m6 fun x7 m7 =>
 bp (opLoad T 76 x7 m7) m7 fun x8 m8 =>
 bnd (D 169 [x8, e 11, e 1] m8) fun x11 m11 => chkd m8 m11 (
 bnd (opBuildSlice T 25 1 [(0, x11)] m11) fun x12 m12 =>
 bnd (opAppend T 25 25 x4 x12 m12) fun x13 m13 =>
 bnd (nilChk (e 0) m13) fun x14 m14 =>
 bp (opFieldAddr T 195 x14 1) m14 fun x15 m15 =>
 bnd ((opStore T 25 x15 x13 m15).map (V.undef, ·)) fun x16 m16 =>
 some (ups e [(79, e 0), (80, e 0), (81, x2), (82, x3), (83, x4), (84, e 0), (85, x6), (86, x7), (87, x8), (88, e 11), (89, e 1), (90, x11), (91, x12), (92, x13), (93, x14), (94, x15)], m16))
def r182_19 : RR := fun D e m =>
 bnd (nilChk (e 0) m) fun x2 m2 =>
 bp (opFieldAddr T 195 x2 2) m2 fun x3 m3 =>
 bp (opLoad T 22 x3 m3) m3 fun x4 m4 =>
 bnd (opBuildSlice T 22 1 [(0, e 10)] m4) fun x6 m6 =>
 bnd (opAppend T 22 22 x4 x6 m6) fun x7 m7 =>
 bnd (nilChk (e 0) m7) fun x8 m8 =>
 bp (opFieldAddr T 195 x8 2) m8 fun x9 m9 =>
 bnd ((opStore T 22 x9 x7 m9).map (V.undef, ·)) fun x10 m10 =>
 some (ups e [(95, e 0), (96, e 0), (97, x2), (98, x3), (99, x4), (100, e 10), (101, x6), (102, x7), (103, x8), (104, x9)], m10)
def r182_20 : RR := fun D e m =>
 some (ups e [(4, .bool true)], m)
noncomputable def c182 : RC := fun D => (sq (rg (r182_0 D)) (sq (sq (rg (r182_1 D)) (blk 0 (loopD (l182_13 D)))) (sq (rg (r182_14 D)) (sq (sq (rg (r182_15 D)) (cnd (fun e => some (e 66)) (sq (rg (r182_16 D)) rt) sk)) (sq (rg (r182_17 D)) (sq (rg (r182_18 D)) (sq (rg (r182_19 D)) (sq (rg (r182_20 D)) rt))))))))
theorem e182 (a0 a1 : V) (m : Mem) : DD 182 [a0, a1] m = fin (c182 DD) (fun e m => some [e 4]) [a0, a1] m :=
 eOf (f := Tryz.f182) (by kernel_rfl) (by kernel_rfl)
def r183_0 : RR := fun D e m =>
 some (ups e [(4, .nils)], m)
def r183_1 : RR := fun D e m =>
 bnd (nilChk (e 0) m) fun x1 m1 =>
 bp (opFieldAddr T 157 x1 1) m1 fun x2 m2 =>
 bp (opFieldAddr T 27 x2 2) m2 fun x3 m3 =>
 bp (opLoad T 25 x3 m3) m3 fun x4 m4 =>
 bp (opLen T 25 x4) m4 fun x5 m5 =>
 bnd (opMakeSlice T 22 x5 x5 m5) fun x6 m6 =>
 some (ups e [(8, e 0), (9, x1), (10, x2), (11, x3), (12, x4), (13, x5), (14, x6), (5, x6)], m6)
def r183_2 : RR := fun D e m =>
 bnd (nilChk (e 0) m) fun x1 m1 =>
 bp (opFieldAddr T 157 x1 1) m1 fun x2 m2 =>
 bp (opFieldAddr T 27 x2 2) m2 fun x3 m3 =>
 bp (opLoad T 25 x3 m3) m3 fun x4 m4 =>
 bp (opLen T 25 x4) m4 fun x5 m5 =>
 some (ups e [(15, e 0), (16, x1), (17, x2), (18, x3), (19, x4), (20, x5), (21, .int .i64 0)], m5)
def r183_3 : RR := fun D e m =>
 bp (opBin T .lss 3 (e 21) (e 20)) m fun x0 m0 =>
 some (ups e [(22, x0)], m0)
def r183_4 : RR := fun D e m =>
 bp (opIndexAddr T 25 (e 19) (e 21)) m fun x1 m1 =>
 bp (opLoad T 22 x1 m1) m1 fun x2 m2 =>
 some (ups e [(23, e 21), (24, x1), (25, x2), (6, e 21), (7, x2)], m2)
def r183_5 : RR := fun D e m =>
 bp (opIndexAddr T 22 (e 7) (e 1)) m fun x4 m4 =>
 bp (opLoad T 3 x4 m4) m4 fun x5 m5 =>
 bp (opIndexAddr T 22 (e 5) (e 6)) m5 fun x6 m6 =>
 bnd ((opStore T 3 x6 x5 m6).map (V.undef, ·)) fun x7 m7 =>
 some (ups e [(26, e 5), (27, e 6), (28, e 7), (29, e 1), (30, x4), (31, x5), (32, x6)], m7)
def r183_6 : RR := fun D e m =>
 bp (opBin T .add 3 (e 21) (.int .i64 1)) m fun x0 m0 =>
 some (ups e [(33, x0), (21, x0)], m0)
noncomputable def l183_7 : RC := fun D => (sq (rg (r183_3 D)) (sq (cnd (fun e => some (e 22)) sk (exi 0)) (sq (blk 1 (sq (rg (r183_4 D)) (rg (r183_5 D)))) (rg (r183_6 D)))))
def r183_8 : RR := fun D e m =>
 some (ups e [(34, e 5), (4, e 5)], m)
noncomputable def c183 : RC := fun D => (sq (rg (r183_0 D)) (sq (rg (r183_1 D)) (sq (sq (rg (r183_2 D)) (blk 0 (loopD (l183_7 D)))) (sq (rg (r183_8 D)) rt))))
theorem e183 (a0 a1 : V) (m : Mem) : DD 183 [a0, a1] m = fin (c183 DD) (fun e m => some [e 4]) [a0, a1] m :=
 eOf (f := Tryz.f183) (by kernel_rfl) (by kernel_rfl)
def r187_0 : RR := fun D e m =>
 some (ups e [(4, .nils)], m)
def r187_1 : RR := fun D e m =>
 some (ups e [(5, .nils)], m)
def r187_2 : RR := fun D e m =>
 some (ups e [(6, .int .i64 0)], m)
def r187_3 : RR := fun D e m =>
 bp (opLen T 25 (e 0)) m fun x2 m2 =>
 bp (opBin T .lss 3 (e 6) x2) m2 fun x3 m3 =>
 some (ups e [(7, e 6), (8, e 0), (9, x2), (10, x3)], m3)
def r187_4 : RR := fun D e m =>
 bp (opIndexAddr T 25 (e 0) (e 6)) m fun x3 m3 =>
 bp (opLoad T 22 x3 m3) m3 fun x4 m4 =>
 bnd (D 85 [x4, e 1] m4) fun x6 m6 =>
 bnd (opBuildSlice T 25 1 [(0, x6)] m6) fun x7 m7 =>
 bnd (opAppend T 25 25 (e 5) x7 m7) fun x8 m8 =>
 some (ups e [(13, e 5), (14, e 0), (15, e 6), (16, x3), (17, x4), (18, e 1), (19, x6), (20, x7), (21, x8), (5, x8)], m8)
def r187_5 : RR := fun D e m =>
 bp (opBin T .add 3 (e 6) (.int .i64 1)) m fun x1 m1 =>
 some (ups e [(11, e 6), (12, x1), (6, x1)], m1)
noncomputable def l187_6 : RC := fun D => (sq (sq (rg (r187_3 D)) (cnd (fun e => some (e 10)) sk (exi 0))) (sq (blk 1 (rg (r187_4 D))) (rg (r187_5 D))))
def r187_7 : RR := fun D e m =>
 some (ups e [(22, e 5), (4, e 5)], m)
noncomputable def c187 : RC := fun D => (sq (rg (r187_0 D)) (sq (rg (r187_1 D)) (sq (sq (rg (r187_2 D)) (blk 0 (loopD (l187_6 D)))) (sq (rg (r187_7 D)) rt))))
theorem e187 (a0 a1 : V) (m : Mem) : DD 187 [a0, a1] m = fin (c187 DD) (fun e m => some [e 4]) [a0, a1] m :=
 eOf (f := Tryz.f187) (by kernel_rfl) (by kernel_rfl)
def r188_0 : RR := fun D e m =>
 some (ups e [(6, .int .i64 0)], m)
def r188_1 : RR := fun D e m =>
 bnd (D 165 [e 0, e 2] m) fun x4 m4 =>
 bnd (D 180 [e 0, e 1, x4] m4) fun x5 m5 =>
 some (ups e [(7, e 0), (8, e 1), (9, e 0), (10, e 2), (11, x4), (12, x5), (6, x5)], m5)
noncomputable def c188 : RC := fun D => (sq (rg (r188_0 D)) (sq (rg (r188_1 D)) rt))
theorem e188 (a0 a1 a2 : V) (m : Mem) : DD 188 [a0, a1, a2] m = fin (c188 DD) (fun e m => some [e 6]) [a0, a1, a2] m :=
 eOf (f := Tryz.f188) (by kernel_rfl) (by kernel_rfl)
def r189_0 : RR := fun D e m =>
 some (ups e [(2, .bool false)], m)
def r189_1 : RR := fun D e m =>
 bp (opBin T .neq 3 (e 0) (.int .i64 0)) m fun x1 m1 =>
 some (ups e [(3, e 0), (4, x1), (2, x1)], m1)
noncomputable def c189 : RC := fun D => (sq (rg (r189_0 D)) (sq (rg (r189_1 D)) rt))
theorem e189 (a0 : V) (m : Mem) : DD 189 [a0] m = fin (c189 DD) (fun e m => some [e 2]) [a0] m :=
 eOf (f := Tryz.f189) (by kernel_rfl) (by kernel_rfl)
def r41_0 : RR := fun D e m =>
 bnd (opBox (e 0) m) fun x0 m0 =>
 some (ups e [(2, x0), (4, .int .i64 0)], m0)
def r41_1 : RR := fun D e m =>
 some (ups e [(5, .int .i64 0)], m)
def r41_2 : RR := fun D e m =>
 bp (opLen T 22 (e 1)) m fun x2 m2 =>
 bp (opBin T .lss 3 (e 5) x2) m2 fun x3 m3 =>
 some (ups e [(6, e 5), (7, e 1), (8, x2), (9, x3)], m3)
def r41_3 : RR := fun D e m =>
 bp (opLoad T 24 (e 2) m) m fun x0 m0 =>
 bp (opIndexAddr T 22 (e 1) (e 5)) m0 fun x3 m3 =>
 bp (opLoad T 3 x3 m3) m3 fun x4 m4 =>
 bnd (D 74 [x0, x4] m4) fun x5 m5 =>
 bp (opUn .not x5) m5 fun x6 m6 =>
 some (ups e [(12, x0), (13, e 1), (14, e 5), (15, x3), (16, x4), (17, x5), (18, x6)], m6)
def r41_4 : RR := fun D e m =>
 some (ups e [(4, .int .i64 2)], m)
def r41_5 : RR := fun D e m =>
 bp (opBin T .add 3 (e 5) (.int .i64 1)) m fun x1 m1 =>
 some (ups e [(10, e 5), (11, x1), (5, x1)], m1)
noncomputable def l41_6 : RC := fun D => (sq (sq (rg (r41_2 D)) (cnd (fun e => some (e 9)) sk (exi 0))) (sq (blk 1 (sq (rg (r41_3 D)) (cnd (fun e => some (e 18)) (sq (rg (r41_4 D)) rt) sk))) (rg (r41_5 D))))
def r41_7 : RR := fun D e m =>
 some (ups e [(4, .int .i64 0)], m)
noncomputable def c41 : RC := fun D => (sq (rg (r41_0 D)) (sq (sq (rg (r41_1 D)) (blk 0 (loopD (l41_6 D)))) (sq (rg (r41_7 D)) rt)))
theorem e41 (a0 a1 : V) (m : Mem) : DD 41 [a0, a1] m = fin (c41 DD) (fun e m => some [e 4]) [a0, a1] m :=
 eOf (f := Tryz.f41) (by kernel_rfl) (by kernel_rfl)
def r4_0 : RR := fun D e m =>
 bnd (opBox (e 0) m) fun x0 m0 =>
 some (ups e [(3, x0), (6, .bool false)], m0)
def r4_1 : RR := fun D e m =>
 bp (opLoad T 31 (e 3) m) m fun x0 m0 =>
 bnd (D 12 [x0] m0) fun x1 m1 =>
 bp (opUn .not x1) m1 fun x2 m2 =>
 some (ups e [(14, x0), (15, x1), (16, x2)], m2)
def r4_2 : RR := fun D e m =>
 bnd (D 9 [] m) fun x0 m0 =>
 some (ups e [(17, x0), (6, x0)], m0)
def r4_3 : RR := fun D e m =>
 bp (opLoad T 31 (e 3) m) m fun x0 m0 =>
 bnd (D 13 [x0, e 1, e 2] m0) fun x3 m3 =>
 bnd (extV x3 0 m3) fun x5 m5 =>
 bnd (extV x3 1 m5) fun x6 m6 =>
 some (ups e [(19, x0), (20, e 1), (21, e 2), (22, x3), (18, x3), (23, x5), (24, x6), (7, x5), (8, x6)], m6)
def r4_4 : RR := fun D e m =>
 bp (opLoad T 31 (e 3) m) m fun x0 m0 =>
 bnd (D 14 [x0, e 1, e 2] m0) fun x3 m3 =>
 bnd (extV x3 0 m3) fun x5 m5 =>
 bnd (extV x3 1 m5) fun x6 m6 =>
 some (ups e [(26, x0), (27, e 1), (28, e 2), (29, x3), (25, x3), (30, x5), (31, x6), (9, x5), (10, x6)], m6)
def r4_5 : RR := fun D e m =>
 bp (opBin T .neq 3 (e 7) (e 9)) m fun x2 m2 =>
 bg x2 false (some ((e 8), m2)) m2 fun x4 m4 =>
 bg x2 false (some ((e 10), m4)) m4 fun x5 m5 =>
 bg x2 false (lft (opBin T .neq 33 x4 x5) m5) m5 fun x6 m6 =>
 bnd (pickV x2 (.bool true) x6 m6) fun x7 m7 =>
 bg x7 false (D 9 [] m7) m7 fun x9 m9 =>
 bg x7 false (lft (opUn .not x9) m9) m9 fun x10 m10 =>
 bnd (pickV x7 (.bool true) x10 m10) fun x11 m11 =>
 some (ups e [(32, e 7), (33, e 9), (34, x2), (35, x2), (36, x4), (37, x5), (38, x6), (39, x7), (40, x7), (41, x9), (42, x10), (43, x11)], m11)
def r4_6 : RR := fun D e m =>
 some (ups e [(6, .bool false)], m)
def r4_7 : RR := fun D e m =>
 bp (opBin T .neq 33 (e 10) (.int .i64 0)) m fun x1 m1 =>
 some (ups e [(44, e 10), (45, x1)], m1)
def r4_8 : RR := fun D e m =>
 some (ups e [(6, .bool true)], m)
def r4_9 : RR := fun D e m =>
 some (ups e [(11, .int .i64 0)], m)
def r4_10 : RR := fun D e m =>
 bp (opFieldAddr T 31 (e 3) 0) m fun x1 m1 =>
 bp (opFieldAddr T 27 x1 1) m1 fun x2 m2 =>
 bp (opLoad T 3 x2 m2) m2 fun x3 m3 =>
 bp (opBin T .lss 3 (e 11) x3) m3 fun x4 m4 =>
 some (ups e [(46, e 11), (47, x1), (48, x2), (49, x3), (50, x4)], m4)
def r4_11 : RR := fun D e m =>
 bp (opLoad T 31 (e 3) m) m fun x0 m0 =>
 bnd (D 13 [x0, e 1, e 11] m0) fun x3 m3 =>
 bnd (extV x3 0 m3) fun x5 m5 =>
 bnd (extV x3 1 m5) fun x6 m6 =>
 some (ups e [(54, x0), (55, e 1), (56, e 11), (57, x3), (53, x3), (58, x5), (59, x6), (12, x5), (13, x6)], m6)
def r4_12 : RR := fun D e m =>
 bp (opBin T .neq 33 (e 13) (.int .i64 0)) m fun x1 m1 =>
 bg x1 false (some ((e 12), m1)) m1 fun x3 m3 =>
 bg x1 false (some ((e 7), m3)) m3 fun x4 m4 =>
 bg x1 false (lft (opBin T .eql 3 x3 x4) m4) m4 fun x5 m5 =>
 bg x1 false (some ((e 11), m5)) m5 fun x6 m6 =>
 bg x1 false (some ((e 2), m6)) m6 fun x7 m7 =>
 bg x1 false (lft (opBin T .eql 3 x6 x7) m7) m7 fun x8 m8 =>
 bg x1 false (lft (opBin T .neq 4 x5 x8) m8) m8 fun x9 m9 =>
 bnd (pickV x1 (.bool true) x9 m9) fun x10 m10 =>
 some (ups e [(60, e 13), (61, x1), (62, x1), (63, x3), (64, x4), (65, x5), (66, x6), (67, x7), (68, x8), (69, x9), (70, x10)], m10)
def r4_13 : RR := fun D e m =>
 some (ups e [(6, .bool false)], m)
def r4_14 : RR := fun D e m =>
 bp (opBin T .add 3 (e 11) (.int .i64 1)) m fun x1 m1 =>
 some (ups e [(51, e 11), (52, x1), (11, x1)], m1)
noncomputable def l4_15 : RC := fun D => (sq (sq (rg (r4_10 D)) (cnd (fun e => some (e 50)) sk (exi 0))) (sq (blk 1 (sq (rg (r4_11 D)) (sq (rg (r4_12 D)) (cnd (fun e => some (e 70)) (sq (rg (r4_13 D)) rt) sk)))) (rg (r4_14 D))))
def r4_16 : RR := fun D e m =>
 some (ups e [(6, .bool true)], m)
noncomputable def c4 : RC := fun D => (sq (rg (r4_0 D)) (sq (sq (rg (r4_1 D)) (cnd (fun e => some (e 16)) (sq (rg (r4_2 D)) rt) sk)) (sq (rg (r4_3 D)) (sq (rg (r4_4 D)) (sq (sq (rg (r4_5 D)) (cnd (fun e => some (e 43)) (sq (rg (r4_6 D)) rt) sk)) (sq (sq (rg (r4_7 D)) (cnd (fun e => some (e 45)) (sq (rg (r4_8 D)) rt) sk)) (sq (sq (rg (r4_9 D)) (blk 0 (loopD (l4_15 D)))) (sq (rg (r4_16 D)) rt))))))))
theorem e4 (a0 a1 a2 : V) (m : Mem) : DD 4 [a0, a1, a2] m = fin (c4 DD) (fun e m => some [e 6]) [a0, a1, a2] m :=
 eOf (f := Tryz.f4) (by kernel_rfl) (by kernel_rfl)
def r12_0 : RR := fun D e m =>
 bnd (opBox (e 0) m) fun x0 m0 =>
 some (ups e [(1, x0), (2, .bool false)], m0)
def r12_1 : RR := fun D e m =>
 bp (opFieldAddr T 31 (e 1) 2) m fun x0 m0 =>
 bp (opFieldAddr T 29 x0 0) m0 fun x1 m1 =>
 bp (opLoad T 25 x1 m1) m1 fun x2 m2 =>
 bp (opLen T 25 x2) m2 fun x3 m3 =>
 bp (opBin T .leq 3 x3 (.int .i64 300)) m3 fun x4 m4 =>
 bg x4 true (lft (opFieldAddr T 31 (e 1) 0) m4) m4 fun x6 m6 =>
 bg x4 true (lft (opFieldAddr T 27 x6 1) m6) m6 fun x7 m7 =>
 bg x4 true (lft (opLoad T 3 x7 m7) m7) m7 fun x8 m8 =>
 bg x4 true (lft (opBin T .leq 3 x8 (.int .i64 8)) m8) m8 fun x9 m9 =>
 bnd (pickV x4 x9 (.bool false) m9) fun x10 m10 =>
 some (ups e [(3, x0), (4, x1), (5, x2), (6, x3), (7, x4), (8, x4), (9, x6), (10, x7), (11, x8), (12, x9), (13, x10), (2, x10)], m10)
noncomputable def c12 : RC := fun D => (sq (rg (r12_0 D)) (sq (rg (r12_1 D)) rt))
theorem e12 (a0 : V) (m : Mem) : DD 12 [a0] m = fin (c12 DD) (fun e m => some [e 2]) [a0] m :=
 eOf (f := Tryz.f12) (by kernel_rfl) (by kernel_rfl)
def r13_0 : RR := fun D e m =>
 bnd (opBox (e 0) m) fun x0 m0 =>
 some (ups e [(3, x0), (6, .int .i64 0), (7, .int .i64 0)], m0)
def r13_1 : RR := fun D e m =>
 bp (opLoad T 31 (e 3) m) m fun x0 m0 =>
 bnd (D 10 [x0] m0) fun x1 m1 =>
 some (ups e [(9, x0), (10, x1), (8, x1)], m1)
def r13_2 : RR := fun D e m =>
 bp (opBin T .neq 33 (e 8) (.int .i64 0)) m fun x1 m1 =>
 some (ups e [(11, e 8), (12, x1)], m1)
def r13_3 : RR := fun D e m =>
 some (ups e [(13, e 8), (6, .int .i64 0), (7, e 8)], m)
def r13_4 : RR := fun D e m =>
 bp (opBin T .lss 3 (e 1) (.int .i64 0)) m fun x1 m1 =>
 bg x1 false (some ((e 2), m1)) m1 fun x3 m3 =>
 bg x1 false (lft (opBin T .lss 3 x3 (.int .i64 0)) m3) m3 fun x4 m4 =>
 bnd (pickV x1 (.bool true) x4 m4) fun x5 m5 =>
 bg x5 false (some ((e 2), m5)) m5 fun x7 m7 =>
 bg x5 false (lft (opFieldAddr T 31 (e 3) 0) m7) m7 fun x8 m8 =>
 bg x5 false (lft (opFieldAddr T 27 x8 1) m8) m8 fun x9 m9 =>
 bg x5 false (lft (opLoad T 3 x9 m9) m9) m9 fun x10 m10 =>
 bg x5 false (lft (opBin T .geq 3 x7 x10) m10) m10 fun x11 m11 =>
 bnd (pickV x5 (.bool true) x11 m11) fun x12 m12 =>
 some (ups e [(14, e 1), (15, x1), (16, x1), (17, x3), (18, x4), (19, x5), (20, x5), (21, x7), (22, x8), (23, x9), (24, x10), (25, x11), (26, x12)], m12)
def r13_5 : RR := fun D e m =>
 some (ups e [(6, .int .i64 0), (7, .int .i64 6)], m)
def r13_6 : RR := fun D e m =>
 bp (opLoad T 31 (e 3) m) m fun x0 m0 =>
 bnd (D 35 [x0] m0) fun x1 m1 =>
 bnd (D 34 [x1, e 1, e 2] m1) fun x4 m4 =>
 bp (opField T 65 x4 0) m4 fun x5 m5 =>
 some (ups e [(27, x0), (28, x1), (29, e 1), (30, e 2), (31, x4), (32, x5), (6, x5), (7, .int .i64 0)], m5)
noncomputable def c13 : RC := fun D => (sq (rg (r13_0 D)) (sq (sq (rg (r13_1 D)) (sq (rg (r13_2 D)) (cnd (fun e => some (e 12)) (sq (rg (r13_3 D)) rt) sk))) (sq (sq (rg (r13_4 D)) (cnd (fun e => some (e 26)) (sq (rg (r13_5 D)) rt) sk)) (sq (rg (r13_6 D)) rt))))
theorem e13 (a0 a1 a2 : V) (m : Mem) : DD 13 [a0, a1, a2] m = fin (c13 DD) (fun e m => some [e 6, e 7]) [a0, a1, a2] m :=
 eOf (f := Tryz.f13) (by kernel_rfl) (by kernel_rfl)
def r14_0 : RR := fun D e m =>
 bnd (opBox (e 0) m) fun x0 m0 =>
 some (ups e [(3, x0), (6, .int .i64 0), (7, .int .i64 0)], m0)
def r14_1 : RR := fun D e m =>
 bp (opLoad T 31 (e 3) m) m fun x0 m0 =>
 bnd (D 11 [x0] m0) fun x1 m1 =>
 some (ups e [(9, x0), (10, x1), (8, x1)], m1)
def r14_2 : RR := fun D e m =>
 bp (opBin T .neq 33 (e 8) (.int .i64 0)) m fun x1 m1 =>
 some (ups e [(11, e 8), (12, x1)], m1)
def r14_3 : RR := fun D e m =>
 some (ups e [(13, e 8), (6, .int .i64 0), (7, e 8)], m)
def r14_4 : RR := fun D e m =>
 bp (opBin T .lss 3 (e 1) (.int .i64 0)) m fun x1 m1 =>
 bg x1 false (some ((e 2), m1)) m1 fun x3 m3 =>
 bg x1 false (lft (opBin T .lss 3 x3 (.int .i64 0)) m3) m3 fun x4 m4 =>
 bnd (pickV x1 (.bool true) x4 m4) fun x5 m5 =>
 bg x5 false (some ((e 2), m5)) m5 fun x7 m7 =>
 bg x5 false (lft (opFieldAddr T 31 (e 3) 0) m7) m7 fun x8 m8 =>
 bg x5 false (lft (opFieldAddr T 27 x8 1) m8) m8 fun x9 m9 =>
 bg x5 false (lft (opLoad T 3 x9 m9) m9) m9 fun x10 m10 =>
 bg x5 false (lft (opBin T .geq 3 x7 x10) m10) m10 fun x11 m11 =>
 bnd (pickV x5 (.bool true) x11 m11) fun x12 m12 =>
 some (ups e [(14, e 1), (15, x1), (16, x1), (17, x3), (18, x4), (19, x5), (20, x5), (21, x7), (22, x8), (23, x9), (24, x10), (25, x11), (26, x12)], m12)
def r14_5 : RR := fun D e m =>
 some (ups e [(6, .int .i64 0), (7, .int .i64 6)], m)
def r14_6 : RR := fun D e m =>
 bp (opLoad T 31 (e 3) m) m fun x0 m0 =>
 bnd (D 36 [x0, e 1, e 2] m0) fun x3 m3 =>
 some (ups e [(27, x0), (28, e 1), (29, e 2), (30, x3), (6, x3), (7, .int .i64 0)], m3)
noncomputable def c14 : RC := fun D => (sq (rg (r14_0 D)) (sq (rg (r14_1 D)) (sq (sq (rg (r14_2 D)) (cnd (fun e => some (e 12)) (sq (rg (r14_3 D)) rt) sk)) (sq (sq (rg (r14_4 D)) (cnd (fun e => some (e 26)) (sq (rg (r14_5 D)) rt) sk)) (sq (rg (r14_6 D)) rt)))))
theorem e14 (a0 a1 a2 : V) (m : Mem) : DD 14 [a0, a1, a2] m = fin (c14 DD) (fun e m => some [e 6, e 7]) [a0, a1, a2] m :=
 eOf (f := Tryz.f14) (by kernel_rfl) (by kernel_rfl)
def r34_0 : RR := fun D e m =>
 bnd (opAlloc T 65 m) fun x0 m0 =>
 some (ups e [(6, x0)], m0)
def r34_1 : RR := fun D e m =>
 bp (opLen T 67 (e 0)) m fun x3 m3 =>
 bp (opBin T .rem 3 (e 1) x3) m3 fun x4 m4 =>
 bp (opBin T .add 3 x4 (e 2)) m4 fun x6 m6 =>
 bp (opLen T 67 (e 0)) m6 fun x8 m8 =>
 bp (opBin T .rem 3 x6 x8) m8 fun x9 m9 =>
 bp (opIndexAddr T 67 (e 0) x9) m9 fun x10 m10 =>
 bp (opLoad T 65 x10 m10) m10 fun x11 m11 =>
 bnd ((opStore T 65 (e 6) x11 m11).map (V.undef, ·)) fun x12 m12 =>
 some (ups e [(7, e 0), (8, e 1), (9, e 0), (10, x3), (11, x4), (12, e 2), (13, x6), (14, e 0), (15, x8), (16, x9), (17, x10), (18, x11)], m12)
noncomputable def c34 : RC := fun D => (sq (rg (r34_0 D)) (sq (rg (r34_1 D)) rt))
theorem e34 (a0 a1 a2 : V) (m : Mem) : DD 34 [a0, a1, a2] m = fin (c34 DD) (fun e m => resVs T e m Tryz.f34.results.toList) [a0, a1, a2] m :=
 eOf (f := Tryz.f34) (by kernel_rfl) (by kernel_rfl)
def r35_0 : RR := fun D e m =>
 bnd (opBox (e 0) m) fun x0 m0 =>
 some (ups e [(1, x0), (2, .nils)], m0)
def r35_1 : RR := fun D e m =>
 some (ups e [(3, .nils)], m)
def r35_2 : RR := fun D e m =>
 bp (opFieldAddr T 31 (e 1) 3) m fun x0 m0 =>
 bp (opLoad T 22 x0 m0) m0 fun x1 m1 =>
 bnd (D 66 [x1] m1) fun x2 m2 =>
 some (ups e [(8, x0), (9, x1), (10, x2), (11, .int .i64 0)], m2)
def r35_3 : RR := fun D e m =>
 bp (opBin T .lss 3 (e 11) (e 10)) m fun x0 m0 =>
 some (ups e [(12, x0)], m0)
def r35_4 : RR := fun D e m =>
 some (ups e [(13, e 11), (4, e 11)], m)
def r35_5 : RR := fun D e m =>
 some (ups e [(5, .int .i64 0)], m)
def r35_6 : RR := fun D e m =>
 bp (opFieldAddr T 31 (e 1) 3) m fun x0 m0 =>
 bp (opLoad T 22 x0 m0) m0 fun x1 m1 =>
 bp (opLen T 22 x1) m1 fun x2 m2 =>
 some (ups e [(14, x0), (15, x1), (16, x2), (17, .int .i64 0)], m2)
def r35_7 : RR := fun D e m =>
 bp (opBin T .lss 3 (e 17) (e 16)) m fun x0 m0 =>
 some (ups e [(18, x0)], m0)
def r35_8 : RR := fun D e m =>
 bp (opIndexAddr T 22 (e 15) (e 17)) m fun x1 m1 =>
 bp (opLoad T 3 x1 m1) m1 fun x2 m2 =>
 some (ups e [(19, e 17), (20, x1), (21, x2), (6, e 17), (7, x2)], m2)
def r35_9 : RR := fun D e m =>
 bp (opBin T .lss 3 (e 4) (e 7)) m fun x2 m2 =>
 some (ups e [(22, e 4), (23, e 7), (24, x2)], m2)
def r35_10 : RR := fun D e m =>
 bp (opBin T .add 3 (e 5) (e 4)) m fun x3 m3 =>
 bp (opBuild T 65 [(0, x3), (1, e 6)]) m3 fun x5 m5 =>
 bnd (opBuildSlice T 67 1 [(0, x5)] m5) fun x6 m6 =>
 bnd (opAppend T 67 67 (e 3) x6 m6) fun x7 m7 =>
 some (ups e [(25, e 3), (26, e 5), (27, e 4), (28, x3), (29, e 6), (30, x5), (31, x6), (32, x7), (3, x7)], m7)
def r35_11 : RR := fun D e m =>
 bp (opBin T .add 3 (e 5) (e 7)) m fun x2 m2 =>
 some (ups e [(33, e 5), (34, e 7), (35, x2), (5, x2)], m2)
def r35_12 : RR := fun D e m =>
 bp (opBin T .add 3 (e 17) (.int .i64 1)) m fun x0 m0 =>
 some (ups e [(36, x0), (17, x0)], m0)
noncomputable def l35_13 : RC := fun D => (sq (rg (r35_7 D)) (sq (cnd (fun e => some (e 18)) sk (exi 2)) (sq (blk 3 (sq (rg (r35_8 D)) (sq (sq (rg (r35_9 D)) (cnd (fun e => some (e 24)) (rg (r35_10 D)) sk)) (rg (r35_11 D))))) (rg (r35_12 D)))))
def r35_14 : RR := fun D e m =>
 bp (opBin T .add 3 (e 11) (.int .i64 1)) m fun x0 m0 =>
 some (ups e [(37, x0), (11, x0)], m0)
noncomputable def l35_15 : RC := fun D => (sq (rg (r35_3 D)) (sq (cnd (fun e => some (e 12)) sk (exi 0)) (sq (blk 1 (sq (rg (r35_4 D)) (sq (rg (r35_5 D)) (sq (rg (r35_6 D)) (blk 2 (loopD (l35_13 D))))))) (rg (r35_14 D)))))
def r35_16 : RR := fun D e m =>
 some (ups e [(38, e 3), (2, e 3)], m)
noncomputable def c35 : RC := fun D => (sq (rg (r35_0 D)) (sq (rg (r35_1 D)) (sq (sq (rg (r35_2 D)) (blk 0 (loopD (l35_15 D)))) (sq (rg (r35_16 D)) rt))))
theorem e35 (a0 : V) (m : Mem) : DD 35 [a0] m = fin (c35 DD) (fun e m => some [e 2]) [a0] m :=
 eOf (f := Tryz.f35) (by kernel_rfl) (by kernel_rfl)
def r36_0 : RR := fun D e m =>
 bnd (opBox (e 0) m) fun x0 m0 =>
 some (ups e [(3, x0), (6, .int .i64 0)], m0)
def r36_1 : RR := fun D e m =>
 bp (opLoad T 31 (e 3) m) m fun x0 m0 =>
 bnd (D 33 [x0] m0) fun x1 m1 =>
 some (ups e [(8, x0), (9, x1), (7, x1)], m1)
def r36_2 : RR := fun D e m =>
 bp (opLoad T 31 (e 3) m) m fun x0 m0 =>
 bnd (D 67 [x0] m0) fun x1 m1 =>
 bp (opBin T .rem 3 (e 1) (e 7)) m1 fun x4 m4 =>
 bp (opBin T .add 3 x4 (e 2)) m4 fun x6 m6 =>
 bp (opBin T .rem 3 x6 (e 7)) m6 fun x8 m8 =>
 bp (opIndexAddr T 22 x1 x8) m8 fun x9 m9 =>
 bp (opLoad T 3 x9 m9) m9 fun x10 m10 =>
 some (ups e [(10, x0), (11, x1), (12, e 1), (13, e 7), (14, x4), (15, e 2), (16, x6), (17, e 7), (18, x8), (19, x9), (20, x10), (6, x10)], m10)
noncomputable def c36 : RC := fun D => (sq (rg (r36_0 D)) (sq (rg (r36_1 D)) (sq (rg (r36_2 D)) rt)))
theorem e36 (a0 a1 a2 : V) (m : Mem) : DD 36 [a0, a1, a2] m = fin (c36 DD) (fun e m => some [e 6]) [a0, a1, a2] m :=
 eOf (f := Tryz.f36) (by kernel_rfl) (by kernel_rfl)
def r66_0 : RR := fun D e m =>
 some (ups e [(2, .int .i64 0)], m)
def r66_1 : RR := fun D e m =>
 bp (opLen T 22 (e 0)) m fun x1 m1 =>
 bp (opBin T .lss 3 x1 (.int .i64 1)) m1 fun x2 m2 =>
 some (ups e [(5, e 0), (6, x1), (7, x2)], m2)
def r66_2 : RR := fun D e m =>
 bnd none fun x0 m0 =>
 bnd none fun x1 m1 =>
 some (ups e [(8, x0)], m1)
def r66_3 : RR := fun D e m =>
 bp (opIndexAddr T 22 (e 0) (.int .i64 0)) m fun x1 m1 =>
 bp (opLoad T 3 x1 m1) m1 fun x2 m2 =>
 some (ups e [(9, e 0), (10, x1), (11, x2), (3, x2)], m2)
def r66_4 : RR := fun D e m =>
 some (ups e [(4, .int .i64 1)], m)
def r66_5 : RR := fun D e m =>
 bp (opLen T 22 (e 0)) m fun x2 m2 =>
 bp (opBin T .lss 3 (e 4) x2) m2 fun x3 m3 =>
 some (ups e [(12, e 4), (13, e 0), (14, x2), (15, x3)], m3)
def r66_6 : RR := fun D e m =>
 bp (opIndexAddr T 22 (e 0) (e 4)) m fun x3 m3 =>
 bp (opLoad T 3 x3 m3) m3 fun x4 m4 =>
 bp (opMax [e 3, x4]) m4 fun x5 m5 =>
 some (ups e [(18, e 3), (19, e 0), (20, e 4), (21, x3), (22, x4), (23, x5), (3, x5)], m5)
def r66_7 : RR := fun D e m =>
 bp (opBin T .add 3 (e 4) (.int .i64 1)) m fun x1 m1 =>
 some (ups e [(16, e 4), (17, x1), (4, x1)], m1)
noncomputable def l66_8 : RC := fun D => (sq (sq (rg (r66_5 D)) (cnd (fun e => some (e 15)) sk (exi 0))) (sq (blk 1 (rg (r66_6 D))) (rg (r66_7 D))))
def r66_9 : RR := fun D e m =>
 some (ups e [(24, e 3), (2, e 3)], m)
noncomputable def c66 : RC := fun D => (sq (rg (r66_0 D)) (sq (sq (rg (r66_1 D)) (cnd (fun e => some (e 7)) (rg (r66_2 D)) sk)) (sq (rg (r66_3 D)) (sq (sq (rg (r66_4 D)) (blk 0 (loopD (l66_8 D)))) (sq (rg (r66_9 D)) rt)))))
theorem e66 (a0 : V) (m : Mem) : DD 66 [a0] m = fin (c66 DD) (fun e m => some [e 2]) [a0] m :=
 eOf (f := Tryz.f66) (by kernel_rfl) (by kernel_rfl)
def r67_0 : RR := fun D e m =>
 bnd (opBox (e 0) m) fun x0 m0 =>
 some (ups e [(1, x0), (2, .nils)], m0)
def r67_1 : RR := fun D e m =>
 bnd (opBuildSlice T 22 0 [] m) fun x0 m0 =>
 some (ups e [(7, x0), (3, x0)], m0)
def r67_2 : RR := fun D e m =>
 some (ups e [(4, .int .i64 0)], m)
def r67_3 : RR := fun D e m =>
 bp (opLen T 22 (e 3)) m fun x1 m1 =>
 bp (opLoad T 31 (e 1) m1) m1 fun x2 m2 =>
 bnd (D 33 [x2] m2) fun x3 m3 =>
 bp (opBin T .lss 3 x1 x3) m3 fun x4 m4 =>
 some (ups e [(8, e 3), (9, x1), (10, x2), (11, x3), (12, x4)], m4)
def r67_4 : RR := fun D e m =>
 some (ups e [(5, .int .i64 0)], m)
def r67_5 : RR := fun D e m =>
 some (ups e [(6, .int .i64 0)], m)
def r67_6 : RR := fun D e m =>
 bp (opFieldAddr T 31 (e 1) 3) m fun x1 m1 =>
 bp (opLoad T 22 x1 m1) m1 fun x2 m2 =>
 bp (opLen T 22 x2) m2 fun x3 m3 =>
 bp (opBin T .lss 3 (e 6) x3) m3 fun x4 m4 =>
 some (ups e [(15, e 6), (16, x1), (17, x2), (18, x3), (19, x4)], m4)
def r67_7 : RR := fun D e m =>
 bp (opFieldAddr T 31 (e 1) 3) m fun x1 m1 =>
 bp (opLoad T 22 x1 m1) m1 fun x2 m2 =>
 bp (opIndexAddr T 22 x2 (e 6)) m2 fun x4 m4 =>
 bp (opLoad T 3 x4 m4) m4 fun x5 m5 =>
 bp (opBin T .lss 3 (e 4) x5) m5 fun x6 m6 =>
 some (ups e [(22, e 4), (23, x1), (24, x2), (25, e 6), (26, x4), (27, x5), (28, x6)], m6)
def r67_8 : RR := fun D e m =>
 bp (opBin T .add 3 (e 5) (e 4)) m fun x3 m3 =>
 bnd (opBuildSlice T 22 1 [(0, x3)] m3) fun x4 m4 =>
 bnd (opAppend T 22 22 (e 3) x4 m4) fun x5 m5 =>
 some (ups e [(29, e 3), (30, e 5), (31, e 4), (32, x3), (33, x4), (34, x5), (3, x5)], m5)
def r67_9 : RR := fun D e m =>
 bp (opFieldAddr T 31 (e 1) 3) m fun x1 m1 =>
 bp (opLoad T 22 x1 m1) m1 fun x2 m2 =>
 bp (opIndexAddr T 22 x2 (e 6)) m2 fun x4 m4 =>
 bp (opLoad T 3 x4 m4) m4 fun x5 m5 =>
 bp (opBin T .add 3 (e 5) x5) m5 fun x6 m6 =>
 some (ups e [(35, e 5), (36, x1), (37, x2), (38, e 6), (39, x4), (40, x5), (41, x6), (5, x6)], m6)
def r67_10 : RR := fun D e m =>
 bp (opBin T .add 3 (e 6) (.int .i64 1)) m fun x1 m1 =>
 some (ups e [(20, e 6), (21, x1), (6, x1)], m1)
noncomputable def l67_11 : RC := fun D => (sq (sq (rg (r67_6 D)) (cnd (fun e => some (e 19)) sk (exi 2))) (sq (blk 3 (sq (sq (rg (r67_7 D)) (cnd (fun e => some (e 28)) (rg (r67_8 D)) sk)) (rg (r67_9 D)))) (rg (r67_10 D))))
def r67_12 : RR := fun D e m =>
 bp (opBin T .add 3 (e 4) (.int .i64 1)) m fun x1 m1 =>
 some (ups e [(13, e 4), (14, x1), (4, x1)], m1)
noncomputable def l67_13 : RC := fun D => (sq (sq (rg (r67_3 D)) (cnd (fun e => some (e 12)) sk (exi 0))) (sq (blk 1 (sq (rg (r67_4 D)) (sq (rg (r67_5 D)) (blk 2 (loopD (l67_11 D)))))) (rg (r67_12 D))))
def r67_14 : RR := fun D e m =>
 some (ups e [(42, e 3), (2, e 3)], m)
noncomputable def c67 : RC := fun D => (sq (rg (r67_0 D)) (sq (rg (r67_1 D)) (sq (sq (rg (r67_2 D)) (blk 0 (loopD (l67_13 D)))) (sq (rg (r67_14 D)) rt))))
theorem e67 (a0 : V) (m : Mem) : DD 67 [a0] m = fin (c67 DD) (fun e m => some [e 2]) [a0] m :=
 eOf (f := Tryz.f67) (by kernel_rfl) (by kernel_rfl)
def r5_0 : RR := fun D e m =>
 bnd (opBox (e 0) m) fun x0 m0 =>
 some (ups e [(1, x0), (2, .bool false)], m0)
def r5_1 : RR := fun D e m =>
 bp (opLoad T 31 (e 1) m) m fun x0 m0 =>
 bnd (D 12 [x0] m0) fun x1 m1 =>
 bp (opUn .not x1) m1 fun x2 m2 =>
 some (ups e [(7, x0), (8, x1), (9, x2)], m2)
def r5_2 : RR := fun D e m =>
 bnd (D 9 [] m) fun x0 m0 =>
 some (ups e [(10, x0), (2, x0)], m0)
def r5_3 : RR := fun D e m =>
 bp (opLoad T 31 (e 1) m) m fun x0 m0 =>
 bnd (D 15 [x0] m0) fun x1 m1 =>
 bnd (extV x1 0 m1) fun x3 m3 =>
 bnd (extV x1 1 m3) fun x4 m4 =>
 some (ups e [(12, x0), (13, x1), (11, x1), (14, x3), (15, x4), (3, x3), (4, x4)], m4)
def r5_4 : RR := fun D e m =>
 bp (opLoad T 31 (e 1) m) m fun x0 m0 =>
 bnd (D 16 [x0] m0) fun x1 m1 =>
 bnd (extV x1 0 m1) fun x3 m3 =>
 bnd (extV x1 1 m3) fun x4 m4 =>
 some (ups e [(17, x0), (18, x1), (16, x1), (19, x3), (20, x4), (5, x3), (6, x4)], m4)
def r5_5 : RR := fun D e m =>
 bp (opBin T .eql 3 (e 3) (e 5)) m fun x2 m2 =>
 bg x2 true (some ((e 4), m2)) m2 fun x4 m4 =>
 bg x2 true (some ((e 6), m4)) m4 fun x5 m5 =>
 bg x2 true (lft (opBin T .eql 33 x4 x5) m5) m5 fun x6 m6 =>
 bnd (pickV x2 x6 (.bool false) m6) fun x7 m7 =>
 bg x7 true (D 9 [] m7) m7 fun x9 m9 =>
 bnd (pickV x7 x9 (.bool false) m9) fun x10 m10 =>
 some (ups e [(21, e 3), (22, e 5), (23, x2), (24, x2), (25, x4), (26, x5), (27, x6), (28, x7), (29, x7), (30, x9), (31, x10), (2, x10)], m10)
noncomputable def c5 : RC := fun D => (sq (rg (r5_0 D)) (sq (sq (rg (r5_1 D)) (cnd (fun e => some (e 9)) (sq (rg (r5_2 D)) rt) sk)) (sq (rg (r5_3 D)) (sq (rg (r5_4 D)) (sq (rg (r5_5 D)) rt)))))
theorem e5 (a0 : V) (m : Mem) : DD 5 [a0] m = fin (c5 DD) (fun e m => some [e 2]) [a0] m :=
 eOf (f := Tryz.f5) (by kernel_rfl) (by kernel_rfl)
def r15_0 : RR := fun D e m =>
 bnd (opBox (e 0) m) fun x0 m0 =>
 some (ups e [(1, x0), (2, .int .i64 0), (3, .int .i64 0)], m0)
def r15_1 : RR := fun D e m =>
 bp (opLoad T 31 (e 1) m) m fun x0 m0 =>
 bnd (D 10 [x0] m0) fun x1 m1 =>
 some (ups e [(13, x0), (14, x1), (4, x1)], m1)
def r15_2 : RR := fun D e m =>
 bp (opBin T .neq 33 (e 4) (.int .i64 0)) m fun x1 m1 =>
 some (ups e [(15, e 4), (16, x1)], m1)
def r15_3 : RR := fun D e m =>
 some (ups e [(17, e 4), (2, .int .i64 0), (3, e 4)], m)
def r15_4 : RR := fun D e m =>
 bp (opLoad T 31 (e 1) m) m fun x0 m0 =>
 bnd (D 35 [x0] m0) fun x1 m1 =>
 some (ups e [(18, x0), (19, x1), (5, x1)], m1)
def r15_5 : RR := fun D e m =>
 bp (opFieldAddr T 31 (e 1) 3) m fun x0 m0 =>
 bp (opLoad T 22 x0 m0) m0 fun x1 m1 =>
 bp (opLen T 22 x1) m1 fun x2 m2 =>
 some (ups e [(20, x0), (21, x1), (22, x2), (6, x2)], m2)
def r15_6 : RR := fun D e m =>
 bp (opLen T 67 (e 5)) m fun x1 m1 =>
 some (ups e [(23, e 5), (24, x1), (25, .int .i64 0)], m1)
def r15_7 : RR := fun D e m =>
 bp (opBin T .lss 3 (e 25) (e 24)) m fun x0 m0 =>
 some (ups e [(26, x0)], m0)
def r15_8 : RR := fun D e m =>
 some (ups e [(27, e 25), (7, e 25)], m)
def r15_9 : RR := fun D e m =>
 bp (opFieldAddr T 31 (e 1) 3) m fun x0 m0 =>
 bp (opLoad T 22 x0 m0) m0 fun x1 m1 =>
 bp (opLen T 22 x1) m1 fun x2 m2 =>
 bnd (opMakeSlice T 22 x2 x2 m2) fun x3 m3 =>
 some (ups e [(28, x0), (29, x1), (30, x2), (31, x3), (8, x3)], m3)
def r15_10 : RR := fun D e m =>
 bp (opFieldAddr T 31 (e 1) 0) m fun x0 m0 =>
 bp (opFieldAddr T 27 x0 1) m0 fun x1 m1 =>
 bp (opLoad T 3 x1 m1) m1 fun x2 m2 =>
 some (ups e [(32, x0), (33, x1), (34, x2), (35, .int .i64 0)], m2)
def r15_11 : RR := fun D e m =>
 bp (opBin T .lss 3 (e 35) (e 34)) m fun x0 m0 =>
 some (ups e [(36, x0)], m0)
def r15_12 : RR := fun D e m =>
 some (ups e [(37, e 35), (9, e 35)], m)
def r15_13 : RR := fun D e m =>
 bnd (D 34 [e 5, e 7, e 9] m) fun x4 m4 =>
 bp (opField T 65 x4 1) m4 fun x5 m5 =>
 bp (opIndexAddr T 22 (e 8) x5) m5 fun x6 m6 =>
 bp (opLoad T 3 x6 m6) m6 fun x7 m7 =>
 bp (opBin T .add 3 x7 (.int .i64 1)) m7 fun x8 m8 =>
 bp (opIndexAddr T 22 (e 8) x5) m8 fun x9 m9 =>
 bnd ((opStore T 3 x9 x8 m9).map (V.undef, ·)) fun x10 m10 =>
 some (ups e [(38, e 8), (39, e 5), (40, e 7), (41, e 9), (42, x4), (43, x5), (44, x6), (45, x7), (46, x8), (47, x9)], m10)
def r15_14 : RR := fun D e m =>
 bp (opBin T .add 3 (e 35) (.int .i64 1)) m fun x0 m0 =>
 some (ups e [(48, x0), (35, x0)], m0)
noncomputable def l15_15 : RC := fun D => (sq (rg (r15_11 D)) (sq (cnd (fun e => some (e 36)) sk (exi 2)) (sq (blk 3 (sq (rg (r15_12 D)) (rg (r15_13 D)))) (rg (r15_14 D)))))
def r15_16 : RR := fun D e m =>
 bnd (D 37 [e 8] m) fun x1 m1 =>
 some (ups e [(49, e 8), (50, x1)], m1)
def r15_17 : RR := fun D e m =>
 bnd (D 38 [e 8] m) fun x1 m1 =>
 some (ups e [(51, e 8), (52, x1)], m1)
def r15_18 : RR := fun D e m =>
 some (ups e [(10, .int .i64 0)], m)
def r15_19 : RR := fun D e m =>
 bp (opLen T 22 (e 8)) m fun x1 m1 =>
 some (ups e [(53, e 8), (54, x1), (55, .int .i64 0)], m1)
def r15_20 : RR := fun D e m =>
 bp (opBin T .lss 3 (e 55) (e 54)) m fun x0 m0 =>
 some (ups e [(56, x0)], m0)
def r15_21 : RR := fun D e m =>
 bp (opIndexAddr T 22 (e 53) (e 55)) m fun x1 m1 =>
 bp (opLoad T 3 x1 m1) m1 fun x2 m2 =>
 some (ups e [(57, e 55), (58, x1), (59, x2), (11, e 55), (12, x2)], m2)
def r15_22 : RR := fun D e m =>
 bp (opBin T .add 3 (e 10) (e 12)) m fun x2 m2 =>
 some (ups e [(60, e 10), (61, e 12), (62, x2), (10, x2)], m2)
def r15_23 : RR := fun D e m =>
 bp (opFieldAddr T 31 (e 1) 1) m fun x1 m1 =>
 bp (opLoad T 3 x1 m1) m1 fun x2 m2 =>
 bp (opBin T .geq 3 (e 10) x2) m2 fun x3 m3 =>
 some (ups e [(63, e 10), (64, x1), (65, x2), (66, x3)], m3)
def r15_24 : RR := fun D e m =>
 bp (opMin [e 6, e 11]) m fun x2 m2 =>
 some (ups e [(67, e 6), (68, e 11), (69, x2), (6, x2)], m2)
def r15_25 : RR := fun D e m =>
 bp (opBin T .add 3 (e 55) (.int .i64 1)) m fun x0 m0 =>
 some (ups e [(70, x0), (55, x0)], m0)
noncomputable def l15_26 : RC := fun D => (sq (rg (r15_20 D)) (sq (cnd (fun e => some (e 56)) sk (exi 4)) (sq (blk 5 (sq (rg (r15_21 D)) (sq (rg (r15_22 D)) (sq (rg (r15_23 D)) (cnd (fun e => some (e 66)) (sq (rg (r15_24 D)) (exi 4)) sk))))) (rg (r15_25 D)))))
def r15_27 : RR := fun D e m =>
 bp (opBin T .add 3 (e 25) (.int .i64 1)) m fun x0 m0 =>
 some (ups e [(71, x0), (25, x0)], m0)
noncomputable def l15_28 : RC := fun D => (sq (rg (r15_7 D)) (sq (cnd (fun e => some (e 26)) sk (exi 0)) (sq (blk 1 (sq (rg (r15_8 D)) (sq (rg (r15_9 D)) (sq (sq (rg (r15_10 D)) (blk 2 (loopD (l15_15 D)))) (sq (rg (r15_16 D)) (sq (rg (r15_17 D)) (sq (rg (r15_18 D)) (sq (rg (r15_19 D)) (blk 4 (loopD (l15_26 D))))))))))) (rg (r15_27 D)))))
def r15_29 : RR := fun D e m =>
 some (ups e [(72, e 6), (2, e 6), (3, .int .i64 0)], m)
noncomputable def c15 : RC := fun D => (sq (rg (r15_0 D)) (sq (sq (rg (r15_1 D)) (sq (rg (r15_2 D)) (cnd (fun e => some (e 16)) (sq (rg (r15_3 D)) rt) sk))) (sq (rg (r15_4 D)) (sq (rg (r15_5 D)) (sq (sq (rg (r15_6 D)) (blk 0 (loopD (l15_28 D)))) (sq (rg (r15_29 D)) rt))))))
theorem e15 (a0 : V) (m : Mem) : DD 15 [a0] m = fin (c15 DD) (fun e m => some [e 2, e 3]) [a0] m :=
 eOf (f := Tryz.f15) (by kernel_rfl) (by kernel_rfl)
def r16_0 : RR := fun D e m =>
 bnd (opBox (e 0) m) fun x0 m0 =>
 some (ups e [(1, x0), (2, .int .i64 0), (3, .int .i64 0)], m0)
def r16_1 : RR := fun D e m =>
 bp (opLoad T 31 (e 1) m) m fun x0 m0 =>
 bnd (D 11 [x0] m0) fun x1 m1 =>
 some (ups e [(10, x0), (11, x1), (4, x1)], m1)
def r16_2 : RR := fun D e m =>
 bp (opBin T .neq 33 (e 4) (.int .i64 0)) m fun x1 m1 =>
 some (ups e [(12, e 4), (13, x1)], m1)
def r16_3 : RR := fun D e m =>
 some (ups e [(14, e 4), (2, .int .i64 0), (3, e 4)], m)
def r16_4 : RR := fun D e m =>
 bp (opFieldAddr T 31 (e 1) 3) m fun x0 m0 =>
 bp (opLoad T 22 x0 m0) m0 fun x1 m1 =>
 bp (opLen T 22 x1) m1 fun x2 m2 =>
 some (ups e [(15, x0), (16, x1), (17, x2), (5, x2)], m2)
def r16_5 : RR := fun D e m =>
 some (ups e [(6, .int .i64 0)], m)
def r16_6 : RR := fun D e m =>
 bp (opLoad T 31 (e 1) m) m fun x1 m1 =>
 bnd (D 33 [x1] m1) fun x2 m2 =>
 bp (opBin T .lss 3 (e 6) x2) m2 fun x3 m3 =>
 some (ups e [(18, e 6), (19, x1), (20, x2), (21, x3)], m3)
def r16_7 : RR := fun D e m =>
 bp (opLoad T 31 (e 1) m) m fun x0 m0 =>
 bnd (D 39 [x0, e 6] m0) fun x2 m2 =>
 some (ups e [(24, x0), (25, e 6), (26, x2), (7, x2)], m2)
def r16_8 : RR := fun D e m =>
 some (ups e [(8, .int .i64 0)], m)
def r16_9 : RR := fun D e m =>
 some (ups e [(9, .int .i64 0)], m)
def r16_10 : RR := fun D e m =>
 bp (opLen T 22 (e 7)) m fun x2 m2 =>
 bp (opBin T .lss 3 (e 9) x2) m2 fun x3 m3 =>
 bg x3 true (some ((e 8), m3)) m3 fun x5 m5 =>
 bg x3 true (some ((e 7), m5)) m5 fun x6 m6 =>
 bg x3 true (some ((e 9), m6)) m6 fun x7 m7 =>
 bg x3 true (lft (opIndexAddr T 22 x6 x7) m7) m7 fun x8 m8 =>
 bg x3 true (lft (opLoad T 3 x8 m8) m8) m8 fun x9 m9 =>
 bg x3 true (lft (opBin T .add 3 x5 x9) m9) m9 fun x10 m10 =>
 bg x3 true (lft (opFieldAddr T 31 (e 1) 1) m10) m10 fun x11 m11 =>
 bg x3 true (lft (opLoad T 3 x11 m11) m11) m11 fun x12 m12 =>
 bg x3 true (lft (opBin T .lss 3 x10 x12) m12) m12 fun x13 m13 =>
 bnd (pickV x3 x13 (.bool false) m13) fun x14 m14 =>
 some (ups e [(27, e 9), (28, e 7), (29, x2), (30, x3), (31, x3), (32, x5), (33, x6), (34, x7), (35, x8), (36, x9), (37, x10), (38, x11), (39, x12), (40, x13), (41, x14)], m14)
def r16_11 : RR := fun D e m =>
 bp (opIndexAddr T 22 (e 7) (e 9)) m fun x3 m3 =>
 bp (opLoad T 3 x3 m3) m3 fun x4 m4 =>
 bp (opBin T .add 3 (e 8) x4) m4 fun x5 m5 =>
 some (ups e [(42, e 8), (43, e 7), (44, e 9), (45, x3), (46, x4), (47, x5), (8, x5)], m5)
def r16_12 : RR := fun D e m =>
 bp (opBin T .add 3 (e 9) (.int .i64 1)) m fun x1 m1 =>
 some (ups e [(48, e 9), (49, x1), (9, x1)], m1)
noncomputable def l16_13 : RC := fun D => (sq (sq (rg (r16_10 D)) (cnd (fun e => some (e 41)) sk (exi 2))) (blk 3 (sq (rg (r16_11 D)) (rg (r16_12 D)))))
def r16_14 : RR := fun D e m =>
 bp (opMin [e 5, e 9]) m fun x2 m2 =>
 some (ups e [(50, e 5), (51, e 9), (52, x2), (5, x2)], m2)
def r16_15 : RR := fun D e m =>
 bp (opBin T .add 3 (e 6) (.int .i64 1)) m fun x1 m1 =>
 some (ups e [(22, e 6), (23, x1), (6, x1)], m1)
noncomputable def l16_16 : RC := fun D => (sq (sq (rg (r16_6 D)) (cnd (fun e => some (e 21)) sk (exi 0))) (sq (blk 1 (sq (rg (r16_7 D)) (sq (rg (r16_8 D)) (sq (rg (r16_9 D)) (sq (blk 2 (loopD (l16_13 D))) (rg (r16_14 D))))))) (rg (r16_15 D))))
def r16_17 : RR := fun D e m =>
 some (ups e [(53, e 5), (2, e 5), (3, .int .i64 0)], m)
noncomputable def c16 : RC := fun D => (sq (rg (r16_0 D)) (sq (rg (r16_1 D)) (sq (sq (rg (r16_2 D)) (cnd (fun e => some (e 13)) (sq (rg (r16_3 D)) rt) sk)) (sq (rg (r16_4 D)) (sq (sq (rg (r16_5 D)) (blk 0 (loopD (l16_16 D)))) (sq (rg (r16_17 D)) rt))))))
theorem e16 (a0 : V) (m : Mem) : DD 16 [a0] m = fin (c16 DD) (fun e m => some [e 2, e 3]) [a0] m :=
 eOf (f := Tryz.f16) (by kernel_rfl) (by kernel_rfl)
def r38_0 : RR := fun D e m =>
 bp (opLen T 22 (e 0)) m fun x1 m1 =>
 bp (opBin T .sub 3 x1 (.int .i64 1)) m1 fun x2 m2 =>
 some (ups e [(4, e 0), (5, x1), (6, x2), (2, .int .i64 0), (3, x2)], m2)
def r38_1 : RR := fun D e m =>
 bp (opBin T .lss 3 (e 2) (e 3)) m fun x2 m2 =>
 some (ups e [(7, e 2), (8, e 3), (9, x2)], m2)
def r38_2 : RR := fun D e m =>
 bp (opIndexAddr T 22 (e 0) (e 3)) m fun x6 m6 =>
 bp (opLoad T 3 x6 m6) m6 fun x7 m7 =>
 bp (opIndexAddr T 22 (e 0) (e 2)) m7 fun x10 m10 =>
 bp (opLoad T 3 x10 m10) m10 fun x11 m11 =>
 bp (opIndexAddr T 22 (e 0) (e 2)) m11 fun x12 m12 =>
 bnd ((opStore T 3 x12 x7 m12).map (V.undef, ·)) fun x13 m13 =>
 bp (opIndexAddr T 22 (e 0) (e 3)) m13 fun x14 m14 =>
 bnd ((opStore T 3 x14 x11 m14).map (V.undef, ·)) fun x15 m15 =>
 some (ups e [(14, e 0), (15, e 2), (16, e 0), (17, e 3), (18, e 0), (19, e 3), (20, x6), (21, x7), (22, e 0), (23, e 2), (24, x10), (25, x11), (26, x12), (27, x14)], m15)
def r38_3 : RR := fun D e m =>
 bp (opBin T .add 3 (e 2) (.int .i64 1)) m fun x1 m1 =>
 bp (opBin T .sub 3 (e 3) (.int .i64 1)) m1 fun x3 m3 =>
 some (ups e [(10, e 2), (11, x1), (12, e 3), (13, x3), (2, x1), (3, x3)], m3)
noncomputable def l38_4 : RC := fun D => (sq (sq (rg (r38_1 D)) (cnd (fun e => some (e 9)) sk (exi 0))) (sq (blk 1 (rg (r38_2 D))) (rg (r38_3 D))))
noncomputable def c38 : RC := fun D => (sq (rg (r38_0 D)) (blk 0 (loopD (l38_4 D))))
theorem e38 (a0 : V) (m : Mem) : DD 38 [a0] m = fin (c38 DD) (fun e m => some []) [a0] m :=
 eOf (f := Tryz.f38) (by kernel_rfl) (by kernel_rfl)
def r39_0 : RR := fun D e m =>
 bnd (opBox (e 0) m) fun x0 m0 =>
 some (ups e [(2, x0), (4, .nils)], m0)
def r39_1 : RR := fun D e m =>
 bp (opFieldAddr T 31 (e 2) 3) m fun x0 m0 =>
 bp (opLoad T 22 x0 m0) m0 fun x1 m1 =>
 bp (opLen T 22 x1) m1 fun x2 m2 =>
 bnd (opMakeSlice T 22 x2 x2 m2) fun x3 m3 =>
 some (ups e [(10, x0), (11, x1), (12, x2), (13, x3), (5, x3)], m3)
def r39_2 : RR := fun D e m =>
 some (ups e [(6, .int .i64 0)], m)
def r39_3 : RR := fun D e m =>
 bp (opFieldAddr T 31 (e 2) 0) m fun x1 m1 =>
 bp (opFieldAddr T 27 x1 1) m1 fun x2 m2 =>
 bp (opLoad T 3 x2 m2) m2 fun x3 m3 =>
 bp (opBin T .lss 3 (e 6) x3) m3 fun x4 m4 =>
 some (ups e [(14, e 6), (15, x1), (16, x2), (17, x3), (18, x4)], m4)
noncomputable def r39_4 : RR := fun D e m =>
 bp (opLoad T 31 (e 2) m) m fun x1 m1 =>
 bp (opLoad T 31 (e 2) m1) m1 fun x2 m2 =>
 bnd (D 36 [x2, e 1, e 6] m2) fun x5 m5 => chkd m2 m5 (
 bnd (D 70 [x1, x5] m5) fun x6 m6 =>
 bp (opIndexAddr T 22 (e 5) x6) m6 fun x7 m7 =>
 bp (opLoad T 3 x7 m7) m7 fun x8 m8 =>
 bp (opBin T .add 3 x8 (.int .i64 1)) m8 fun x9 m9 =>
 bp (opIndexAddr T 22 (e 5) x6) m9 fun x10 m10 =>
 bnd ((opStore T 3 x10 x9 m10).map (V.undef, ·)) fun x11 m11 =>
 some (ups e [(21, e 5), (22, x1), (23, x2), (24, e 1), (25, e 6), (26, x5), (27, x6), (28, x7), (29, x8), (30, x9), (31, x10)], m11))
def r39_5 : RR := fun D e m =>
 bp (opBin T .add 3 (e 6) (.int .i64 1)) m fun x1 m1 =>
 some (ups e [(19, e 6), (20, x1), (6, x1)], m1)
noncomputable def l39_6 : RC := fun D => (sq (sq (rg (r39_3 D)) (cnd (fun e => some (e 18)) sk (exi 0))) (sq (blk 1 (rg (r39_4 D))) (rg (r39_5 D))))
def r39_7 : RR := fun D e m =>
 some (ups e [(7, .int .i64 0)], m)
def r39_8 : RR := fun D e m =>
 bp (opLen T 22 (e 5)) m fun x2 m2 =>
 bp (opBin T .lss 3 (e 7) x2) m2 fun x3 m3 =>
 some (ups e [(32, e 7), (33, e 5), (34, x2), (35, x3)], m3)
def r39_9 : RR := fun D e m =>
 some (ups e [(8, .int .i64 0)], m)
def r39_10 : RR := fun D e m =>
 bp (opBin T .lss 3 (e 8) (e 7)) m fun x2 m2 =>
 some (ups e [(38, e 8), (39, e 7), (40, x2)], m2)
def r39_11 : RR := fun D e m =>
 bp (opIndexAddr T 22 (e 5) (e 7)) m fun x2 m2 =>
 bp (opLoad T 3 x2 m2) m2 fun x3 m3 =>
 bp (opIndexAddr T 22 (e 5) (e 8)) m3 fun x6 m6 =>
 bp (opLoad T 3 x6 m6) m6 fun x7 m7 =>
 bp (opBin T .gtr 3 x3 x7) m7 fun x8 m8 =>
 some (ups e [(43, e 5), (44, e 7), (45, x2), (46, x3), (47, e 5), (48, e 8), (49, x6), (50, x7), (51, x8)], m8)
def r39_12 : RR := fun D e m =>
 bp (opIndexAddr T 22 (e 5) (e 7)) m fun x2 m2 =>
 bp (opLoad T 3 x2 m2) m2 fun x3 m3 =>
 some (ups e [(52, e 5), (53, e 7), (54, x2), (55, x3), (9, x3)], m3)
def r39_13 : RR := fun D e m =>
 bp (opIndexAddr T 22 (e 5) (e 8)) m fun x4 m4 =>
 bp (opLoad T 3 x4 m4) m4 fun x5 m5 =>
 bp (opIndexAddr T 22 (e 5) (e 7)) m5 fun x6 m6 =>
 bnd ((opStore T 3 x6 x5 m6).map (V.undef, ·)) fun x7 m7 =>
 some (ups e [(56, e 5), (57, e 7), (58, e 5), (59, e 8), (60, x4), (61, x5), (62, x6)], m7)
def r39_14 : RR := fun D e m =>
 bp (opIndexAddr T 22 (e 5) (e 8)) m fun x3 m3 =>
 bnd ((opStore T 3 x3 (e 9) m3).map (V.undef, ·)) fun x4 m4 =>
 some (ups e [(63, e 5), (64, e 8), (65, e 9), (66, x3)], m4)
def r39_15 : RR := fun D e m =>
 bp (opBin T .add 3 (e 8) (.int .i64 1)) m fun x1 m1 =>
 some (ups e [(41, e 8), (42, x1), (8, x1)], m1)
noncomputable def l39_16 : RC := fun D => (sq (sq (rg (r39_10 D)) (cnd (fun e => some (e 40)) sk (exi 4))) (sq (blk 5 (sq (rg (r39_11 D)) (cnd (fun e => some (e 51)) (sq (rg (r39_12 D)) (sq (rg (r39_13 D)) (rg (r39_14 D)))) sk))) (rg (r39_15 D))))
def r39_17 : RR := fun D e m =>
 bp (opBin T .add 3 (e 7) (.int .i64 1)) m fun x1 m1 =>
 some (ups e [(36, e 7), (37, x1), (7, x1)], m1)
noncomputable def l39_18 : RC := fun D => (sq (sq (rg (r39_8 D)) (cnd (fun e => some (e 35)) sk (exi 2))) (sq (blk 3 (sq (rg (r39_9 D)) (blk 4 (loopD (l39_16 D))))) (rg (r39_17 D))))
def r39_19 : RR := fun D e m =>
 some (ups e [(67, e 5), (4, e 5)], m)
noncomputable def c39 : RC := fun D => (sq (rg (r39_0 D)) (sq (rg (r39_1 D)) (sq (sq (rg (r39_2 D)) (blk 0 (loopD (l39_6 D)))) (sq (sq (rg (r39_7 D)) (blk 2 (loopD (l39_18 D)))) (sq (rg (r39_19 D)) rt)))))
theorem e39 (a0 a1 : V) (m : Mem) : DD 39 [a0, a1] m = fin (c39 DD) (fun e m => some [e 4]) [a0, a1] m :=
 eOf (f := Tryz.f39) (by kernel_rfl) (by kernel_rfl)
def r70_0 : RR := fun D e m =>
 bnd (opBox (e 0) m) fun x0 m0 =>
 some (ups e [(2, x0), (4, .int .i64 0)], m0)
def r70_1 : RR := fun D e m =>
 some (ups e [(5, .int .i64 0)], m)
def r70_2 : RR := fun D e m =>
 bp (opFieldAddr T 31 (e 2) 3) m fun x1 m1 =>
 bp (opLoad T 22 x1 m1) m1 fun x2 m2 =>
 bp (opIndexAddr T 22 x2 (e 5)) m2 fun x4 m4 =>
 bp (opLoad T 3 x4 m4) m4 fun x5 m5 =>
 bp (opBin T .geq 3 (e 1) x5) m5 fun x6 m6 =>
 some (ups e [(6, e 1), (7, x1), (8, x2), (9, e 5), (10, x4), (11, x5), (12, x6)], m6)
def r70_3 : RR := fun D e m =>
 bp (opFieldAddr T 31 (e 2) 3) m fun x1 m1 =>
 bp (opLoad T 22 x1 m1) m1 fun x2 m2 =>
 bp (opIndexAddr T 22 x2 (e 5)) m2 fun x4 m4 =>
 bp (opLoad T 3 x4 m4) m4 fun x5 m5 =>
 bp (opBin T .sub 3 (e 1) x5) m5 fun x6 m6 =>
 some (ups e [(13, e 1), (14, x1), (15, x2), (16, e 5), (17, x4), (18, x5), (19, x6), (1, x6)], m6)
def r70_4 : RR := fun D e m =>
 bp (opBin T .add 3 (e 5) (.int .i64 1)) m fun x1 m1 =>
 some (ups e [(20, e 5), (21, x1), (5, x1)], m1)
noncomputable def l70_5 : RC := fun D => (sq (sq (rg (r70_2 D)) (cnd (fun e => some (e 12)) sk (exi 0))) (blk 1 (sq (rg (r70_3 D)) (rg (r70_4 D)))))
def r70_6 : RR := fun D e m =>
 some (ups e [(22, e 5), (4, e 5)], m)
noncomputable def c70 : RC := fun D => (sq (rg (r70_0 D)) (sq (rg (r70_1 D)) (sq (blk 0 (loopD (l70_5 D))) (sq (rg (r70_6 D)) rt))))
theorem e70 (a0 a1 : V) (m : Mem) : DD 70 [a0, a1] m = fin (c70 DD) (fun e m => some [e 4]) [a0, a1] m :=
 eOf (f := Tryz.f70) (by kernel_rfl) (by kernel_rfl)
end Go.Proofs.YtefjnnghfloddaaGreat.Abs
