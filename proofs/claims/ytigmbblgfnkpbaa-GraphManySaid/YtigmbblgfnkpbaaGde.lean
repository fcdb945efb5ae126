/- Own texts as one, only what is reached (shake.py). -/
import Derived.Test.YtigmbblgfnkpbaaGdd
import Derived.ChangeSlices
import Derived.Deep.Slices
import Derived.Test.YtigmbblgfnkpbaaProg
set_option linter.unusedSectionVars false
namespace Go.Proofs.Ytigmbblgfnkpbaa
open Go Go.Proofs
set_option linter.unusedVariables false
set_option maxRecDepth 100000
def qef (x_0 n_1:Int) (Q:VWP) (w:World):Prop :=
 lt (World.drew w) fun w1 =>
 (0:Int)≤n_1 ∧
 lt (qxe .u32 x_0 n_1) fun x2 =>
 lt (IntKind.i64.wrap (32 - n_1)) fun x3 =>
 (0:Int)≤x3 ∧
 lt (shrV .u32 x_0 x3) fun x4 =>
 lt (orV .u32 x2 x4) fun x5 =>
 Q (.int .u32 x5) w1
theorem qef.ok (x_0:Int) (n_1:Int) (Q:VWP) (w:World) (h:qef x_0 n_1 Q w):Calls Try.prog 84 ⟨[.int .u32 x_0,.int .i64 n_1]⟩ w (Ret Q) :=
 qqb [.tmp 4] qed Try.func84 rfl rfl rfl rfl .lf (by kernel_rfl) h
def qci (t_0 b_1 c_2 d_3:Int) (Q:VWP) (w:World):Prop :=
 (20:Int) ≠ 0 ∧
 lt (IntKind.i64.wrap (Int.tdiv t_0 20)) fun x1 =>
 br (x1 == 0) (
 lt (andV .u32 b_1 c_2) fun x2 =>
 lt (xorV .u32 (if IntKind.signed .u32 then -1 else IntKind.max .u32) b_1) fun x3 =>
 lt (andV .u32 x3 d_3) fun x4 =>
 lt (orV .u32 x2 x4) fun x5 =>
 Q (.tuple ⟨[.int .u32 x5,.int .u32 1518500249]⟩) w) (
 br (x1 == 1) (
 lt (xorV .u32 b_1 c_2) fun x6 =>
 lt (xorV .u32 x6 d_3) fun x7 =>
 Q (.tuple ⟨[.int .u32 x7,.int .u32 1859775393]⟩) w) (
 br (x1 == 2) (
 lt (andV .u32 b_1 c_2) fun x8 =>
 lt (andV .u32 b_1 d_3) fun x9 =>
 lt (orV .u32 x8 x9) fun x10 =>
 lt (andV .u32 c_2 d_3) fun x11 =>
 lt (orV .u32 x10 x11) fun x12 =>
 Q (.tuple ⟨[.int .u32 x12,.int .u32 2400959708]⟩) w) (
 lt (xorV .u32 b_1 c_2) fun x13 =>
 lt (xorV .u32 x13 d_3) fun x14 =>
 Q (.tuple ⟨[.int .u32 x14,.int .u32 3395469782]⟩) w)))
theorem qci.ok (t_0:Int) (b_1:Int) (c_2:Int) (d_3:Int) (Q:VWP) (w:World) (h:qci t_0 b_1 c_2 d_3 Q w):Calls Try.prog 85 ⟨[.int .i64 t_0,.int .u32 b_1,.int .u32 c_2,.int .u32 d_3]⟩ w (Ret Q) :=
 qqb [.tmp 8,.tmp 9] qed Try.func85 rfl rfl rfl rfl .lf (by kernel_rfl) h
def qm.b1 (d_0:OAd) (t121:(Array Value)) (t122:Int) (Q:VWP) (nx1:OAd→(Array Value)→Int→WP) (w:World):Prop :=
 br (decide (t122 < 5)) (
 ((0:Int)≤t122∧t122 < ((5:Nat):Int)) ∧
 ptI .u32 t121 (Int.toNat t122 * 1) fun x1 =>
 lt (World.drew w) fun w2 =>
 nz d_0 fun a3 =>
 ixA (Addr.add a3 0) 5 t122 1 fun a4 =>
 ldI .u32 w2 a4 fun x5 =>
 lt (IntKind.u32.wrap (x5+x1)) fun x6 =>
 nz d_0 fun a7 =>
 ixA (Addr.add a7 0) 5 t122 1 fun a8 =>
 st w2 a8 (.int .u32 x6) fun w9 =>
 lt (IntKind.i64.wrap (t122+1)) fun x10 =>
 nx1 d_0 t121 x10 w9) (
 Q (.tuple ⟨[]⟩) w)
def qm.l1 (d_0:OAd) (t121:(Array Value)) (t122:Int) (Q:VWP) (w:World):Prop :=
 ∃ (I:Int→WP) (μ:Int→World→Nat),I t122 w∧∀ t122:Int,∀ w:World,I t122 w→qm.b1 d_0 t121 t122 Q (fun d_0' t121' t122' w'=>(d_0'=d_0∧t121'=t121)∧I t122' w'∧μ t122' w' < μ t122 w) w
def qm.j6 (d_0:OAd) (t121:(Array Value)) (t122:Int) (Q:VWP) (w:World):Prop :=
 qm.l1 d_0 t121 t122 Q w
def qm.j5 (d_0:OAd) (t8:Int) (t9 t10 t11 t12:Int) (Q:VWP) (w:World):Prop :=
 qm.j6 d_0 ⟨[.int .u32 t8,.int .u32 t9,.int .u32 t10,.int .u32 t11,.int .u32 t12]⟩ 0 Q w
def qm.b2 (d_0:OAd) (t87:(Array Value)) (t8 t9 t10 t11 t12 t88:Int) (Q:VWP) (nx2:OAd→(Array Value)→Int→Int→Int→Int→Int→Int→WP) (w:World):Prop :=
 br (decide (t88 < 80)) (
 ((0:Int)≤t88∧t88 < ((80:Nat):Int)) ∧
 ptI .u32 t87 (Int.toNat t88 * 1) fun x11 =>
 Calls Try.prog 85 ⟨[.int .i64 t88,.int .u32 t9,.int .u32 t10,.int .u32 t11]⟩ w fun e12 w13 =>
 ∃ r14:Int,∃ r15:Int,e12=.returned (.tuple ⟨[.int .u32 r14,.int .u32 r15]⟩) ∧
 cr_u32 84 [.int .u32 t8,.int .i64 5] w13 fun r18 w17 =>
 lt (IntKind.u32.wrap (r18+r14)) fun x19 =>
 lt (IntKind.u32.wrap (x19+t12)) fun x20 =>
 lt (IntKind.u32.wrap (x20+r15)) fun x21 =>
 lt (IntKind.u32.wrap (x21+x11)) fun x22 =>
 cr_u32 84 [.int .u32 t9,.int .i64 30] w17 fun r25 w24 =>
 lt (IntKind.i64.wrap (t88+1)) fun x26 =>
 nx2 d_0 t87 x22 t8 r25 t10 t11 x26 w24) (
 qm.j5 d_0 t8 t9 t10 t11 t12 Q w)
def qm.l2 (d_0:OAd) (t87:(Array Value)) (t8 t9 t10 t11 t12 t88:Int) (Q:VWP) (w:World):Prop :=
 ∃ (I:Int→Int→Int→Int→Int→Int→WP) (μ:Int→Int→Int→Int→Int→Int→World→Nat),I t8 t9 t10 t11 t12 t88 w∧∀ t8:Int,∀ t9:Int,∀ t10:Int,∀ t11:Int,∀ t12:Int,∀ t88:Int,∀ w:World,I t8 t9 t10 t11 t12 t88 w→qm.b2 d_0 t87 t8 t9 t10 t11 t12 t88 Q (fun d_0' t87' t8' t9' t10' t11' t12' t88' w'=>(d_0'=d_0∧t87'=t87)∧I t8' t9' t10' t11' t12' t88' w'∧μ t8' t9' t10' t11' t12' t88' w' < μ t8 t9 t10 t11 t12 t88 w) w
def qm.j7 (d_0:OAd) (t8:Int) (t9 t10 t11 t12:Int) (t87:(Array Value)) (t88:Int) (Q:VWP) (w:World):Prop :=
 qm.l2 d_0 t87 t8 t9 t10 t11 t12 t88 Q w
def qm.j4 (d_0:OAd) (t4:Addr) (t8 t9 t10 t11 t12:Int) (Q:VWP) (w:World):Prop :=
 ldA w t4 80 fun c27 =>
 qm.j7 d_0 t8 t9 t10 t11 t12 c27 0 Q w
def qm.j3 (d_0:OAd) (t4:Addr) (Q:VWP) (w:World):Prop :=
 lt (World.drew w) fun w28 =>
 nz d_0 fun a29 =>
 ixA (Addr.add a29 0) 5 0 1 fun a30 =>
 ldI .u32 w28 a30 fun x31 =>
 nz d_0 fun a32 =>
 ixA (Addr.add a32 0) 5 1 1 fun a33 =>
 ldI .u32 w28 a33 fun x34 =>
 nz d_0 fun a35 =>
 ixA (Addr.add a35 0) 5 2 1 fun a36 =>
 ldI .u32 w28 a36 fun x37 =>
 nz d_0 fun a38 =>
 ixA (Addr.add a38 0) 5 3 1 fun a39 =>
 ldI .u32 w28 a39 fun x40 =>
 nz d_0 fun a41 =>
 ixA (Addr.add a41 0) 5 4 1 fun a42 =>
 ldI .u32 w28 a42 fun x43 =>
 qm.j4 d_0 t4 x31 x34 x37 x40 x43 Q w28
def qm.b3 (d_0:OAd) (t4:Addr) (t7:Int) (Q:VWP) (nx3:OAd→Addr→Int→WP) (w:World):Prop :=
 br (decide (t7 < 80)) (
 lt (World.drew w) fun w44 =>
 lt (IntKind.i64.wrap (t7 - 3)) fun x45 =>
 ixA t4 80 x45 1 fun a46 =>
 ldI .u32 w44 a46 fun x47 =>
 lt (IntKind.i64.wrap (t7 - 8)) fun x48 =>
 ixA t4 80 x48 1 fun a49 =>
 ldI .u32 w44 a49 fun x50 =>
 lt (xorV .u32 x47 x50) fun x51 =>
 lt (IntKind.i64.wrap (t7 - 14)) fun x52 =>
 ixA t4 80 x52 1 fun a53 =>
 ldI .u32 w44 a53 fun x54 =>
 lt (xorV .u32 x51 x54) fun x55 =>
 lt (IntKind.i64.wrap (t7 - 16)) fun x56 =>
 ixA t4 80 x56 1 fun a57 =>
 ldI .u32 w44 a57 fun x58 =>
 lt (xorV .u32 x55 x58) fun x59 =>
 cr_u32 84 [.int .u32 x59,.int .i64 1] w44 fun r62 w61 =>
 ixA t4 80 t7 1 fun a63 =>
 st w61 a63 (.int .u32 r62) fun w64 =>
 lt (IntKind.i64.wrap (t7+1)) fun x65 =>
 nx3 d_0 t4 x65 w64) (
 qm.j3 d_0 t4 Q w)
def qm.l3 (d_0:OAd) (t4:Addr) (t7:Int) (Q:VWP) (w:World):Prop :=
 ∃ (I:Int→WP) (μ:Int→World→Nat),I t7 w∧∀ t7:Int,∀ w:World,I t7 w→qm.b3 d_0 t4 t7 Q (fun d_0' t4' t7' w'=>(d_0'=d_0∧t4'=t4)∧I t7' w'∧μ t7' w' < μ t7 w) w
def qm.j8 (d_0:OAd) (t4:Addr) (t7:Int) (Q:VWP) (w:World):Prop :=
 qm.l3 d_0 t4 t7 Q w
def qm.j2 (d_0:OAd) (t4:Addr) (Q:VWP) (w:World):Prop :=
 qm.j8 d_0 t4 16 Q w
def qm.b4 (d_0:OAd) (t4:Addr) (t19:(Array Value)) (t20:Int) (Q:VWP) (nx4:OAd→Addr→(Array Value)→Int→WP) (w:World):Prop :=
 br (decide (t20 < 64)) (
 ((0:Int)≤t20∧t20 < ((64:Nat):Int)) ∧
 ptI .u8 t19 (Int.toNat t20 * 1) fun x66 =>
 (4:Int) ≠ 0 ∧
 lt (IntKind.i64.wrap (Int.tdiv t20 4)) fun x67 =>
 (4:Int) ≠ 0 ∧
 lt (IntKind.i64.wrap (Int.tdiv t20 4)) fun x68 =>
 ixA t4 80 x68 1 fun a69 =>
 ldI .u32 w a69 fun x70 =>
 (0:Int)≤8 ∧
 lt (qxe .u32 x70 8) fun x71 =>
 lt (IntKind.u32.wrap x66) fun x72 =>
 lt (orV .u32 x71 x72) fun x73 =>
 ixA t4 80 x67 1 fun a74 =>
 st w a74 (.int .u32 x73) fun w75 =>
 lt (IntKind.i64.wrap (t20+1)) fun x76 =>
 nx4 d_0 t4 t19 x76 w75) (
 qm.j2 d_0 t4 Q w)
def qm.l4 (d_0:OAd) (t4:Addr) (t19:(Array Value)) (t20:Int) (Q:VWP) (w:World):Prop :=
 ∃ (I:Int→WP) (μ:Int→World→Nat),I t20 w∧∀ t20:Int,∀ w:World,I t20 w→qm.b4 d_0 t4 t19 t20 Q (fun d_0' t4' t19' t20' w'=>(d_0'=d_0∧t4'=t4∧t19'=t19)∧I t20' w'∧μ t20' w' < μ t20 w) w
def qm.j9 (d_0:OAd) (t4:Addr) (t19:(Array Value)) (t20:Int) (Q:VWP) (w:World):Prop :=
 qm.l4 d_0 t4 t19 t20 Q w
def qm.j1 (d_0:OAd) (t3:Addr) (t4:Addr) (Q:VWP) (w:World):Prop :=
 ldA w t3 64 fun c77 =>
 qm.j9 d_0 t4 c77 0 Q w
def qm (d_0:OAd) (i_1:(Array Value)) (Q:VWP) (w:World):Prop :=
 nw w i_1 112 fun a78 w79 =>
 nw w79 (zc Try.prog 124) 124 fun a80 w81 =>
 qm.j1 d_0 a78 a80 Q w81
theorem qm.ok (d_0:OAd) (i_1:(Array Value)) (Q:VWP) (w:World) (h:qm d_0 i_1 Q w):Calls Try.prog 75 ⟨[.pointer d_0,.agg i_1]⟩ w (Ret Q) :=
 qqb [] qed Try.func75 rfl rfl rfl rfl (.pr 1 [sP 0,sA 3,sA 4] (fun a b c w=>qm.j1 a b c Q w) (.sq [sP 0,sA 4] (fun a b w=>qm.j2 a b Q w) (.sq [sP 0,sA 4,(19,.G),sI 20] (fun a b c d w=>qm.j9 a b c d Q w) .lf (.bk (.lo [sP 0,sA 4,(19,.G)] [sI 20] (fun a b c d w=>qm.l4 a b c d Q w) (fun nx4 a b c d w=>qm.b4 a b c d Q nx4 w) fun nx4=>.lf))) (.sq [sP 0,sA 4] (fun a b w=>qm.j3 a b Q w) (.sq [sP 0,sA 4,sI 7] (fun a b c w=>qm.j8 a b c Q w) .lf (.bk (.lo [sP 0,sA 4] [sI 7] (fun a b c w=>qm.l3 a b c Q w) (fun nx3 a b c w=>qm.b3 a b c Q nx3 w) fun nx3=>.lf))) (.sq [sP 0,sA 4,(8,.I .u32),(9,.I .u32),(10,.I .u32),(11,.I .u32),(12,.I .u32)] (fun a b c d e f g w=>qm.j4 a b c d e f g Q w) .lf (.sq [sP 0,(8,.I .u32),(9,.I .u32),(10,.I .u32),(11,.I .u32),(12,.I .u32)] (fun a b c d e f w=>qm.j5 a b c d e f Q w) (.sq [sP 0,(8,.I .u32),(9,.I .u32),(10,.I .u32),(11,.I .u32),(12,.I .u32),(87,.G),sI 88] (fun a b c d e f g h w=>qm.j7 a b c d e f g h Q w) .lf (.bk (.lo [sP 0,(87,.G)] [(8,.I .u32),(9,.I .u32),(10,.I .u32),(11,.I .u32),(12,.I .u32),sI 88] (fun a b c d e f g h w=>qm.l2 a b c d e f g h Q w) (fun nx2 a b c d e f g h w=>qm.b2 a b c d e f g h Q nx2 w) fun nx2=>.lf))) (.sq [sP 0,(121,.G),sI 122] (fun a b c w=>qm.j6 a b c Q w) .lf (.bk (.lo [sP 0,(121,.G)] [sI 122] (fun a b c w=>qm.l1 a b c Q w) (fun nx1 a b c w=>qm.b1 a b c Q nx1 w) fun nx1=>.lf)))))))) (by kernel_rfl) h
def qib.b1 (h_0:OAd) (t6:Sl) (t7 t8:Int) (Q:VWP) (nx1:OAd→Sl→Int→Int→WP) (w:World):Prop :=
 br (decide (t8 < t7)) (
 ixS t6.a t6.len t8 1 fun a1 =>
 ldI .u8 w a1 fun x2 =>
 lt (World.drew w) fun w3 =>
 nz h_0 fun a4 =>
 ldI .i64 w3 (Addr.add a4 69) fun x5 =>
 (64:Int) ≠ 0 ∧
 lt (Int.tmod x5 64) fun x6 =>
 nz h_0 fun a7 =>
 ixA (Addr.add a7 5) 64 x6 1 fun a8 =>
 st w3 a8 (.int .u8 x2) fun w9 =>
 nz h_0 fun a10 =>
 ldI .i64 w9 (Addr.add a10 69) fun x11 =>
 lt (IntKind.i64.wrap (x11+1)) fun x12 =>
 nz h_0 fun a13 =>
 st w9 (Addr.add a13 69) (.int .i64 x12) fun w14 =>
 nz h_0 fun a15 =>
 ldI .i64 w14 (Addr.add a15 69) fun x16 =>
 (64:Int) ≠ 0 ∧
 lt (Int.tmod x16 64) fun x17 =>
 br (x17 == 0) (
 nz h_0 fun a18 =>
 ldA w14 (Addr.add a18 5) 64 fun c19 =>
 ct_ 75 [.pointer h_0,.agg c19] w14 fun w21 =>
 lt (IntKind.i64.wrap (t8+1)) fun x22 =>
 nx1 h_0 t6 t7 x22 w21) (
 lt (IntKind.i64.wrap (t8+1)) fun x23 =>
 nx1 h_0 t6 t7 x23 w14)) (
 Q (.tuple ⟨[]⟩) w)
def qib.l1 (h_0:OAd) (t6:Sl) (t7 t8:Int) (Q:VWP) (w:World):Prop :=
 ∃ (I:Int→WP) (μ:Int→World→Nat),I t8 w∧∀ t8:Int,∀ w:World,I t8 w→qib.b1 h_0 t6 t7 t8 Q (fun h_0' t6' t7' t8' w'=>(h_0'=h_0∧t6'=t6∧t7'=t7)∧I t8' w'∧μ t8' w' < μ t8 w) w
def qib.j1 (h_0:OAd) (t6:Sl) (t7 t8:Int) (Q:VWP) (w:World):Prop :=
 qib.l1 h_0 t6 t7 t8 Q w
def qib (h_0:OAd) (b_1:Sl) (Q:VWP) (w:World):Prop :=
 qib.j1 h_0 b_1 (b_1.len:Int) 0 Q w
theorem qib.ok (h_0:OAd) (b_1:Sl) (Q:VWP) (w:World) (h:qib h_0 b_1 Q w):Calls Try.prog 47 ⟨[.pointer h_0,sV b_1]⟩ w (Ret Q) :=
 qqb [] qed Try.func47 rfl rfl rfl rfl (.sq [sP 0,sL 6,sI 7,sI 8] (fun a b c d w=>qib.j1 a b c d Q w) .lf (.bk (.lo [sP 0,sL 6,sI 7] [sI 8] (fun a b c d w=>qib.l1 a b c d Q w) (fun nx1 a b c d w=>qib.b1 a b c d Q nx1 w) fun nx1=>.lf))) (by kernel_rfl) h
def qqd (h_0:OAd) (Q:VWP) (w:World):Prop :=
 nz h_0 fun a1 =>
 ldA w a1 70 fun c2 =>
 nw w (zc Try.prog 114) 114 fun a3 w4 =>
 (c2).size=70 ∧
 stA w4 a3 c2 fun w5 =>
 Q (.pointer (some a3)) w5
theorem qqd.ok (h_0:OAd) (Q:VWP) (w:World) (h:qqd h_0 Q w):Calls Try.prog 76 ⟨[.pointer h_0]⟩ w (Ret Q) :=
 qqb [.tmp 2] qed Try.func76 rfl rfl rfl rfl .lf (by kernel_rfl) h
def qx.j5 (t2:Addr) (out_4:Sl) (Q:VWP) (w:World):Prop :=
 20≤out_4.len ∧
 nz out_4.a fun a1 =>
 ldA w a1 20 fun c2 =>
 (c2).size=20 ∧
 stA w t2 c2 fun w3 =>
 ldA w3 t2 20 fun c4 =>
 Q (.agg c4) w3
def qx.b1 (t2:Addr) (t32:(Array Value)) (out_4:Sl) (t33:Int) (Q:VWP) (nx1:Addr→(Array Value)→Sl→Int→WP) (w:World):Prop :=
 br (decide (t33 < 5)) (
 ((0:Int)≤t33∧t33 < ((5:Nat):Int)) ∧
 ptI .u32 t32 (Int.toNat t33 * 1) fun x5 =>
 lt (IntKind.i64.wrap x5) fun x6 =>
 qhc 21 [sV out_4,.int .i64 x6] w fun r9 w8 =>
 lt (IntKind.i64.wrap (t33+1)) fun x10 =>
 nx1 t2 t32 r9 x10 w8) (
 qx.j5 t2 out_4 Q w)
def qx.l1 (t2:Addr) (t32:(Array Value)) (out_4:Sl) (t33:Int) (Q:VWP) (w:World):Prop :=
 ∃ (I:Sl→Int→WP) (μ:Sl→Int→World→Nat),I out_4 t33 w∧∀ out_4:Sl,∀ t33:Int,∀ w:World,I out_4 t33 w→qx.b1 t2 t32 out_4 t33 Q (fun t2' t32' out_4' t33' w'=>(t2'=t2∧t32'=t32)∧I out_4' t33' w'∧μ out_4' t33' w' < μ out_4 t33 w) w
def qx.j6 (t2:Addr) (out_4:Sl) (t32:(Array Value)) (t33:Int) (Q:VWP) (w:World):Prop :=
 qx.l1 t2 t32 out_4 t33 Q w
def qx.j4 (t2:Addr) (t_3:OAd) (out_4:Sl) (Q:VWP) (w:World):Prop :=
 nz t_3 fun a11 =>
 ldA w (Addr.add a11 0) 5 fun c12 =>
 qx.j6 t2 out_4 c12 0 Q w
def qx.j3 (h_0:OAd) (t2:Addr) (t_3:OAd) (Q:VWP) (w:World):Prop :=
 nz h_0 fun a13 =>
 ldI .i64 w (Addr.add a13 69) fun x14 =>
 lt (IntKind.i64.wrap (8 * x14)) fun x15 =>
 qhc 23 [.slice none 0 0,.int .i64 x15] w fun r18 w17 =>
 ct_ 47 [.pointer t_3,sV r18] w17 fun w20 =>
 qx.j4 t2 t_3 ⟨none,0,0⟩ Q w20
def qx.b2 (h_0:OAd) (t2:Addr) (t_3:OAd) (Q:VWP) (nx2:OAd→Addr→OAd→WP) (w:World):Prop :=
 nz t_3 fun a21 =>
 ldI .i64 w (Addr.add a21 69) fun x22 =>
 (64:Int) ≠ 0 ∧
 lt (Int.tmod x22 64) fun x23 =>
 br (x23 != 56) (
 nw w ⟨[.int .u8 0]⟩ 5 fun a24 w25 =>
 ct_ 47 [.pointer t_3,.slice (some a24) 1 1] w25 fun w27 =>
 nx2 h_0 t2 t_3 w27) (
 qx.j3 h_0 t2 t_3 Q w)
def qx.l2 (h_0:OAd) (t2:Addr) (t_3:OAd) (Q:VWP) (w:World):Prop :=
 ∃ (I:WP) (μ:World→Nat),I  w∧∀ w:World,I  w→qx.b2 h_0 t2 t_3 Q (fun h_0' t2' t_3' w'=>(h_0'=h_0∧t2'=t2∧t_3'=t_3)∧I  w'∧μ  w' < μ  w) w
def qx.j2 (h_0:OAd) (t2:Addr) (t_3:OAd) (Q:VWP) (w:World):Prop :=
 qx.l2 h_0 t2 t_3 Q w
def qx.j1 (h_0:OAd) (t2:Addr) (Q:VWP) (w:World):Prop :=
 cr_P 76 [.pointer h_0] w fun r30 w29 =>
 nw w29 ⟨[.int .u8 128]⟩ 5 fun a31 w32 =>
 ct_ 47 [.pointer r30,.slice (some a31) 1 1] w32 fun w34 =>
 qx.j2 h_0 t2 r30 Q w34
def qx (h_0:OAd) (Q:VWP) (w:World):Prop :=
 nw w (zc Try.prog 28) 28 fun a35 w36 =>
 qx.j1 h_0 a35 Q w36
theorem qx.ok (h_0:OAd) (Q:VWP) (w:World) (h:qx h_0 Q w):Calls Try.prog 48 ⟨[.pointer h_0]⟩ w (Ret Q) :=
 qqb [.cell 2 28] qed Try.func48 rfl rfl rfl rfl (.sq [sP 0,sA 2] (fun a b w=>qx.j1 a b Q w) .lf (.pr 1 [sP 0,sA 2,sP 3] (fun a b c w=>qx.j2 a b c Q w) (.sq [sP 0,sA 2,sP 3] (fun a b c w=>qx.j3 a b c Q w) (.bk (.lo [sP 0,sA 2,sP 3] [] (fun a b c w=>qx.l2 a b c Q w) (fun nx2 a b c w=>qx.b2 a b c Q nx2 w) fun nx2=>.lf)) (.pr 1 [sA 2,sP 3,sL 4] (fun a b c w=>qx.j4 a b c Q w) (.sq [sA 2,sL 4] (fun a b w=>qx.j5 a b Q w) (.sq [sA 2,sL 4,(32,.G),sI 33] (fun a b c d w=>qx.j6 a b c d Q w) .lf (.bk (.lo [sA 2,(32,.G)] [sL 4,sI 33] (fun a b c d w=>qx.l1 a b c d Q w) (fun nx1 a b c d w=>qx.b1 a b c d Q nx1 w) fun nx1=>.lf))) .lf))))) (by kernel_rfl) h
def qdi  (Q:VWP) (w:World):Prop :=
 ((⟨[.int .u32 1732584193,.int .u32 4023233417,.int .u32 2562383102,.int .u32 271733878,.int .u32 3285377520]⟩:Array Value)).size=5 ∧
 nw w (⟨(spl (zc Try.prog 114).toList 0 (⟨[.int .u32 1732584193,.int .u32 4023233417,.int .u32 2562383102,.int .u32 271733878,.int .u32 3285377520]⟩:Array Value))⟩:Array Value) 114 fun a1 w2 =>
 Q (.pointer (some a1)) w2
theorem qdi.ok  (Q:VWP) (w:World) (h:qdi  Q w):Calls Try.prog 46 ⟨[]⟩ w (Ret Q) :=
 qqb [.tmp 0] qed Try.func46 rfl rfl rfl rfl .lf (by kernel_rfl) h
def qvf (b_0:Sl) (Q:VWP) (w:World):Prop :=
 nw w (zc Try.prog 28) 28 fun a1 w2 =>
 cr_P 46 [] w2 fun r5 w4 =>
 ct_ 47 [.pointer r5,sV b_0] w4 fun w7 =>
 cr_G 48 [.pointer r5] w7 fun r10 w9 =>
 (r10).size=20 ∧
 stA w9 a1 r10 fun w11 =>
 ldA w11 a1 20 fun c12 =>
 Q (.agg c12) w11
theorem qvf.ok (b_0:Sl) (Q:VWP) (w:World) (h:qvf b_0 Q w):Calls Try.prog 26 ⟨[sV b_0]⟩ w (Ret Q) :=
 qqb [.cell 2 28] qed Try.func26 rfl rfl rfl rfl .lf (by kernel_rfl) h
end Go.Proofs.Ytigmbblgfnkpbaa
namespace Go.Proofs.Ytigmbblgfnkpbaa
open Go Go.Proofs
set_option linter.unusedVariables false
set_option linter.unusedSimpArgs false
attribute [local irreducible] apK cpK mkK
def lf (x n:Int):Int:=orV .u32 (qxe .u32 x n) (shrV .u32 x (32 - n))
def no32 (b:Int):Int:=xorV .u32 4294967295 b
def mixF (t:Nat) (b c d:Int):Int × Int :=
 if t < 20 then (orV .u32 (andV .u32 b c) (andV .u32 (no32 b) d),1518500249)
 else if t < 40 then (xorV .u32 (xorV .u32 b c) d,1859775393)
 else if t < 60 then (orV .u32 (orV .u32 (andV .u32 b c) (andV .u32 b d)) (andV .u32 c d),2400959708)
 else (xorV .u32 (xorV .u32 b c) d,3395469782)
structure W5 where
 a:Int
 b:Int
 c:Int
 d:Int
 e:Int
def stepF (t:Nat) (x:Int) (s:W5):W5 :=
 ⟨IntKind.u32.wrap (IntKind.u32.wrap (IntKind.u32.wrap (IntKind.u32.wrap (lf s.a 5+(mixF t s.b s.c s.d).1)+s.e)+(mixF t s.b s.c s.d).2)+x),s.a,lf s.b 30,s.c,s.d⟩
def rounds (l:List Int):Nat→W5→W5
 | 0,s=>s
 | n+1,s=>stepF n (l.getD n 0) (rounds l n s)
def nextW (l:List Int):Int:=lf (xorV .u32 (xorV .u32 (xorV .u32 (l.getD (l.length - 3) 0) (l.getD (l.length - 8) 0)) (l.getD (l.length - 14) 0)) (l.getD (l.length - 16) 0)) 1
def growW:Nat→List Int→List Int
 | 0,l=>l
 | n+1,l=>growW n (l ++ [nextW l])
theorem growW_succ (n:Nat):∀ l,growW (n+1) l=growW n l ++ [nextW (growW n l)]:=by
 induction n with
 | zero=>intro l; rfl
 | succ n ih=>intro l; rw [growW,ih]; rfl
theorem growW_length (n:Nat) (l:List Int):(growW n l).length=l.length+n:=by
 induction n generalizing l with
 | zero=>rfl
 | succ n ih=>rw [growW,ih]; simp; omega
def be (l:List Int):Int:=l.foldl (fun a x=>a * 256+x) 0
theorem be_snoc (l:List Int) (x:Int):be (l ++ [x])=be l * 256+x:=by simp [be]
def base16 (p:List Int):List Int:=(List.range 16).map fun t=>be ((p.drop (4 * t)).take 4)
def addW (s x:W5):W5:=⟨IntKind.u32.wrap (s.a+x.a),IntKind.u32.wrap (s.b+x.b),IntKind.u32.wrap (s.c+x.c),IntKind.u32.wrap (s.d+x.d),IntKind.u32.wrap (s.e+x.e)⟩
def blkF (s:W5) (p:List Int):W5:=addW s (rounds (growW 64 (base16 p)) 80 s)
def W5.l (s:W5):List Int:=[s.a,s.b,s.c,s.d,s.e]
abbrev qbh (l:List Int):List Value:=l.map (Value.int .u32)
theorem qac (l:List Int):(qbh l).length=l.length:=by simp [qbh]
theorem qwi {l:List Int} {i:Nat} (h:i < l.length):(qbh l)[i]?=some (.int .u32 (l.getD i 0)):=by
 simp [qbh,h,List.getD,List.getElem?_eq_getElem h]
theorem u32s_set (l:List Int) (i:Nat) (v:Int):(qbh l).set i (.int .u32 v)=qbh (l.set i v):=by
 unfold qbh; rw [List.map_set]
theorem u8s_get {l:List Int} {i:Nat} (h:i < l.length):(u8s l)[i]?=some (.int .u8 (l.getD i 0)):=by
 simp [u8s,h,List.getD,List.getElem?_eq_getElem h]
def init5:W5:=⟨1732584193,4023233417,2562383102,271733878,3285377520⟩
def hs (xs:List Int):Nat→W5
 | 0=>init5
 | n+1=>blkF (hs xs n) ((xs.drop (64 * n)).take 64)
theorem hs_front (xs ys:List Int):∀ n,64 * n≤xs.length→hs (xs ++ ys) n=hs xs n
 | 0,_=>rfl
 | n+1,h=>by
   rw [hs,hs,hs_front xs ys n (by omega)]
   congr 1
   rw [List.drop_append_of_le_length (by omega),List.take_append_of_le_length (by rw [List.length_drop]; omega)]
def be8 (n:Int):List Int:=(List.range 8).map fun i=>n / 2 ^ (8 * (7 - i)) % 256
def zeros (n:Nat):List Int:=List.replicate ((119 - n % 64) % 64) 0
def padded (xs:List Int):List Int:=xs ++ [128] ++ zeros xs.length ++ be8 (8 * xs.length)
def sumW (xs:List Int):W5:=hs (padded xs) ((padded xs).length / 64)
def word4 (x:Int):List Int:=[x / 2 ^ 24 % 256,x / 2 ^ 16 % 256,x / 2 ^ 8 % 256,x % 256]
def qoe (xs:List Int):List Int:=(sumW xs).l.flatMap word4
section
variable {F0:List Nat} {w0 w:World} {ps:List As}
theorem qgh {b o n sz:Nat} {i:Int} {K:Addr→Prop} (h0:0≤i) (h1:i < (n:Int)) (hk:K ⟨b,o+i.toNat * sz,none⟩):ixA ⟨b,o,none⟩ n i sz K:=by
 unfold ixA
 rw [qjc]
 exact ⟨⟨h0,h1⟩,hk⟩
theorem qef.c {x n:Int} {K:Ending→World→Prop} (hn:0≤n∧n≤32) (hk:∀ w',Mod [] w w'→K (.returned (.int .u32 (lf x n))) w'):Calls Try.prog 84 ⟨[.int .u32 x,.int .i64 n]⟩ w K:=by
 refine qnb (qef.ok _ _ _ _ ?_)
 unfold qef
 refine qtd ?_
 refine ⟨hn.1,qtd ?_⟩
 refine qw (qq (by omega) (by omega)) ?_
 refine ⟨by omega,qtd (qtd ?_)⟩
 exact hk _ (Mod.drew w)
theorem qci.c {t:Nat} {b c d:Int} {K:Ending→World→Prop} (ht:t < 80) (hk:K (.returned (.tuple ⟨[.int .u32 (mixF t b c d).1,.int .u32 (mixF t b c d).2]⟩)) w):Calls Try.prog 85 ⟨[.int .i64 t,.int .u32 b,.int .u32 c,.int .u32 d]⟩ w K:=by
 refine qnb (qci.ok _ _ _ _ _ _ ?_)
 unfold qci
 refine ⟨by decide,?_⟩
 rw [tdiv_nn (by omega)]
 refine qw (qq (by omega) (by omega)) ?_
 unfold mixF at hk
 refine qzc (fun h1=>?_) (fun h1=>?_)
 · have h1:(t:Int) / 20=0:=by simpa using h1
   rw [if_pos (by omega)] at hk
   exact qtd (qtd (qtd (qtd hk)))
 have h1:¬ (t:Int) / 20=0:=by simpa using h1
 rw [if_neg (by omega)] at hk
 refine qzc (fun h2=>?_) (fun h2=>?_)
 · have h2:(t:Int) / 20=1:=by simpa using h2
   rw [if_pos (by omega)] at hk
   exact qtd (qtd hk)
 have h2:¬ (t:Int) / 20=1:=by simpa using h2
 rw [if_neg (by omega)] at hk
 refine qzc (fun h3=>?_) (fun h3=>?_)
 · have h3:(t:Int) / 20=2:=by simpa using h3
   rw [if_pos (by omega)] at hk
   exact qtd (qtd (qtd (qtd (qtd hk))))
 have h3:¬ (t:Int) / 20=2:=by simpa using h3
 rw [if_neg (by omega)] at hk
 exact qtd (qtd hk)
end
end Go.Proofs.Ytigmbblgfnkpbaa
namespace Go.Proofs.Ytigmbblgfnkpbaa
open Go Go.Proofs
set_option linter.unusedVariables false
set_option linter.unusedSimpArgs false
attribute [local irreducible] apK cpK mkK
theorem loop6 {α A B D E G H:Type} {C:(A→B→D→E→G→H→World→Prop)→(A→B→D→E→G→H→World→Nat)→A→B→D→E→G→H→World→Prop} {x:A} {y:B} {z:D} {u:E} {v:G} {t:H} {w:World} (Inv:α→A→B→D→E→G→H→World→Prop) (m:α→Nat) (a:α) (h:Inv a x y z u v t w)
 (hb:∀ a x y z u v t w I μ,Inv a x y z u v t w→(∀ a' x' y' z' u' v' t' w',Inv a' x' y' z' u' v' t' w'→m a' < m a→I x' y' z' u' v' t' w'∧μ x' y' z' u' v' t' w' < μ x y z u v t w)→C I μ x y z u v t w):∃ I μ,I x y z u v t w∧∀ x y z u v t w,I x y z u v t w→C I μ x y z u v t w:=by
 obtain ⟨I,μ,h1,h2⟩:=qrf (σ:=A × B × D × E × G × H × World) (C:=fun I μ s=>C (fun x y z u v t w=>I (x,y,z,u,v,t,w)) (fun x y z u v t w=>μ (x,y,z,u,v,t,w)) s.1 s.2.1 s.2.2.1 s.2.2.2.1 s.2.2.2.2.1 s.2.2.2.2.2.1 s.2.2.2.2.2.2) (s:=(x,y,z,u,v,t,w))
  (fun a s=>Inv a s.1 s.2.1 s.2.2.1 s.2.2.2.1 s.2.2.2.2.1 s.2.2.2.2.2.1 s.2.2.2.2.2.2) m a h
  (fun a s I μ hi hn=>hb a s.1 s.2.1 s.2.2.1 s.2.2.2.1 s.2.2.2.2.1 s.2.2.2.2.2.1 s.2.2.2.2.2.2 _ _ hi fun a' x' y' z' u' v' t' w'=>hn a' (x',y',z',u',v',t',w'))
 exact ⟨fun x y z u v t w=>I (x,y,z,u,v,t,w),fun x y z u v t w=>μ (x,y,z,u,v,t,w),h1,fun x y z u v t w hI=>h2 (x,y,z,u,v,t,w) hI⟩
attribute [local irreducible] rounds growW
theorem qse (l:List Value) (i:Nat):(⟨l⟩:Array Value)[i]?=l[i]?:=by simp
def qsd (l:List Int):Prop:=∀ x ∈ l,0≤x∧x < 256
theorem be_lt:∀ (l:List Int),qsd l→0≤be l∧be l < 256 ^ l.length:=by
 intro l
 have key:∀ (l:List Int) (a:Int) (k:Nat),qsd l→0≤a→a < 256 ^ k→0≤l.foldl (fun a x=>a * 256+x) a∧l.foldl (fun a x=>a * 256+x) a < 256 ^ (k+l.length):=by
  intro l
  induction l with
  | nil=>intro a k _ h0 h1; exact ⟨h0,h1⟩
  | cons x l ih =>
    intro a k hb h0 h1
    have hx:=hb x (by simp)
    have:=ih (a * 256+x) (k+1) (fun y hy=>hb y (by simp [hy])) (by omega) (by rw [Int.pow_succ]; omega)
    rw [List.foldl_cons,List.length_cons,show k+(l.length+1)=k+1+l.length by omega]
    exact this
 intro hb
 have:=key l 0 0 hb (by omega) (by decide)
 rwa [Nat.zero_add] at this
theorem or_byte {x c:Int} (hx:0≤x∧x < 16777216) (hc:0≤c∧c < 256):orV .u32 (qxe .u32 x 8) c=x * 256+c:=by
 obtain ⟨n,rfl⟩:∃ n:Nat,x=n:=⟨x.toNat,by omega⟩
 obtain ⟨m,rfl⟩:∃ m:Nat,c=m:=⟨c.toNat,by omega⟩
 have h1:qxe .u32 (n:Int) 8=(n:Int) * 2 ^ 8:=shlV_u (k:=.u32) (t:=8) rfl (by decide) (by show n * 2 ^ 8 < 2 ^ 32; omega)
 rw [h1,orV_comm,orV_uadd (k:=.u32) (t:=8) rfl (by omega) (by show m+n * 2 ^ 8 < 2 ^ 32; omega)]
 omega
def fillW (p:List Int) (i:Nat):List Int:=(List.range 80).map fun t=>be (((p.take i).drop (4 * t)).take 4)
theorem qog (p:List Int) (i:Nat):(fillW p i).length=80:=by unfold fillW; rw [List.length_map,List.length_range]
theorem fillW_zero (p:List Int):fillW p 0=List.replicate 80 0:=by
 apply List.ext_getElem
 · simp [fillW]
 · intro i h1 h2
   rw [List.getElem_replicate]
   simp [fillW,be]
theorem fillW_getD {p:List Int} {i t:Nat} (h:t < 80):(fillW p i).getD t 0=be (((p.take i).drop (4 * t)).take 4):=by
 unfold fillW
 rw [List.getD_eq_getElem?_getD,List.getElem?_map,List.getElem?_range h]
 rfl
theorem fillW_bound {p:List Int} {i:Nat} (hp:qsd p) (hi:i < p.length):0≤be (((p.take i).drop (4 * (i / 4))).take 4)∧be (((p.take i).drop (4 * (i / 4))).take 4) < 16777216:=by
 have h:=be_lt (((p.take i).drop (4 * (i / 4))).take 4) (fun x hx=>hp x (List.mem_of_mem_take (List.mem_of_mem_drop (List.mem_of_mem_take hx))))
 refine ⟨h.1,Int.lt_of_lt_of_le h.2 ?_⟩
 have hl:(((p.take i).drop (4 * (i / 4))).take 4).length≤3:=by
  rw [List.length_take,List.length_drop,List.length_take]; omega
 generalize (((p.take i).drop (4 * (i / 4))).take 4).length=n at hl ⊢
 have h3:(256:Nat) ^ n≤256 ^ 3:=Nat.pow_le_pow_right (by decide) hl
 have h4:((256 ^ n:Nat):Int)=256 ^ n:=by rw [Int.natCast_pow]; rfl
 have h5:(256:Nat) ^ 3=16777216:=by decide
 omega
theorem fillW_succ {p:List Int} {i:Nat} (hi:i < p.length) (h64:i < 64):(fillW p i).set (i / 4) (be (((p.take i).drop (4 * (i / 4))).take 4) * 256+p[i])=fillW p (i+1):=by
 apply List.ext_getElem
 · simp [fillW]
 · intro t h1 h2
   simp only [List.length_set,qog] at h1
   have htk:p.take (i+1)=p.take i ++ [p[i]]:=List.take_succ_eq_append_getElem hi
   rw [List.getElem_set]
   simp only [fillW,List.getElem_map,List.getElem_range]
   have hlen:(p.take i).length=i:=by rw [List.length_take]; omega
   by_cases h:i / 4=t
   · subst h
     rw [if_pos rfl,← be_snoc,htk,List.drop_append_of_le_length (by rw [hlen]; omega),List.take_append,List.take_of_length_le (l:=(p.take i).drop _) (by rw [List.length_drop,hlen]; omega)]
     congr 2
     rw [List.length_drop,hlen,List.take_of_length_le]
     simp; omega
   · rw [if_neg h,htk]
     congr 1
     rcases Nat.lt_or_ge t (i / 4) with h3 | h3
     · rw [List.drop_append_of_le_length (by rw [hlen]; omega),List.take_append_of_le_length (by rw [List.length_drop,hlen]; omega)]
     · rw [List.drop_eq_nil_of_le (by rw [hlen]; omega),List.drop_eq_nil_of_le (by rw [List.length_append,hlen]; simp; omega)]
theorem fillW_end {p:List Int} (hp:p.length=64):fillW p 64=base16 p ++ List.replicate 64 0:=by
 apply List.ext_getElem
 · simp [fillW,base16]
 · intro t h1 h2
   rw [List.getElem_append]
   simp only [fillW,List.getElem_map,List.getElem_range,base16,List.length_map,List.length_range]
   have e:p.take 64=p:=List.take_of_length_le (by omega)
   rw [e]
   split
   · rfl
   · rw [List.drop_eq_nil_of_le (by omega)]
     rw [List.getElem_replicate]
     simp [be]
theorem qcg {l m:List Int} {i:Nat} (h:i < l.length):(l ++ m).getD i 0=l.getD i 0:=by
 simp [List.getD,List.getElem?_append_left h]
theorem zc_w80:zc Try.prog 124=⟨qbh (List.replicate 80 0)⟩:=by kernel_rfl
section
variable {F0:List Nat} {w0 w:World} {ps:List As}
theorem St.ldu32 {b o:Nat} {l:List Int} {m:List Value} {i:Nat} {K:Int→Prop} (h:St F0 w0 w (qfb b (qbh l ++ m) :: ps)) (ho:o=i) (hi:i < l.length) (hk:K (l.getD i 0)):ldI .u32 w ⟨b,o,none⟩ K:=by
 subst ho
 refine h.blk.ldI ?_ hk
 rw [List.getElem?_append_left (by rw [qac]; exact hi),qwi hi]
theorem St.ldu32' {b o:Nat} {l:List Int} {i:Nat} {K:Int→Prop} (h:St F0 w0 w (qfb b (qbh l) :: ps)) (ho:o=i) (hi:i < l.length) (hk:K (l.getD i 0)):ldI .u32 w ⟨b,o,none⟩ K:=by
 subst ho
 exact h.blk.ldI (qwi hi) hk
theorem St.stu32 {b o:Nat} {l:List Int} {i:Nat} {v:Int} {K:World→Prop} (h:St F0 w0 w (qfb b (qbh l) :: ps)) (ho:o=i) (hi:i < l.length) (hk:∀ w',St F0 w0 w' (qfb b (qbh (l.set i v)) :: ps)→K w'):Go.Proofs.Ytigmbblgfnkpbaa.st w ⟨b,o,none⟩ (.int .u32 v) K:=by
 subst ho
 refine h.st (by rw [qac]; exact hi) trivial fun w' h=>hk w' ?_
 rw [u32s_set] at h
 exact h
def someW (s x:W5) (n:Nat):List Int :=
 [if 0 < n then IntKind.u32.wrap (s.a+x.a) else s.a,if 1 < n then IntKind.u32.wrap (s.b+x.b) else s.b,if 2 < n then IntKind.u32.wrap (s.c+x.c) else s.c,if 3 < n then IntKind.u32.wrap (s.d+x.d) else s.d,if 4 < n then IntKind.u32.wrap (s.e+x.e) else s.e]
theorem qm.add {hb:Nat} {s x:W5} {tl:List Value} {Q:VWP} (h:St F0 w0 w (qfb hb (qbh s.l ++ tl) :: ps))
 (hk:∀ w',St F0 w0 w' (qfb hb (qbh (addW s x).l ++ tl) :: ps)→Q (.tuple ⟨[]⟩) w'):qm.l1 (some ⟨hb,0,none⟩) ⟨qbh x.l⟩ 0 Q w:=by
 refine loop1 (fun (i:Nat) (i':Int) w=>i'=i∧i≤5∧St F0 w0 w (qfb hb (qbh (someW s x i) ++ tl) :: ps)) (fun i=>5 - i) 0 ⟨rfl,by omega,h⟩ ?_
 clear h
 rintro i i' w I μ ⟨rfl,hi,h⟩ hin
 unfold qm.b1
 refine qlc (fun h1=>?_) (fun h1=>?_)
 · refine ⟨by omega,?_⟩
   have ei:((i:Int)).toNat * 1=i:=by omega
   rw [ei]
   refine ⟨x.l.getD i 0,?_,?_⟩
   · rw [qse]
     exact qwi (by show i < 5; omega)
   refine h.drewK fun w h=>?_
   refine qee (qgh (by omega) (by omega) ?_)
   rw [ei]
   refine h.ldu32 (i:=i) (by omega) (by show i < 5; omega) ?_
   refine qtd ?_
   refine qee (qgh (by omega) (by omega) ?_)
   rw [ei]
   refine h.st (by rw [List.length_append,qac]; show 0+i < 5+tl.length; omega) trivial fun w h=>?_
   refine qw (qq (by omega) (by omega)) ?_
   refine ⟨⟨rfl,rfl⟩,hin (i+1) _ _ ⟨by simp,by omega,?_⟩ (by omega)⟩
   rw [List.set_append_left _ _ (by rw [qac]; show 0+i < 5; omega),u32s_set] at h
   have hc:i=0 ∨ i=1 ∨ i=2 ∨ i=3 ∨ i=4:=by omega
   rcases hc with rfl | rfl | rfl | rfl | rfl <;> exact h
 · have:i=5:=by omega
   subst this
   exact hk w h
theorem qm.rounds {hb:Nat} {s:W5} {tl:List Value} {l:List Int} (hl:l.length=80) {Q:VWP} (h:St F0 w0 w (qfb hb (qbh s.l ++ tl) :: ps))
 (hk:∀ w',St F0 w0 w' (qfb hb (qbh (addW s (rounds l 80 s)).l ++ tl) :: ps)→Q (.tuple ⟨[]⟩) w'):qm.l2 (some ⟨hb,0,none⟩) ⟨qbh l⟩ s.a s.b s.c s.d s.e 0 Q w:=by
 refine loop6 (fun (t:Nat) a b c d e (t':Int) w=>t'=t∧t≤80∧(⟨a,b,c,d,e⟩:W5)=Go.Proofs.Ytigmbblgfnkpbaa.rounds l t s∧St F0 w0 w (qfb hb (qbh s.l ++ tl) :: ps)) (fun t=>80 - t) 0 ⟨rfl,by omega,by rw [Go.Proofs.Ytigmbblgfnkpbaa.rounds],h⟩ ?_
 clear h
 rintro t a b c d e t' w I μ ⟨rfl,ht,hr,h⟩ hin
 unfold qm.b2
 refine qlc (fun h1=>?_) (fun h1=>?_)
 · refine ⟨by omega,?_⟩
   have ei:((t:Int)).toNat * 1=t:=by omega
   rw [ei]
   refine ⟨l.getD t 0,?_,?_⟩
   · rw [qse]
     exact qwi (by omega)
   refine qci.c (by omega) ⟨_,_,rfl,?_⟩
   refine qef.c (by decide) fun w1 hm=>⟨_,rfl,?_⟩
   have h:=h.skip hm
   refine qtd (qtd (qtd (qtd ?_)))
   refine qef.c (by decide) fun w2 hm=>⟨_,rfl,?_⟩
   have h:=h.skip hm
   refine qw (qq (by omega) (by omega)) ?_
   refine ⟨⟨rfl,rfl⟩,hin (t+1) _ _ _ _ _ _ _ ⟨by simp,by omega,?_,h⟩ (by omega)⟩
   rw [Go.Proofs.Ytigmbblgfnkpbaa.rounds,← hr]
   rfl
 · have:t=80:=by omega
   subst this
   unfold qm.j5 qm.j6
   refine qm.add (x:=⟨a,b,c,d,e⟩) h ?_
   rw [hr]
   exact hk
theorem qm.c {hb:Nat} {s:W5} {tl:List Value} {p:List Int} {K:Ending→World→Prop} (hp:p.length=64) (hpb:qsd p) (h:St F0 w0 w (qfb hb (qbh s.l ++ tl) :: ps))
 (hk:∀ w',St F0 w0 w' (qfb hb (qbh (blkF s p).l ++ tl) :: ps)→K (.returned (.tuple ⟨[]⟩)) w'):Calls Try.prog 75 ⟨[.pointer (some ⟨hb,0,none⟩),.agg ⟨u8s p⟩]⟩ w K:=by
 unfold blkF at hk
 refine qnb (qm.ok _ _ _ _ ?_)
 unfold qm
 refine h.new fun n1 w h=>?_
 refine h.new fun n2 w h=>?_
 unfold qm.j1
 refine h.blk1.ldA (cs:=⟨u8s p⟩) (by show (u8s p).length=64; rw [qgb,hp]) (fun i hi=>by rw [Nat.zero_add,qse]) ?_
 have h:St F0 w0 w (qfb n2 (qbh (fillW p 0)) :: qfb hb (qbh s.l ++ tl) :: ps):=by
  have h:=h.at1.drop
  rw [zc_w80] at h
  rw [fillW_zero]
  exact h
 unfold qm.j9
 refine loop1 (fun (i:Nat) (i':Int) w=>i'=i∧i≤64∧St F0 w0 w (qfb n2 (qbh (fillW p i)) :: qfb hb (qbh s.l ++ tl) :: ps)) (fun i=>64 - i) 0 ⟨rfl,by omega,h⟩ ?_
 clear h
 rintro i i' w I μ ⟨rfl,hi,h⟩ hin
 unfold qm.b4
 refine qlc (fun h1=>?_) (fun h1=>?_)
 · refine ⟨by omega,?_⟩
   have ei:((i:Int)).toNat * 1=i:=by omega
   have ei4:((i:Int) / 4).toNat * 1=i / 4:=by omega
   rw [ei]
   refine ⟨p.getD i 0,?_,?_⟩
   · rw [qse]
     exact u8s_get (by omega)
   have hip:i < p.length:=by omega
   have hc:p.getD i 0=p[i]:=by simp [List.getD,hip]
   have hcb:=hpb p[i] (List.getElem_mem hip)
   rw [hc]
   refine ⟨by decide,?_⟩
   rw [tdiv_nn (by omega)]
   refine qw (qq (by omega) (by omega)) ?_
   refine ⟨by decide,?_⟩
   refine qw (qq (by omega) (by omega)) ?_
   refine qgh (by omega) (by omega) ?_
   rw [ei4]
   refine h.ldu32' (i:=i / 4) (by omega) (by rw [qog]; omega) ?_
   rw [fillW_getD (by omega)]
   refine ⟨by decide,qtd ?_⟩
   refine qw (show IntKind.u32.wrap p[i]=p[i] by rw [wrap_u32]; omega) ?_
   refine qw (or_byte (fillW_bound hpb hip) hcb) ?_
   refine qgh (by omega) (by omega) ?_
   rw [ei4]
   refine h.stu32 (i:=i / 4) (by omega) (by rw [qog]; omega) fun w h=>?_
   refine qw (qq (by omega) (by omega)) ?_
   refine ⟨⟨rfl,rfl,rfl⟩,hin (i+1) _ _ ⟨by simp,by omega,?_⟩ (by omega)⟩
   rw [fillW_succ hip (by omega)] at h
   exact h
 have:i=64:=by omega
 subst this
 rw [fillW_end hp] at h
 clear hin hi h1
 unfold qm.j2 qm.j8
 have hb16:(base16 p).length=16:=by simp [base16]
 refine loop1 (fun (t:Nat) (t':Int) w=>t'=(t:Int)+16∧t≤64∧St F0 w0 w (qfb n2 (qbh (growW t (base16 p) ++ List.replicate (64 - t) 0)) :: qfb hb (qbh s.l ++ tl) :: ps)) (fun t=>64 - t) 0 ⟨rfl,by omega,by rw [growW]; exact h⟩ ?_
 clear h
 rintro t t' w I μ ⟨rfl,ht,h⟩ hin
 have hgl:(growW t (base16 p)).length=t+16:=by rw [growW_length,hb16]; omega
 unfold qm.b3
 refine qlc (fun h1=>?_) (fun h1=>?_)
 · refine h.drewK fun w h=>?_
   have hlen:(growW t (base16 p) ++ List.replicate (64 - t) (0:Int)).length=80:=by rw [List.length_append,hgl,List.length_replicate]; omega
   refine qw (qq (by omega) (by omega)) ?_
   refine qgh (by omega) (by omega) ?_
   refine h.ldu32' (i:=t+13) (by omega) (by omega) ?_
   refine qw (qq (by omega) (by omega)) ?_
   refine qgh (by omega) (by omega) ?_
   refine h.ldu32' (i:=t+8) (by omega) (by omega) ?_
   refine qtd ?_
   refine qw (qq (by omega) (by omega)) ?_
   refine qgh (by omega) (by omega) ?_
   refine h.ldu32' (i:=t+2) (by omega) (by omega) ?_
   refine qtd ?_
   refine qw (qq (by omega) (by omega)) ?_
   refine qgh (by omega) (by omega) ?_
   refine h.ldu32' (i:=t) (by omega) (by omega) ?_
   refine qtd ?_
   refine qef.c (by decide) fun w1 hm=>⟨_,rfl,?_⟩
   have h:=h.skip hm
   refine qgh (by omega) (by omega) ?_
   refine h.stu32 (i:=t+16) (by omega) (by omega) fun w h=>?_
   refine qw (qq (by omega) (by omega)) ?_
   refine ⟨⟨rfl,rfl⟩,hin (t+1) _ _ ⟨by omega,by omega,?_⟩ (by omega)⟩
   rw [qcg (by omega),qcg (by omega),qcg (by omega),qcg (by omega)] at h
   have e:growW (t+1) (base16 p) ++ List.replicate (64 - (t+1)) 0=(growW t (base16 p) ++ List.replicate (64 - t) 0).set (t+16)
    (lf (xorV .u32 (xorV .u32 (xorV .u32 ((growW t (base16 p)).getD (t+13) 0) ((growW t (base16 p)).getD (t+8) 0)) ((growW t (base16 p)).getD (t+2) 0)) ((growW t (base16 p)).getD t 0)) 1):=by
    rw [growW_succ,List.set_append_right _ _ (by omega),hgl,Nat.sub_self,show 64 - t=(64 - (t+1))+1 by omega,List.replicate_succ,List.set_cons_zero,List.append_assoc]
    unfold nextW
    rw [hgl]
    rfl
   rw [e]
   exact h
 have:t=64:=by omega
 subst this
 clear hin ht h1
 rw [Nat.sub_self,List.replicate_zero,List.append_nil] at h
 unfold qm.j3
 refine h.drewK fun w h=>?_
 have hw:=h.at1
 refine qee (qgh (by decide) (by decide) ?_)
 refine hw.ldu32 (i:=0) (by decide) (by show 0 < 5; decide) ?_
 refine qee (qgh (by decide) (by decide) ?_)
 refine hw.ldu32 (i:=1) (by decide) (by show 1 < 5; decide) ?_
 refine qee (qgh (by decide) (by decide) ?_)
 refine hw.ldu32 (i:=2) (by decide) (by show 2 < 5; decide) ?_
 refine qee (qgh (by decide) (by decide) ?_)
 refine hw.ldu32 (i:=3) (by decide) (by show 3 < 5; decide) ?_
 refine qee (qgh (by decide) (by decide) ?_)
 refine hw.ldu32 (i:=4) (by decide) (by show 4 < 5; decide) ?_
 unfold qm.j4
 refine h.blk.ldA (cs:=⟨qbh (growW 64 (base16 p))⟩) (by show (qbh _).length=80; rw [qac,hgl]) (fun i hi=>by rw [Nat.zero_add,qse]) ?_
 unfold qm.j7
 exact qm.rounds (by rw [hgl]) hw.at1.drop fun w h=>hk w h
end
end Go.Proofs.Ytigmbblgfnkpbaa
namespace Go.Proofs.Ytigmbblgfnkpbaa
open Go Go.Proofs
set_option linter.unusedVariables false
set_option maxRecDepth 100000
def qbc.j2 (out_7:Sl) (Q:VWP) (w:World):Prop :=
 qhc 44 [sV out_7] w fun r3 w2 =>
 Q (sV r3) w2
def qbc.b1 (v_1 bits_2:Int) (out_7:Sl) (Q:VWP) (nx1:Int→Int→Sl→WP) (w:World):Prop :=
 br (decide (bits_2 > 0)) (
 lt (IntKind.i64.wrap (bits_2 - 8)) fun x4 =>
 (0:Int)≤x4 ∧
 lt (shrV .i64 v_1 x4) fun x5 =>
 lt (IntKind.u8.wrap x5) fun x6 =>
 nw w ⟨[.int .u8 x6]⟩ 5 fun a7 w8 =>
 rdO w8 (some a7) (1 * 1) fun c9 =>
 apK Try.prog 5 w8 out_7.a out_7.len out_7.cap 1 c9 fun s10 w11 =>
 nx1 v_1 x4 s10 w11) (
 qbc.j2 out_7 Q w)
def qbc.l1 (v_1 bits_2:Int) (out_7:Sl) (Q:VWP) (w:World):Prop :=
 ∃ (I:Int→Sl→WP) (μ:Int→Sl→World→Nat),I bits_2 out_7 w∧∀ bits_2:Int,∀ out_7:Sl,∀ w:World,I bits_2 out_7 w→qbc.b1 v_1 bits_2 out_7 Q (fun v_1' bits_2' out_7' w'=>(v_1'=v_1)∧I bits_2' out_7' w'∧μ bits_2' out_7' w' < μ bits_2 out_7 w) w
def qbc.j1 (v_1 bits_2:Int) (out_7:Sl) (Q:VWP) (w:World):Prop :=
 qbc.l1 v_1 bits_2 out_7 Q w
def qbc (b_0:Sl) (v_1:Int) (bits_2:Int) (Q:VWP) (w:World):Prop :=
 qhc 73 [sV b_0] w fun r14 w13 =>
 qbc.j1 v_1 bits_2 r14 Q w13
theorem qbc.ok (b_0:Sl) (v_1:Int) (bits_2:Int) (Q:VWP) (w:World) (h:qbc b_0 v_1 bits_2 Q w):Calls Try.prog 42 ⟨[sV b_0,.int .i64 v_1,.int .i64 bits_2]⟩ w (Ret Q) :=
 qqb [.tmp 6] qed Try.func42 rfl rfl rfl rfl (.pr 1 [sI 1,sI 2,sL 7] (fun a b c w=>qbc.j1 a b c Q w) (.sq [sL 7] (fun a w=>qbc.j2 a Q w) (.bk (.lo [sI 1] [sI 2,sL 7] (fun a b c w=>qbc.l1 a b c Q w) (fun nx1 a b c w=>qbc.b1 a b c Q nx1 w) fun nx1=>.lf)) .lf)) (by kernel_rfl) h
def qmc (b_0:Sl) (v_1:Int) (Q:VWP) (w:World):Prop :=
 qhc 42 [sV b_0,.int .i64 v_1,.int .i64 32] w fun r3 w2 =>
 Q (sV r3) w2
theorem qmc.ok (b_0:Sl) (v_1:Int) (Q:VWP) (w:World) (h:qmc b_0 v_1 Q w):Calls Try.prog 21 ⟨[sV b_0,.int .i64 v_1]⟩ w (Ret Q) :=
 qqb [.tmp 4] qed Try.func21 rfl rfl rfl rfl .lf (by kernel_rfl) h
def qkd (b_0:Sl) (v_1:Int) (Q:VWP) (w:World):Prop :=
 qhc 42 [sV b_0,.int .i64 v_1,.int .i64 64] w fun r3 w2 =>
 Q (sV r3) w2
theorem qkd.ok (b_0:Sl) (v_1:Int) (Q:VWP) (w:World) (h:qkd b_0 v_1 Q w):Calls Try.prog 23 ⟨[sV b_0,.int .i64 v_1]⟩ w (Ret Q) :=
 qqb [.tmp 4] qed Try.func23 rfl rfl rfl rfl .lf (by kernel_rfl) h
end Go.Proofs.Ytigmbblgfnkpbaa
namespace Go.Proofs.Ytigmbblgfnkpbaa
open Go Go.Proofs
set_option linter.unusedVariables false
set_option linter.unusedSimpArgs false
attribute [local irreducible] apK cpK mkK hs
def cellsH (s:W5) (rest:List Int) (n:Int):List Value:=qbh s.l ++ (u8s rest ++ [.int .i64 n])
theorem W5.l_length (s:W5):s.l.length=5:=rfl
theorem qxh {s:W5} {rest:List Int} {n:Int} (h:rest.length=64):(cellsH s rest n)[69]?=some (.int .i64 n):=by
 unfold cellsH
 rw [List.getElem?_append_right (by rw [qac,W5.l_length]; omega),qac,W5.l_length,List.getElem?_append_right (by rw [qgb]; omega),qgb,h]
 rfl
theorem qdg {s:W5} {rest:List Int} {n:Int} (h:rest.length=64):(cellsH s rest n).length=70:=by
 unfold cellsH
 rw [List.length_append,List.length_append,qac,qgb,W5.l_length,h]
 rfl
theorem cellsH_setn {s:W5} {rest:List Int} {n m:Int} (h:rest.length=64):(cellsH s rest n).set 69 (.int .i64 m)=cellsH s rest m:=by
 unfold cellsH
 rw [List.set_append_right _ _ (by rw [qac,W5.l_length]; omega),qac,W5.l_length,List.set_append_right _ _ (by rw [qgb]; omega),qgb,h]
 rfl
theorem cellsH_set {s:W5} {rest:List Int} {n c:Int} {k:Nat} (h:rest.length=64) (hk:k < 64):(cellsH s rest n).set (5+k) (.int .u8 c)=cellsH s (rest.set k c) n:=by
 unfold cellsH
 rw [List.set_append_right _ _ (by rw [qac,W5.l_length]; omega),qac,W5.l_length,show 5+k - 5=k by omega,List.set_append_left _ _ (by rw [qgb]; omega),u8s_set]
theorem cellsH_rest {s:W5} {rest:List Int} {n:Int} (h:rest.length=64) {i:Nat} (hi:i < 64):(cellsH s rest n)[5+i]?=(u8s rest)[i]?:=by
 unfold cellsH
 rw [List.getElem?_append_right (by rw [qac,W5.l_length]; omega),qac,W5.l_length,show 5+i - 5=i by omega,List.getElem?_append_left (by rw [qgb]; omega)]
def shA (hb:Nat) (xs:List Int):As:=exA fun rest:List Int=>ifA (rest.length=64∧rest.take (xs.length % 64)=xs.drop (64 * (xs.length / 64))∧qsd rest) <| qfb hb (cellsH (Go.Proofs.Ytigmbblgfnkpbaa.hs xs (xs.length / 64)) rest (xs.length:Int))
section
variable {F0:List Nat} {w0 w:World} {ps:List As}
theorem shA_o {hb:Nat} {xs:List Int} (h:St F0 w0 w (shA hb xs :: ps)):∃ rest:List Int,rest.length=64∧rest.take (xs.length % 64)=xs.drop (64 * (xs.length / 64))∧qsd rest∧St F0 w0 w (qfb hb (cellsH (hs xs (xs.length / 64)) rest (xs.length:Int)) :: ps):=by
 obtain ⟨rest,h⟩:=h.exE
 obtain ⟨⟨h1,h2,h3⟩,h⟩:=h.ifE
 exact ⟨rest,h1,h2,h3,h⟩
theorem shA_i {hb:Nat} {xs rest:List Int} (h1:rest.length=64) (h2:rest.take (xs.length % 64)=xs.drop (64 * (xs.length / 64))) (h3:qsd rest) (h:St F0 w0 w (qfb hb (cellsH (hs xs (xs.length / 64)) rest (xs.length:Int)) :: ps)):St F0 w0 w (shA hb xs :: ps) :=
 (h.ifI ⟨h1,h2,h3⟩).exI (p:=fun rest:List Int=>ifA (rest.length=64∧rest.take (xs.length % 64)=xs.drop (64 * (xs.length / 64))∧qsd rest) <| qfb hb (cellsH (hs xs (xs.length / 64)) rest (xs.length:Int))) rest
theorem allB_set {l:List Int} {k:Nat} {c:Int} (h:qsd l) (hc:0≤c∧c < 256):qsd (l.set k c):=by
 intro x hx
 rcases List.mem_or_eq_of_mem_set hx with h1 | h1
 · exact h x h1
 · subst h1; exact hc
theorem qib.c {hb:Nat} {xs zs:List Int} {s:Sl} {K:Ending→World→Prop} (h:St F0 w0 w (shA hb xs :: ps)) (hr:∀ w' p,St F0 w0 w' (p :: ps)→Rd w' 1 s (u8s zs)) (hz:qsd zs) (hL:xs.length+zs.length≤1099511627776)
 (hk:∀ w',St F0 w0 w' (shA hb (xs ++ zs) :: ps)→K (.returned (.tuple ⟨[]⟩)) w'):Calls Try.prog 47 ⟨[.pointer (some ⟨hb,0,none⟩),.slice s.a s.len s.cap]⟩ w K:=by
 have hs0:=(hr w _ h).1
 rw [qgb] at hs0
 refine qnb (qib.ok _ _ _ _ ?_)
 unfold qib qib.j1
 refine loop1 (fun (i:Nat) (i':Int) w=>i'=i∧i≤zs.length∧St F0 w0 w (shA hb (xs ++ zs.take i) :: ps)) (fun i=>zs.length - i) 0 ⟨rfl,by omega,by simpa using h⟩ ?_
 clear h
 rintro i i' w I μ ⟨rfl,hi,h⟩ hin
 unfold qib.b1
 refine qlc (fun h1=>?_) (fun h1=>?_)
 · have hiz:i < zs.length:=by omega
   have ei:((i:Int)).toNat * 1=i:=by omega
   refine (hr w _ h).ix (by decide) (by omega) (by omega) fun a ha=>?_
   rw [ei]
   refine (hr w _ h).ldI (n:=zs[i]) ha (by simp [u8s,hiz]) ?_
   have hcb:=hz zs[i] (List.getElem_mem hiz)
   have htk:xs ++ zs.take (i+1)=(xs ++ zs.take i) ++ [zs[i]]:=by rw [List.take_succ_eq_append_getElem hiz,List.append_assoc]
   have hlen:(xs ++ zs.take i).length≤1099511627776:=by rw [List.length_append,List.length_take]; omega
   generalize hy:xs ++ zs.take i=ys at h htk hlen
   generalize zs[i]=c at hcb htk
   refine h.drewK fun w h=>?_
   obtain ⟨rest,r1,r2,r3,h⟩:=shA_o h
   refine qee (h.blk.ldI (o:=69) (qxh r1) ?_)
   refine ⟨by decide,?_⟩
   refine qw (tmod_nn (by omega)) ?_
   have em:(ys.length:Int) % 64=(ys.length % 64:Nat):=by omega
   rw [em]
   have hk64:ys.length % 64 < 64:=Nat.mod_lt _ (by decide)
   refine qee (qgh (by omega) (by omega) ?_)
   have eo:0+5+(((ys.length % 64:Nat):Int)).toNat * 1=5+ys.length % 64:=by omega
   rw [eo]
   refine h.st (by rw [qdg r1]; omega) trivial fun w h=>?_
   rw [cellsH_set r1 hk64] at h
   have r1':(rest.set (ys.length % 64) c).length=64:=by rw [List.length_set]; exact r1
   refine qee (h.blk.ldI (o:=69) (qxh r1') ?_)
   refine qw (qq (by omega) (by omega)) ?_
   refine qee (h.st (o:=69) (by rw [qdg r1']; omega) trivial fun w h=>?_)
   rw [cellsH_setn r1'] at h
   refine qee (h.blk.ldI (o:=69) (qxh r1') ?_)
   refine ⟨by decide,?_⟩
   refine qw (tmod_nn (by omega)) ?_
   have r3':=allB_set (k:=ys.length % 64) r3 hcb
   have r2':(rest.set (ys.length % 64) c).take (ys.length % 64+1)=(ys ++ [c]).drop (64 * (ys.length / 64)):=by
    rw [List.take_succ_eq_append_getElem (by omega),List.getElem_set_self,List.take_set_of_le (Nat.le_refl _),r2,List.drop_append_of_le_length (by omega)]
   have hl1:(ys ++ [c]).length=ys.length+1:=by simp
   refine qzc (fun h2=>?_) (fun h2=>?_)
   · have h2:((ys.length:Int)+1) % 64=0:=by simpa using h2
     refine qee (h.blk.ldA (cs:=⟨u8s (rest.set (ys.length % 64) c)⟩) (by show (u8s _).length=64; rw [qgb,r1']) (fun j hj=>by rw [qse,Nat.zero_add,cellsH_rest r1' hj]) ?_)
     unfold cellsH at h
     refine qm.c r1' r3' h fun w h=>⟨rfl,?_⟩
     refine qw (qq (by omega) (by omega)) ?_
     refine ⟨⟨rfl,rfl,rfl⟩,hin (i+1) _ _ ⟨by simp,by omega,?_⟩ (by omega)⟩
     rw [htk]
     refine shA_i r1' ?_ r3' ?_
     · rw [hl1,show (ys.length+1) % 64=0 by omega,List.take_zero,List.drop_eq_nil_of_le (by rw [hl1]; omega)]
     · rw [hl1,show (ys.length+1) / 64=ys.length / 64+1 by omega,hs,hs_front ys [c] _ (by omega)]
       have e:((ys ++ [c]).drop (64 * (ys.length / 64))).take 64=rest.set (ys.length % 64) c:=by
        rw [← r2',List.take_of_length_le (l:=(rest.set (ys.length % 64) c)) (by omega),List.take_of_length_le (by omega)]
       rw [e]
       exact h
   · have h2:¬ ((ys.length:Int)+1) % 64=0:=by simpa using h2
     refine qw (qq (by omega) (by omega)) ?_
     refine ⟨⟨rfl,rfl,rfl⟩,hin (i+1) _ _ ⟨by simp,by omega,?_⟩ (by omega)⟩
     rw [htk]
     refine shA_i r1' ?_ r3' ?_
     · rw [hl1,show (ys.length+1) % 64=ys.length % 64+1 by omega,show (ys.length+1) / 64=ys.length / 64 by omega]
       exact r2'
     · rw [hl1,show (ys.length+1) / 64=ys.length / 64 by omega,hs_front ys [c] _ (by omega)]
       exact h
 · have:i=zs.length:=by omega
   subst this
   rw [List.take_length] at h
   exact hk w h
end
end Go.Proofs.Ytigmbblgfnkpbaa
namespace Go.Proofs.Ytigmbblgfnkpbaa
open Go Go.Proofs
set_option linter.unusedVariables false
set_option linter.unusedSimpArgs false
attribute [local irreducible] apK cpK mkK hs
theorem zc_hash_size:(zc Try.prog 114).size=70:=by kernel_rfl
theorem new_cells:spl (zc Try.prog 114).toList 0 (⟨[.int .u32 1732584193,.int .u32 4023233417,.int .u32 2562383102,.int .u32 271733878,.int .u32 3285377520]⟩:Array Value)=cellsH init5 (List.replicate 64 0) 0:=by kernel_rfl
def beJ (n j:Nat) (v:Int):List Int:=(List.range j).map fun i=>v / 2 ^ (8 * (n - 1 - i)) % 256
theorem qob (n j:Nat) (v:Int):(beJ n j v).length=j:=by simp [beJ]
theorem beJ_succ (n j:Nat) (v:Int):beJ n (j+1) v=beJ n j v ++ [v / 2 ^ (8 * (n - 1 - j)) % 256]:=by simp [beJ,List.range_succ]
theorem qyh (n j:Nat) (v:Int):qsd (beJ n j v):=by
 intro x hx
 obtain ⟨i,_,rfl⟩:=List.mem_map.1 hx
 omega
section
variable {F0:List Nat} {w0 w:World} {ps:List As}
theorem St.blkrd {b n:Nat} {l:List Value} (h:St F0 w0 w (qfb b l :: ps)) (hn:l.length=n):St F0 w0 w (rdA 1 ⟨some ⟨b,0,none⟩,n,n⟩ l :: ps):=by
 refine h.mp ?_
 rintro F ⟨hb,rfl⟩
 exact ⟨by simp [hn],Or.inr ⟨b,0,l,rfl,hb.rb,rfl,fun i hi=>by rw [Nat.zero_add]⟩⟩
theorem qqd.c {hb:Nat} {xs:List Int} {K:Ending→World→Prop} (h:St F0 w0 w (shA hb xs :: ps)) (hk:∀ tb w',St F0 w0 w' (shA tb xs :: shA hb xs :: ps)→K (.returned (.pointer (some ⟨tb,0,none⟩))) w'):Calls Try.prog 76 ⟨[.pointer (some ⟨hb,0,none⟩)]⟩ w K:=by
 refine qnb (qqd.ok _ _ _ ?_)
 unfold qqd
 obtain ⟨rest,r1,r2,r3,h⟩:=shA_o h
 have hlen:=qdg (s:=hs xs (xs.length / 64)) (n:=(xs.length:Int)) r1
 refine qee (h.blk.ldA (cs:=⟨cellsH (hs xs (xs.length / 64)) rest (xs.length:Int)⟩) hlen (fun j hj=>by rw [qse,Nat.zero_add]) ?_)
 refine h.new fun nb w h=>?_
 refine ⟨hlen,?_⟩
 have hz:(zc Try.prog 114).toList.length=70:=by rw [Array.length_toList]; exact zc_hash_size
 refine h.stA (o:=0) (by rw [hz,Nat.zero_add]; show (cellsH _ _ _).length≤70; omega) ?_ fun w h=>?_
 · intro v hv
   have hv:v ∈ cellsH (hs xs (xs.length / 64)) rest (xs.length:Int):=by simpa using hv
   unfold cellsH at hv
   rcases List.mem_append.1 hv with hv | hv
   · obtain ⟨n,_,rfl⟩:=List.mem_map.1 hv; trivial
   rcases List.mem_append.1 hv with hv | hv
   · obtain ⟨n,_,rfl⟩:=List.mem_map.1 hv; trivial
   · rw [List.mem_singleton.1 hv]; trivial
 · have e:(zc Try.prog 114).toList.take 0 ++ (⟨cellsH (hs xs (xs.length / 64)) rest (xs.length:Int)⟩:Array Value).toList ++ (zc Try.prog 114).toList.drop (0+(⟨cellsH (hs xs (xs.length / 64)) rest (xs.length:Int)⟩:Array Value).size)=cellsH (hs xs (xs.length / 64)) rest (xs.length:Int):=by
    rw [List.take_zero,List.nil_append,List.drop_eq_nil_of_le (by rw [hz]; show 70≤0+(cellsH _ _ _).length; omega),List.append_nil]
   rw [e] at h
   exact hk nb w ((shA_i r1 r2 r3 h).tail fun _ _ _ h=>shA_i r1 r2 r3 h)
theorem new_as {nb:Nat} {l m:List Value} (e:l=m) (h:St F0 w0 w (qfb nb (⟨l⟩:Array Value).toList :: ps)):St F0 w0 w (qfb nb m :: ps):=by
 subst e; exact h
theorem qdi.c {K:Ending→World→Prop} (h:St F0 w0 w ps) (hk:∀ hb w',St F0 w0 w' (shA hb [] :: ps)→K (.returned (.pointer (some ⟨hb,0,none⟩))) w'):Calls Try.prog 46 ⟨[]⟩ w K:=by
 refine qnb (qdi.ok _ _ ?_)
 unfold qdi
 refine ⟨rfl,?_⟩
 refine h.new fun nb w h=>?_
 have h:=new_as new_cells h
 refine hk nb w (shA_i (xs:=[]) (rest:=List.replicate 64 0) (by decide) rfl ?_ ?_)
 · intro x hx
   rw [List.eq_of_mem_replicate hx]; decide
 · have e:hs [] (([]:List Int).length / 64)=init5:=by show hs [] 0=init5; rw [hs]
   rw [e]
   exact h
theorem qbc.c {s:Sl} {xs:List Int} {v:Int} {n:Nat} {K:Ending→World→Prop} (h:St F0 w0 w ps) (hr:Rd w 1 s (u8s xs)) (hL:xs.length≤1099511627776) (hn:n≤8)
 (hk:∀ s' w',s'.len=xs.length+n→s'.cap=s'.len→St F0 w0 w' (rdA 1 s' (u8s (xs ++ beJ n n v)) :: ps)→K (.returned (.slice s'.a s'.len s'.cap)) w'):Calls Try.prog 42 ⟨[.slice s.a s.len s.cap,.int .i64 v,.int .i64 ((8 * n:Nat):Int)]⟩ w K:=by
 refine qnb (qbc.ok _ _ _ _ _ ?_)
 unfold qbc
 refine qtb.c h hr (by omega) fun s1 w h=>⟨s1,rfl,?_⟩
 unfold qbc.j1
 refine loop2 (fun (j:Nat) (b':Int) (o':Sl) w=>b'=((8 * (n - j):Nat):Int)∧j≤n∧St F0 w0 w (qbb 1 o' (u8s (xs ++ beJ n j v)) :: ps)) (fun j=>n - j) 0 ⟨rfl,by omega,by simpa [beJ] using h⟩ ?_
 clear h
 rintro j b' o w I μ ⟨rfl,hj,h⟩ hin
 unfold qbc.b1
 refine qlc (fun h1=>?_) (fun h1=>?_)
 · refine qw (qq (by omega) (by omega)) ?_
   have e:((8 * (n - j):Nat):Int) - 8=((8 * (n - 1 - j):Nat):Int):=by omega
   rw [e]
   refine ⟨by omega,?_⟩
   refine qw (qmh .i64 _ (show 8 * (n - 1 - j)≤64 by omega)) ?_
   refine qw (qai _) ?_
   refine h.new fun nb w h=>?_
   refine h.rdB rfl ?_
   refine h.drop.append_u8 (by rw [List.length_append,qob]; omega) rfl fun s2 w h=>?_
   refine ⟨rfl,hin (j+1) _ _ _ ⟨?_,by omega,?_⟩ (by omega)⟩
   · rw [show n - 1 - j=n - (j+1) by omega]
   · rw [beJ_succ,← List.append_assoc]
     exact h
 · have:j=n:=by omega
   subst this
   have hcap:=h.cap (by decide)
   have hlen:=h.len
   rw [qgb,List.length_append,qob] at hlen
   unfold qbc.j2
   refine qlb.c h.ro hcap fun s3 hs1 hs2 h=>⟨s3,rfl,hk s3 w (by omega) (by omega) h⟩
end
end Go.Proofs.Ytigmbblgfnkpbaa
namespace Go.Proofs.Ytigmbblgfnkpbaa
open Go Go.Proofs
set_option linter.unusedVariables false
set_option linter.unusedSimpArgs false
attribute [local irreducible] apK cpK mkK hs
def okW (s:W5):Prop:=∀ x ∈ s.l,0≤x∧x < 4294967296
theorem okW_hs (xs:List Int):∀ n,okW (hs xs n)
 | 0=>by
   rw [hs]
   intro x hx
   simp [W5.l,init5] at hx
   rcases hx with rfl | rfl | rfl | rfl | rfl <;> decide
 | n+1=>by
   rw [hs]
   unfold blkF
   generalize rounds _ 80 _=y
   generalize hs xs n=z
   intro x hx
   simp only [W5.l,addW,wrap_u32,List.mem_cons,List.not_mem_nil,or_false] at hx
   rcases hx with rfl | rfl | rfl | rfl | rfl <;> omega
theorem qfk:(zc Try.prog 28).size=20:=by kernel_rfl
theorem beJ4 (x:Int):beJ 4 4 x=word4 x:=by
 simp [beJ,word4,List.range_succ]
theorem be8_eq (v:Int):beJ 8 8 v=be8 v:=rfl
section
variable {F0:List Nat} {w0 w:World} {ps:List As}
theorem qmc.c {s:Sl} {xs:List Int} {v:Int} {K:Ending→World→Prop} (h:St F0 w0 w ps) (hr:Rd w 1 s (u8s xs)) (hL:xs.length≤1099511627776)
 (hk:∀ s' w',s'.len=xs.length+4→s'.cap=s'.len→St F0 w0 w' (rdA 1 s' (u8s (xs ++ word4 v)) :: ps)→K (.returned (.slice s'.a s'.len s'.cap)) w'):Calls Try.prog 21 ⟨[.slice s.a s.len s.cap,.int .i64 v]⟩ w K:=by
 refine qnb (qmc.ok _ _ _ _ ?_)
 unfold qmc
 refine qbc.c (n:=4) h hr hL (by decide) fun s' w h1 h2 h=>⟨s',rfl,?_⟩
 rw [beJ4] at h
 exact hk s' w h1 h2 h
theorem qkd.c {s:Sl} {xs:List Int} {v:Int} {K:Ending→World→Prop} (h:St F0 w0 w ps) (hr:Rd w 1 s (u8s xs)) (hL:xs.length≤1099511627776)
 (hk:∀ s' w',s'.len=xs.length+8→s'.cap=s'.len→St F0 w0 w' (rdA 1 s' (u8s (xs ++ be8 v)) :: ps)→K (.returned (.slice s'.a s'.len s'.cap)) w'):Calls Try.prog 23 ⟨[.slice s.a s.len s.cap,.int .i64 v]⟩ w K:=by
 refine qnb (qkd.ok _ _ _ _ ?_)
 unfold qkd
 refine qbc.c (n:=8) h hr hL (by decide) fun s' w h1 h2 h=>⟨s',rfl,?_⟩
 rw [be8_eq] at h
 exact hk s' w h1 h2 h
theorem qye (xs:List Int):(qoe xs).length=20:=rfl
theorem qx.out {tb nb:Nat} {zs:List Int} {c:List Value} (hc:c.length=20) {Q:VWP} (h:St F0 w0 w (shA tb zs :: qfb nb c :: ps))
 (hk:∀ w',St F0 w0 w' ps→Q (.agg ⟨u8s ((hs zs (zs.length / 64)).l.flatMap word4)⟩) w'):qx.j4 ⟨nb,0,none⟩ (some ⟨tb,0,none⟩) ⟨none,0,0⟩ Q w:=by
 unfold qx.j4
 obtain ⟨rest,r1,r2,r3,h⟩:=shA_o h
 have hok:=okW_hs zs (zs.length / 64)
 generalize hs zs (zs.length / 64)=s at h hk hok
 refine qee (h.blk.ldA (cs:=⟨qbh s.l⟩) rfl (fun j hj=>?_) ?_)
 · rw [qse]
   unfold cellsH
   rw [List.getElem?_append_left (by rw [qac,W5.l_length]; omega)]
   congr 1
   omega
 unfold qx.j6
 refine loop2 (fun (i:Nat) (o':Sl) (i':Int) w=>i'=i∧i≤5∧o'.len=4 * i∧St F0 w0 w (rdA 1 o' (u8s ((s.l.take i).flatMap word4)) :: qfb nb c :: ps)) (fun i=>5 - i) 0 ⟨rfl,by omega,rfl,(h.drop.nil 1).ro⟩ ?_
 clear h
 rintro i o i' w I μ ⟨rfl,hi,ho,h⟩ hin
 unfold qx.b1
 refine qlc (fun h1=>?_) (fun h1=>?_)
 · refine ⟨by omega,?_⟩
   have ei:((i:Int)).toNat * 1=i:=by omega
   have hil:i < s.l.length:=by rw [W5.l_length]; omega
   rw [ei]
   refine ⟨s.l[i],?_,?_⟩
   · rw [qse]; simp [qbh,hil]
   have hb:=hok s.l[i] (List.getElem_mem hil)
   refine qw (qq (by omega) (by omega)) ?_
   have hlen:=h.rd.1
   rw [qgb] at hlen
   refine qmc.c h h.rd (by omega) fun o2 w l1 l2 h=>⟨o2,rfl,?_⟩
   refine qw (qq (by omega) (by omega)) ?_
   refine ⟨⟨rfl,rfl⟩,hin (i+1) _ _ _ ⟨by simp,by omega,by omega,?_⟩ (by omega)⟩
   rw [List.take_succ_eq_append_getElem hil,List.flatMap_append,List.flatMap_singleton]
   exact h.tail fun _ _ _ h=>h.drop
 · have:i=5:=by omega
   subst this
   have hfl:s.l.take 5=s.l:=rfl
   rw [hfl] at h
   unfold qx.j5
   refine ⟨by omega,?_⟩
   have hr:=h.rd
   obtain ⟨a,ha,_⟩:=hr.2 0 (by show 0 < 20; decide)
   rw [ha]
   refine qee ⟨⟨u8s (s.l.flatMap word4)⟩,rfl,fun j hj=>?_,?_⟩
   · rw [hr.cell ha (by show j < 20; exact hj),qse]
   refine ⟨rfl,?_⟩
   refine h.at1.stA (o:=0) (by rw [hc]; exact Nat.le_refl 20) ?_ fun w h=>?_
   · intro v hv
     have hv:v ∈ u8s (s.l.flatMap word4):=by simpa using hv
     obtain ⟨n,_,rfl⟩:=List.mem_map.1 hv
     trivial
   · have e:c.take 0 ++ (⟨u8s (s.l.flatMap word4)⟩:Array Value).toList ++ c.drop (0+(⟨u8s (s.l.flatMap word4)⟩:Array Value).size)=u8s (s.l.flatMap word4):=by
      rw [List.take_zero,List.nil_append,List.drop_eq_nil_of_le (by rw [hc]; exact Nat.le_refl 20),List.append_nil]
     rw [e] at h
     refine h.blk.ldA (cs:=⟨u8s (s.l.flatMap word4)⟩) rfl (fun j hj=>by rw [qse,Nat.zero_add]) ?_
     exact hk w h.drop.drop
theorem St.tail1 {p q r:As} (h:St F0 w0 w (p :: q :: r :: ps)):St F0 w0 w (p :: r :: ps):=h.tail fun _ _ _ h=>h.drop
theorem qx.c {hb:Nat} {xs:List Int} {K:Ending→World→Prop} (h:St F0 w0 w (shA hb xs :: ps)) (hL:xs.length≤34359738368)
 (hk:∀ w',St F0 w0 w' (shA hb xs :: ps)→K (.returned (.agg ⟨u8s (qoe xs)⟩)) w'):Calls Try.prog 48 ⟨[.pointer (some ⟨hb,0,none⟩)]⟩ w K:=by
 refine qnb (qx.ok _ _ _ ?_)
 unfold qx
 refine h.new fun nb w h=>?_
 have hz:(zc Try.prog 28).toList.length=20:=by rw [Array.length_toList]; exact qfk
 generalize (zc Try.prog 28).toList=c at h hz
 unfold qx.j1
 refine qqd.c h.at1 fun tb w h=>⟨_,rfl,?_⟩
 refine h.new fun n1 w h=>?_
 have h:=(h.blkrd (n:=1) rfl).at1
 refine qib.c (s:=⟨some ⟨n1,0,none⟩,1,1⟩) (zs:=[128]) h (fun w' p h=>h.drop.rd) (by intro x hx; rw [List.mem_singleton.1 hx]; decide) (by simp; omega) fun w h=>⟨rfl,?_⟩
 have h:=h.tail1
 unfold qx.j2
 refine loop0 (fun (j:Nat) w=>j≤(119 - xs.length % 64) % 64∧St F0 w0 w (shA tb (xs ++ [128] ++ List.replicate j 0) :: shA hb xs :: qfb nb c :: ps)) (fun j=>64 - j) 0 ⟨by omega,by simpa using h⟩ ?_
 clear h
 rintro j w I μ ⟨hj,h⟩ hin
 unfold qx.b2
 obtain ⟨rest,r1,r2,r3,h⟩:=shA_o h
 have hyl:(xs ++ [128] ++ List.replicate j 0).length=xs.length+1+j:=by simp; omega
 refine qee (h.blk.ldI (o:=69) (qxh r1) ?_)
 have h:=shA_i r1 r2 r3 h
 refine ⟨by decide,?_⟩
 refine qw (tmod_nn (by omega)) ?_
 refine qzc (fun h1=>?_) (fun h1=>?_)
 · have h1:¬ ((xs ++ [128] ++ List.replicate j 0).length:Int) % 64=56:=by simpa using h1
   refine h.new fun n2 w h=>?_
   have h:=(h.blkrd (n:=1) rfl).at1
   refine qib.c (s:=⟨some ⟨n2,0,none⟩,1,1⟩) (zs:=[0]) h (fun w' p h=>h.drop.rd) (by intro x hx; rw [List.mem_singleton.1 hx]; decide) (by simp; omega) fun w h=>⟨rfl,?_⟩
   refine ⟨⟨rfl,rfl,rfl⟩,hin (j+1) _ ⟨by omega,?_⟩ (by omega)⟩
   rw [List.replicate_succ',← List.append_assoc]
   exact h.tail1
 · have h1:((xs ++ [128] ++ List.replicate j 0).length:Int) % 64=56:=by simpa using h1
   have hjz:j=(119 - xs.length % 64) % 64:=by omega
   unfold qx.j3
   obtain ⟨rest,r1,r2,r3,h2⟩:=shA_o h.at1
   refine qee (h2.blk.ldI (o:=69) (qxh r1) ?_)
   refine qw (qq (by omega) (by omega)) ?_
   refine qkd.c (s:=⟨none,0,0⟩) (xs:=[]) h ⟨rfl,fun i hi=>by simp [u8s] at hi⟩ (by simp) fun s w l1 l2 h=>⟨s,rfl,?_⟩
   refine qib.c (zs:=be8 (8 * xs.length)) h.at1 (fun w' p h=>h.drop.rd) (qyh 8 8 _) (by rw [hyl]; show _+8≤_; omega) fun w h=>⟨rfl,?_⟩
   have e:xs ++ [128] ++ List.replicate j 0 ++ be8 (8 * xs.length)=padded xs:=by rw [padded,zeros,hjz]
   rw [e] at h
   refine qx.out hz (h.tail1.tail fun _ _ _ h=>h.at1) fun w h=>hk w h
end
end Go.Proofs.Ytigmbblgfnkpbaa
namespace Go.Proofs.Ytigmbblgfnkpbaa
open Go Go.Proofs
set_option linter.unusedVariables false
set_option linter.unusedSimpArgs false
attribute [local irreducible] apK cpK mkK hs qoe
section
variable {F0:List Nat} {w0 w:World} {ps:List As}
theorem qlh (xs:List Int):(u8s (qoe xs)).length=20:=by rw [qgb]; exact qye xs
theorem qoi {l:List Int}:∀ v ∈ (⟨u8s l⟩:Array Value),storable v:=by
 intro v hv
 have hv:v ∈ u8s l:=by simpa using hv
 obtain ⟨n,_,rfl⟩:=List.mem_map.1 hv
 trivial
theorem St.st20 {nb:Nat} {c l:List Value} {K:World→Prop} (h:St F0 w0 w (qfb nb c :: ps)) (hc:c.length=20) (hl:l.length=20) (hs:∀ v ∈ (⟨l⟩:Array Value),storable v)
 (hk:∀ w',St F0 w0 w' (qfb nb l :: ps)→K w'):Go.Proofs.Ytigmbblgfnkpbaa.stA w ⟨nb,0,none⟩ ⟨l⟩ K:=by
 refine h.stA (o:=0) (by show 0+l.length≤c.length; omega) hs fun w' h=>hk w' ?_
 have e:c.take 0 ++ (⟨l⟩:Array Value).toList ++ c.drop (0+(⟨l⟩:Array Value).size)=l:=by
  rw [List.take_zero,List.nil_append,List.drop_eq_nil_of_le (by show c.length≤0+l.length; omega),List.append_nil]
 rwa [e] at h
theorem St.ld20 {nb n:Nat} {l:List Value} {K:Array Value→Prop} (h:St F0 w0 w (qfb nb l :: ps)) (hl:l.length=n) (hk:K ⟨l⟩):ldA w ⟨nb,0,none⟩ n K :=
 h.blk.ldA (cs:=⟨l⟩) hl (fun j hj=>by rw [qse,Nat.zero_add]) hk
theorem qvf.c {s:Sl} {xs:List Int} {K:Ending→World→Prop} (h:St F0 w0 w ps) (hr:∀ w' p q,St F0 w0 w' (p :: q :: ps)→Rd w' 1 s (u8s xs)) (hx:qsd xs) (hL:xs.length≤34359738368)
 (hk:∀ w',St F0 w0 w' ps→K (.returned (.agg ⟨u8s (qoe xs)⟩)) w'):Calls Try.prog 26 ⟨[.slice s.a s.len s.cap]⟩ w K:=by
 refine qnb (qvf.ok _ _ _ ?_)
 unfold qvf
 refine h.new fun nb w h=>?_
 have hz:(zc Try.prog 28).toList.length=20:=by rw [Array.length_toList]; exact qfk
 generalize (zc Try.prog 28).toList=c at h hz
 refine qdi.c h fun hb w h=>⟨_,rfl,?_⟩
 refine qib.c h (fun w' p h=>hr w' p _ h) hx (by simp; omega) fun w h=>⟨rfl,?_⟩
 rw [List.nil_append] at h
 refine qx.c h hL fun w h=>⟨_,rfl,?_⟩
 refine ⟨qlh xs,?_⟩
 refine h.drop.st20 hz (qlh xs) qoi fun w h=>?_
 refine h.ld20 (qlh xs) ?_
 exact hk w h.drop
end
end Go.Proofs.Ytigmbblgfnkpbaa
namespace Go.Proofs.Ytigmbblgfnkpbaa
open Go Go.Proofs
set_option linter.unusedVariables false
set_option linter.unusedSimpArgs false
attribute [local irreducible] apK cpK mkK hs qoe rounds growW
section
variable {F0:List Nat} {w0 w:World} {ps rest:List As}
theorem qvf.d {s:Sl} {xs:List Int} {K:Ending→World→Prop} (h:St F0 w0 w ps) [Rdb F0 w0 s ps 1 (u8s xs)] (hx:qsd xs) (hL:xs.length≤34359738368)
 (hk:∀ w',St F0 w0 w' ps→K (.returned (.agg ⟨u8s (qoe xs)⟩)) w'):Calls Try.prog 26 ⟨[.slice s.a s.len s.cap]⟩ w K :=
 qvf.c h (fun w' p q h=>h.drop.drop.rdb s) hx hL hk
end
end Go.Proofs.Ytigmbblgfnkpbaa
namespace Go.Proofs.Ytigmbblgfnkpbaa
open Go Go.Proofs
set_option linter.unusedVariables false
set_option maxRecDepth 100000
def qqg (b_0:Sl) (Q:VWP) (w:World):Prop :=
 qhc 73 [sV b_0] w fun r3 w2 =>
 nw w2 (⟨[sV r3,.int .i64 0,.int .i64 0]⟩:Array Value) 117 fun a4 w5 =>
 Q (.pointer (some a4)) w5
theorem qqg.ok (b_0:Sl) (Q:VWP) (w:World) (h:qqg b_0 Q w):Calls Try.prog 49 ⟨[sV b_0]⟩ w (Ret Q) :=
 qqb [.tmp 2] qed Try.func49 rfl rfl rfl rfl .lf (by kernel_rfl) h
def qad (r_0:OAd) (Q:VWP) (w:World):Prop :=
 nz r_0 fun a1 =>
 ldI .i64 w (Addr.add a1 2) fun x2 =>
 Q (.int .i64 x2) w
theorem qad.ok (r_0:OAd) (Q:VWP) (w:World) (h:qad r_0 Q w):Calls Try.prog 54 ⟨[.pointer r_0]⟩ w (Ret Q) :=
 qqb [.tmp 2] qed Try.func54 rfl rfl rfl rfl .lf (by kernel_rfl) h
def qdd (r_0:OAd) (Q:VWP) (w:World):Prop :=
 nz r_0 fun a1 =>
 ldI .i64 w (Addr.add a1 2) fun x2 =>
 br (x2 != 0) (
 Q (.int .i64 0) w) (
 lt (World.drew w) fun w3 =>
 nz r_0 fun a4 =>
 ldL w3 (Addr.add a4 0) fun x5 =>
 nz r_0 fun a6 =>
 ldI .i64 w3 (Addr.add a6 1) fun x7 =>
 lt (IntKind.i64.wrap ((x5.len:Int) - x7)) fun x8 =>
 Q (.int .i64 x8) w3)
theorem qdd.ok (r_0:OAd) (Q:VWP) (w:World) (h:qdd r_0 Q w):Calls Try.prog 86 ⟨[.pointer r_0]⟩ w (Ret Q) :=
 qqb [.tmp 2] qed Try.func86 rfl rfl rfl rfl .lf (by kernel_rfl) h
def qkb.j1 (r_0:OAd) (n_1:Int) (Q:VWP) (w:World):Prop :=
 nz r_0 fun a1 =>
 ldI .i64 w (Addr.add a1 2) fun x2 =>
 br (x2 != 0) (
 Q (.slice none 0 0) w) (
 nz r_0 fun a3 =>
 ldI .i64 w (Addr.add a3 1) fun x4 =>
 lt (IntKind.i64.wrap (x4+n_1)) fun x5 =>
 nz r_0 fun a6 =>
 st w (Addr.add a6 1) (.int .i64 x5) fun w7 =>
 lt (World.drew w7) fun w8 =>
 nz r_0 fun a9 =>
 ldL w8 (Addr.add a9 0) fun x10 =>
 nz r_0 fun a11 =>
 ldI .i64 w8 (Addr.add a11 1) fun x12 =>
 lt (IntKind.i64.wrap (x12 - n_1)) fun x13 =>
 nz r_0 fun a14 =>
 ldI .i64 w8 (Addr.add a14 1) fun x15 =>
 bd x15 x10.cap fun n16 =>
 bd x13 n16 fun n17 =>
 lt (⟨qvd x10.a x10.cap n17 1,n16 - n17,x10.cap - n17⟩:Sl) fun s18 =>
 Q (sV s18) w8)
def qkb (r_0:OAd) (n_1:Int) (Q:VWP) (w:World):Prop :=
 nz r_0 fun a19 =>
 ldI .i64 w (Addr.add a19 2) fun x20 =>
 br (x20 == 0) (
 br (decide (n_1 < 0)) (
 nz r_0 fun a21 =>
 st w (Addr.add a21 2) (.int .i64 3) fun w22 =>
 qkb.j1 r_0 n_1 Q w22) (
 qhf 86 [.pointer r_0] w fun r25 w24 =>
 br (decide (n_1 > r25)) (
 nz r_0 fun a26 =>
 st w24 (Addr.add a26 2) (.int .i64 3) fun w27 =>
 qkb.j1 r_0 n_1 Q w27) (
 qkb.j1 r_0 n_1 Q w24))) (
 qkb.j1 r_0 n_1 Q w)
theorem qkb.ok (r_0:OAd) (n_1:Int) (Q:VWP) (w:World) (h:qkb r_0 n_1 Q w):Calls Try.prog 78 ⟨[.pointer r_0,.int .i64 n_1]⟩ w (Ret Q) :=
 qqb [.tmp 4] qed Try.func78 rfl rfl rfl rfl (.pr 1 [sP 0,sI 1] (fun a b w=>qkb.j1 a b Q w) .lf) (by kernel_rfl) h
def qy.j2 (v_5:Int) (Q:VWP) (w:World):Prop :=
 Q (.int .i64 v_5) w
def qy.b1 (t10:Sl) (t11:Int) (v_5 t12:Int) (Q:VWP) (nx1:Sl→Int→Int→Int→WP) (w:World):Prop :=
 br (decide (t12 < t11)) (
 ixS t10.a t10.len t12 1 fun a1 =>
 ldI .u8 w a1 fun x2 =>
 (0:Int)≤8 ∧
 lt (qxe .i64 v_5 8) fun x3 =>
 lt (IntKind.i64.wrap x2) fun x4 =>
 lt (orV .i64 x3 x4) fun x5 =>
 lt (IntKind.i64.wrap (t12+1)) fun x6 =>
 nx1 t10 t11 x5 x6 w) (
 qy.j2 v_5 Q w)
def qy.l1 (t10:Sl) (t11:Int) (v_5 t12:Int) (Q:VWP) (w:World):Prop :=
 ∃ (I:Int→Int→WP) (μ:Int→Int→World→Nat),I v_5 t12 w∧∀ v_5:Int,∀ t12:Int,∀ w:World,I v_5 t12 w→qy.b1 t10 t11 v_5 t12 Q (fun t10' t11' v_5' t12' w'=>(t10'=t10∧t11'=t11)∧I v_5' t12' w'∧μ v_5' t12' w' < μ v_5 t12 w) w
def qy.j3 (v_5:Int) (t10:Sl) (t11 t12:Int) (Q:VWP) (w:World):Prop :=
 qy.l1 t10 t11 v_5 t12 Q w
def qy.j1 (r_0:OAd) (n_1:Int) (v_5:Int) (Q:VWP) (w:World):Prop :=
 qhc 78 [.pointer r_0,.int .i64 n_1] w fun r9 w8 =>
 qy.j3 v_5 r9 (r9.len:Int) 0 Q w8
def qy (r_0:OAd) (n_1:Int) (Q:VWP) (w:World):Prop :=
 qy.j1 r_0 n_1 0 Q w
theorem qy.ok (r_0:OAd) (n_1:Int) (Q:VWP) (w:World) (h:qy r_0 n_1 Q w):Calls Try.prog 77 ⟨[.pointer r_0,.int .i64 n_1]⟩ w (Ret Q) :=
 qqb [.tmp 4] qed Try.func77 rfl rfl rfl rfl (.pr 1 [sP 0,sI 1,sI 5] (fun a b c w=>qy.j1 a b c Q w) (.sq [sI 5] (fun a w=>qy.j2 a Q w) (.sq [sI 5,sL 10,sI 11,sI 12] (fun a b c d w=>qy.j3 a b c d Q w) .lf (.bk (.lo [sL 10,sI 11] [sI 5,sI 12] (fun a b c d w=>qy.l1 a b c d Q w) (fun nx1 a b c d w=>qy.b1 a b c d Q nx1 w) fun nx1=>.lf))) .lf)) (by kernel_rfl) h
def qgc (r_0:OAd) (Q:VWP) (w:World):Prop :=
 qhf 77 [.pointer r_0,.int .i64 4] w fun r3 w2 =>
 Q (.int .i64 r3) w2
theorem qgc.ok (r_0:OAd) (Q:VWP) (w:World) (h:qgc r_0 Q w):Calls Try.prog 50 ⟨[.pointer r_0]⟩ w (Ret Q) :=
 qqb [.tmp 2] qed Try.func50 rfl rfl rfl rfl .lf (by kernel_rfl) h
def qld (r_0:OAd) (Q:VWP) (w:World):Prop :=
 qhf 77 [.pointer r_0,.int .i64 8] w fun r3 w2 =>
 br (decide (r3 < 0)) (
 nz r_0 fun a4 =>
 ldI .i64 w2 (Addr.add a4 1) fun x5 =>
 lt (IntKind.i64.wrap (x5 - 8)) fun x6 =>
 nz r_0 fun a7 =>
 st w2 (Addr.add a7 1) (.int .i64 x6) fun w8 =>
 nz r_0 fun a9 =>
 st w8 (Addr.add a9 2) (.int .i64 5) fun w10 =>
 Q (.int .i64 0) w10) (
 Q (.int .i64 r3) w2)
theorem qld.ok (r_0:OAd) (Q:VWP) (w:World) (h:qld r_0 Q w):Calls Try.prog 52 ⟨[.pointer r_0]⟩ w (Ret Q) :=
 qqb [.tmp 2] qed Try.func52 rfl rfl rfl rfl .lf (by kernel_rfl) h
def qkc (r_0:OAd) (n_1:Int) (Q:VWP) (w:World):Prop :=
 qhc 78 [.pointer r_0,.int .i64 n_1] w fun r3 w2 =>
 qhc 73 [sV r3] w2 fun r6 w5 =>
 qhc 44 [sV r6] w5 fun r9 w8 =>
 Q (sV r9) w8
theorem qkc.ok (r_0:OAd) (n_1:Int) (Q:VWP) (w:World) (h:qkc r_0 n_1 Q w):Calls Try.prog 51 ⟨[.pointer r_0,.int .i64 n_1]⟩ w (Ret Q) :=
 qqb [.tmp 4] qed Try.func51 rfl rfl rfl rfl .lf (by kernel_rfl) h
end Go.Proofs.Ytigmbblgfnkpbaa
namespace Go.Proofs.Ytigmbblgfnkpbaa
open Go Go.Proofs
set_option linter.unusedVariables false
set_option linter.unusedSimpArgs false
attribute [local irreducible] apK cpK mkK
theorem qgk (k:IntKind) {x y:Int} (h:x % 2 ^ k.bits=y % 2 ^ k.bits):k.wrap x=k.wrap y:=by simp only [IntKind.wrap,h]
theorem wrap_mod (k:IntKind) (x:Int):k.wrap x % 2 ^ k.bits=x % 2 ^ k.bits:=by
 simp only [IntKind.wrap]
 split
 · rw [Int.sub_emod_right,Int.emod_emod]
 · rw [Int.emod_emod]
theorem or_byte64 {k:IntKind} (hb:k.bits=64) {v c:Int} (hc:0≤c∧c < 256):orV k (qxe k v 8) c=k.wrap (v * 256+c):=by
 obtain ⟨n,rfl⟩:∃ n:Nat,c=n:=⟨c.toNat,by omega⟩
 unfold orV qxe
 have h8:min (8:Int).toNat k.bits=8:=by rw [hb]; rfl
 rw [h8]
 have e1:=qfh k.bits (k.wrap (v * 2 ^ 8))
 rw [wrap_mod] at e1
 have e2:(BitVec.ofInt k.bits (n:Int)).toNat=n:=qae _ _ (by rw [hb]; omega)
 rw [BitVec.toNat_or,e2]
 generalize (BitVec.ofInt k.bits (k.wrap (v * 2 ^ 8))).toNat=A at e1
 have h28:(2:Int) ^ 8=256:=by decide
 have h64:(2:Int) ^ k.bits=18446744073709551616:=by rw [hb]; decide
 rw [h28,h64] at e1
 obtain ⟨q,rfl⟩:∃ q,A=2 ^ 8 * q:=⟨A / 256,by omega⟩
 have:=Nat.two_pow_add_eq_or_of_lt (i:=8) (b:=n) (by omega) q
 rw [← this]
 apply qgk
 rw [h64]
 have h28n:(2:Nat) ^ 8=256:=by decide
 rw [h28n] at e1 ⊢
 omega
theorem be_fold (k:IntKind) (hb:k.bits=64) (a:Int) (l:List Int) (c:Int) (hc:0≤c∧c < 256):orV k (qxe k (k.wrap (be l)) 8) c=k.wrap (be (l ++ [c])):=by
 rw [or_byte64 hb hc,be_snoc]
 apply qgk
 have h64:(2:Int) ^ k.bits=18446744073709551616:=by rw [hb]; decide
 have:=wrap_mod k (be l)
 rw [h64] at this ⊢
 omega
theorem be_beJ (n:Nat) (v:Int):∀ j,j≤n→be (beJ n j v)=v / 2 ^ (8 * (n - j)) % 2 ^ (8 * j):=by
 intro j
 induction j with
 | zero=>intro _; simp [beJ,be,Int.emod_one]
 | succ j ih =>
   intro hj
   rw [beJ_succ,be_snoc,ih (by omega),show n - 1 - j=n - (j+1) by omega]
   have e1:v / 2 ^ (8 * (n - j))=v / 2 ^ (8 * (n - (j+1))) / 256:=by
    rw [show 8 * (n - j)=8 * (n - (j+1))+8 by omega,Int.pow_add,show (2:Int) ^ 8=256 by decide,Int.ediv_ediv_of_nonneg (Int.le_of_lt (Int.pow_pos (by decide)))]
   have e2:(2:Int) ^ (8 * (j+1))=256 * 2 ^ (8 * j):=by rw [show 8 * (j+1)=8+8 * j by omega,Int.pow_add]; rfl
   rw [e1,e2]
   generalize v / 2 ^ (8 * (n - (j+1)))=x
   have hp:(0:Int) < 2 ^ (8 * j):=Int.pow_pos (by decide)
   generalize (2:Int) ^ (8 * j)=m at hp
   have h1:=Int.mul_ediv_add_emod (x / 256) m
   have h2:=Int.mul_ediv_add_emod x 256
   have h3:=Int.emod_lt_of_pos (x / 256) hp
   have h4:=Int.emod_nonneg (x / 256) (show m ≠ 0 by omega)
   have h5:x=(x / 256 % m * 256+x % 256)+(x / 256 / m) * (256 * m):=by
    have e:(x / 256 / m) * (256 * m)=256 * (m * (x / 256 / m)):=by rw [← Int.mul_assoc,Int.mul_comm (x / 256 / m) 256,Int.mul_assoc,Int.mul_comm (x / 256 / m) m]
    rw [e]; omega
   have h6:=Int.add_mul_emod_self_right (x / 256 % m * 256+x % 256) (x / 256 / m) (256 * m)
   rw [← h5] at h6
   have h7:(x / 256 % m * 256+x % 256) % (256 * m)=x / 256 % m * 256+x % 256:=Int.emod_eq_of_lt (by omega) (by omega)
   rw [h6,h7]
theorem be_beJ' (n:Nat) (v:Int):be (beJ n n v)=v % 2 ^ (8 * n):=by
 rw [be_beJ n v n (Nat.le_refl _),Nat.sub_self,Nat.mul_zero,Int.pow_zero,Int.ediv_one]
theorem be_lt8 {l:List Int} (h:qsd l) {n:Nat} (hn:l.length≤n):0≤be l∧be l < 2 ^ (8 * n):=by
 have:=be_lt l h
 refine ⟨this.1,Int.lt_of_lt_of_le this.2 ?_⟩
 have e:(256:Int) ^ l.length=2 ^ (8 * l.length):=by rw [show (256:Int)=2 ^ 8 by decide,← Int.pow_mul]
 rw [e]
 exact_mod_cast Nat.pow_le_pow_right (by decide) (show 8 * l.length≤8 * n by omega)
def tkS (xs:List Int) (at':Nat) (err n:Int):List Int × Nat × Int :=
 if err=0∧0≤n∧n≤xs.length - at' then ((xs.drop at').take n.toNat,at'+n.toNat,0) else ([],at',if err=0 then 3 else err)
def nuS (xs:List Int) (at':Nat) (err:Int) (n:Nat):Int × Nat × Int :=
 if 9223372036854775807 < be (tkS xs at' err n).1 then (0,at',5) else (be (tkS xs at' err n).1,(tkS xs at' err n).2)
def brA (rb:Nat) (x:List Int × Nat × Int):As:=exA fun s:Sl=>ifA (x.2.1≤x.1.length∧s.len≤s.cap∧qsd x.1∧x.1.length≤1099511627776) <| andA (qfb rb [.slice s.a s.len s.cap,.int .i64 (x.2.1:Int),.int .i64 x.2.2]) (qbb 1 s (u8s x.1))
section
variable {F0:List Nat} {w0 w:World} {ps rest:List As} {rb at':Nat} {xs:List Int} {err:Int}
theorem brA_o (h:St F0 w0 w ps) [PkF brA rb ps (xs,at',err) rest]:∃ s:Sl,at'≤xs.length∧s.len≤s.cap∧s.len=xs.length∧qsd xs∧xs.length≤1099511627776∧St F0 w0 w (qfb rb [.slice s.a s.len s.cap,.int .i64 (at':Int),.int .i64 err] :: qbb 1 s (u8s xs) :: rest):=by
 obtain ⟨s,h⟩:=(h.toF brA rb).exE
 obtain ⟨⟨h1,h2,h3,h4⟩,h⟩:=h.ifE
 have h:=h.split
 have hl:=h.at1.len
 rw [qt] at hl
 exact ⟨s,h1,h2,by simp only at hl; omega,h3,h4,h⟩
theorem brA_i {s:Sl} (h1:at'≤xs.length) (h2:s.len≤s.cap) (h3:qsd xs) (h4:xs.length≤1099511627776) (h:St F0 w0 w (qfb rb [.slice s.a s.len s.cap,.int .i64 (at':Int),.int .i64 err] :: qbb 1 s (u8s xs) :: rest)):St F0 w0 w (brA rb (xs,at',err) :: rest) :=
 (h.join.ifI (c:=at'≤xs.length∧s.len≤s.cap∧qsd xs∧xs.length≤1099511627776) ⟨h1,h2,h3,h4⟩).exI (p:=fun s:Sl=>ifA (at'≤xs.length∧s.len≤s.cap∧qsd xs∧xs.length≤1099511627776) <| andA (qfb rb [.slice s.a s.len s.cap,.int .i64 (at':Int),.int .i64 err]) (qbb 1 s (u8s xs))) s
theorem qqg.c {s:Sl} {K:Ending→World→Prop} (h:St F0 w0 w ps) [Rdb F0 w0 s ps 1 (u8s xs)] (hx:qsd xs) (hL:xs.length≤1099511627776)
 (hk:∀ nb w',St F0 w0 w' (brA nb (xs,0,0) :: ps)→K (.returned (.pointer (some ⟨nb,0,none⟩))) w'):Calls Try.prog 49 ⟨[.slice s.a s.len s.cap]⟩ w K:=by
 refine qnb (qqg.ok _ _ _ ?_)
 unfold qqg
 refine qtb.c h (h.rdb s) (by omega) fun s1 w h=>⟨s1,rfl,?_⟩
 have hc:=h.cap (by decide)
 refine h.new fun nb w h=>?_
 exact hk nb w (brA_i (Nat.zero_le _) hc hx hL h)
theorem qad.c {K:Ending→World→Prop} (h:St F0 w0 w ps) [PkF brA rb ps (xs,at',err) rest] (hk:K (.returned (.int .i64 err)) w):Calls Try.prog 54 ⟨[.pointer (some ⟨rb,0,none⟩)]⟩ w K:=by
 refine qnb (qad.ok _ _ _ ?_)
 unfold qad
 obtain ⟨s,h1,h2,h3,h4,h5,h⟩:=brA_o (rb:=rb) h
 exact qee (h.fI hk)
theorem qdd.r {s:Sl} {K:Ending→World→Prop} (h:St F0 w0 w (qfb rb [.slice s.a s.len s.cap,.int .i64 (at':Int),.int .i64 err] :: rest)) (hl:at'≤s.len) (hL:s.len≤1099511627776)
 (hk:∀ w',St F0 w0 w' (qfb rb [.slice s.a s.len s.cap,.int .i64 (at':Int),.int .i64 err] :: rest)→K (.returned (.int .i64 (if err=0 then (s.len:Int) - at' else 0))) w'):Calls Try.prog 86 ⟨[.pointer (some ⟨rb,0,none⟩)]⟩ w K:=by
 refine qnb (qdd.ok _ _ _ ?_)
 unfold qdd
 refine qee (h.fI (qzc (fun g=>?_) (fun g=>?_)))
 · rw [if_neg (by simpa using g)] at hk
   exact hk w h
 · rw [if_pos (by simpa using g)] at hk
   refine h.drewK fun w h=>?_
   refine qee (h.fL (qee (h.fI ?_)))
   refine qw (qq (by simp only; omega) (by simp only; omega)) ?_
   exact hk w h
theorem qkb.r {s:Sl} {n:Int} {K:Ending→World→Prop} (h:St F0 w0 w (qfb rb [.slice s.a s.len s.cap,.int .i64 (at':Int),.int .i64 err] :: rest)) (hl:at'≤s.len) (hc:s.len≤s.cap) (hL:s.len≤1099511627776)
 (hk:∀ (m:Nat) w',err=0→n=m→m≤s.len - at'→St F0 w0 w' (qfb rb [.slice s.a s.len s.cap,.int .i64 ((at'+m:Nat):Int),.int .i64 0] :: rest)→K (.returned (.slice (qvd s.a s.cap at' 1) (at'+m - at') (s.cap - at'))) w')
 (hk2:∀ w',¬(err=0∧0≤n∧n≤(s.len:Int) - at')→St F0 w0 w' (qfb rb [.slice s.a s.len s.cap,.int .i64 (at':Int),.int .i64 (if err=0 then 3 else err)] :: rest)→K (.returned (.slice none 0 0)) w') :
 Calls Try.prog 78 ⟨[.pointer (some ⟨rb,0,none⟩),.int .i64 n]⟩ w K:=by
 refine qnb (qkb.ok _ _ _ _ ?_)
 unfold qkb
 have bad:∀ (e:Int) w',e ≠ 0→e=(if err=0 then 3 else err)→¬(err=0∧0≤n∧n≤(s.len:Int) - at')→St F0 w0 w' (qfb rb [.slice s.a s.len s.cap,.int .i64 (at':Int),.int .i64 e] :: rest)→qkb.j1 (some ⟨rb,0,none⟩) n (fun v w'=>K (.returned v) w') w':=by
  intro e w he e1 hn h
  unfold qkb.j1
  refine qee (h.fI (br_is (by simpa using he) ?_))
  subst e1
  exact hk2 w hn h
 refine qee (h.fI (qzc (fun g=>?_) (fun g=>?_)))
 · have g:err=0:=by simpa using g
   subst g
   refine qlc (fun g=>?_) (fun g=>?_)
   · refine qee (h.fst trivial fun w h=>?_)
     exact bad 3 w (by decide) rfl (by omega) h
   · refine qdd.r h hl hL fun w h=>⟨_,rfl,?_⟩
     rw [if_pos rfl]
     refine qlc (fun g2=>?_) (fun g2=>?_)
     · refine qee (h.fst trivial fun w h=>?_)
       exact bad 3 w (by decide) rfl (by omega) h
     · obtain ⟨m,rfl⟩:∃ m:Nat,n=m:=⟨n.toNat,by omega⟩
       unfold qkb.j1
       refine qee (h.fI (br_no (by simp) ?_))
       refine qee (h.fI ?_)
       refine qw (qq (by omega) (by omega)) ?_
       refine qee (h.fst trivial fun w h=>?_)
       refine h.drewK fun w h=>?_
       refine qee (h.fL (qee (h.fI ?_)))
       refine qw (qq (by omega) (by omega)) ?_
       refine qee (h.fI ?_)
       refine qyj (n:=at'+m) (by omega) (by simp only; omega) ?_
       refine qyj (n:=at') (by omega) (by omega) (qtd ?_)
       exact hk m w rfl rfl (by omega) (by rw [Int.natCast_add]; exact h)
 · have g:err ≠ 0:=by simpa using g
   exact bad err w g (by rw [if_neg g]) (fun e=>g e.1) h
end
end Go.Proofs.Ytigmbblgfnkpbaa
namespace Go.Proofs.Ytigmbblgfnkpbaa
open Go Go.Proofs
set_option linter.unusedVariables false
set_option linter.unusedSimpArgs false
attribute [local irreducible] apK cpK mkK
theorem tkS_ok {xs:List Int} (hx:qsd xs) (at':Nat) (err n:Int):qsd (tkS xs at' err n).1∧(tkS xs at' err n).1.length≤n.toNat∧(tkS xs at' err n).1.length≤xs.length∧(at'≤xs.length→(tkS xs at' err n).2.1≤xs.length):=by
 unfold tkS
 split
 · refine ⟨fun x h=>hx x (List.mem_of_mem_drop (List.mem_of_mem_take h)),by simp; omega,by simp; omega,fun _=>by simp only; omega⟩
 · exact ⟨fun x h=>by simp at h,by simp,by simp,fun h=>h⟩
theorem take_snoc {xs:List Int} {i:Nat} (h:i < xs.length):xs.take (i+1)=xs.take i ++ [xs.getD i 0]:=by
 rw [List.take_succ_eq_append_getElem h]
 simp [List.getD,List.getElem?_eq_getElem h]
theorem allB_getD {xs:List Int} (hx:qsd xs) {i:Nat} (h:i < xs.length):0≤xs.getD i 0∧xs.getD i 0 < 256:=by
 have:xs.getD i 0=xs[i]:=by simp [List.getD,List.getElem?_eq_getElem h]
 rw [this]; exact hx _ (List.getElem_mem h)
section
variable {F0:List Nat} {w0 w:World} {ps rest:List As} {rb at':Nat} {xs:List Int} {err:Int}
theorem qy.loop {t:Sl} {ys:List Int} {Q:VWP} (h:St F0 w0 w ps) [Rdb F0 w0 t ps 1 (u8s ys)] (hy:qsd ys) (hL:ys.length≤1099511627776)
 (hk:∀ w',St F0 w0 w' ps→Q (.int .i64 (IntKind.i64.wrap (be ys))) w'):qy.j3 0 t ((t.len:Nat):Int) 0 Q w:=by
 unfold qy.j3
 have hl:=(h.rdb t).1
 rw [qt] at hl
 refine loop2 (fun (i:Nat) (v i':Int) w'=>i'=i∧i≤ys.length∧v=IntKind.i64.wrap (be (ys.take i))∧St F0 w0 w' ps) (fun i=>ys.length - i) 0 ⟨rfl,by omega,rfl,h⟩ ?_
 clear h
 rintro i v i' w I μ ⟨rfl,hi,rfl,h⟩ hin
 unfold qy.b1
 refine qlc (fun g=>?_) (fun g=>?_)
 · have hiy:i < ys.length:=by omega
   have hc:=allB_getD hy hiy
   refine h.lx i rfl hiy ⟨by decide,qtd ?_⟩
   refine qw (qq (by omega) (by omega)) ?_
   refine qw (be_fold .i64 rfl 0 _ _ hc) ?_
   rw [← take_snoc hiy]
   refine qw (qq (by omega) (by omega)) ?_
   exact ⟨⟨rfl,rfl⟩,hin (i+1) _ _ _ ⟨by omega,by omega,rfl,h⟩ (by omega)⟩
 · have:i=ys.length:=by omega
   subst this
   rw [List.take_length]
   exact hk w h
theorem qy.c {n:Nat} {K:Ending→World→Prop} (h:St F0 w0 w ps) [PkF brA rb ps (xs,at',err) rest]
 (hk:∀ w',St F0 w0 w' (brA rb (xs,(tkS xs at' err n).2) :: rest)→K (.returned (.int .i64 (IntKind.i64.wrap (be (tkS xs at' err n).1)))) w'):Calls Try.prog 77 ⟨[.pointer (some ⟨rb,0,none⟩),.int .i64 (n:Int)]⟩ w K:=by
 refine qnb (qy.ok _ _ _ _ ?_)
 unfold qy qy.j1
 obtain ⟨s,h1,h2,h3,h4,h5,h⟩:=brA_o (rb:=rb) h
 refine qkb.r h (by omega) h2 (by omega) (fun m w e1 e2 e3 g=>⟨⟨_,_,_⟩,rfl,?_⟩) (fun w hn h=>⟨⟨none,0,0⟩,rfl,?_⟩)
 · have e2:n=m:=by omega
   subst e2 e1
   have h:=g
   have et:tkS xs at' 0 n=((xs.drop at').take n,at'+n,0):=by unfold tkS; rw [if_pos ⟨rfl,by omega,by omega⟩,Int.toNat_natCast]
   rw [et] at hk
   haveI:=h.cutR s at' (at'+n) (s.cap - at') (ys:=(xs.drop at').take n) (by omega) (by omega) h2 (by rw [show at'+n - at'=n by omega])
   refine qy.loop (t:=⟨qvd s.a s.cap at' 1,at'+n - at',s.cap - at'⟩) (ys:=(xs.drop at').take n) h (fun x hx=>h4 x (List.mem_of_mem_drop (List.mem_of_mem_take hx))) (by simp; omega) fun w h=>?_
   exact hk w (brA_i (by omega) h2 h4 h5 h)
 · have et:tkS xs at' err n=([],at',if err=0 then 3 else err):=by unfold tkS; rw [if_neg (by omega)]
   rw [et] at hk
   haveI:=Rdb.nil (F0:=F0) (w0:=w0) (ps:=qfb rb [.slice s.a s.len s.cap,.int .i64 (at':Int),.int .i64 (if err=0 then 3 else err)] :: qbb 1 s (u8s xs) :: rest) 0
   refine qy.loop (t:=⟨none,0,0⟩) (ys:=[]) h (fun x hx=>by cases hx) (by simp) fun w h=>?_
   exact hk w (brA_i h1 h2 h4 h5 h)
theorem nuS_small {n:Nat} (hx:qsd xs) (hn:n≤4):IntKind.i64.wrap (be (tkS xs at' err n).1)=(nuS xs at' err n).1∧(nuS xs at' err n).2=(tkS xs at' err n).2:=by
 have h:=tkS_ok hx at' err n
 have h2:=be_lt8 h.1 (n:=4) (by omega)
 have h3:(2:Int) ^ (8 * 4)=4294967296:=by decide
 rw [h3] at h2
 unfold nuS
 rw [if_neg (by omega),qq (by omega) (by omega)]
 exact ⟨rfl,rfl⟩
theorem qgc.c {K:Ending→World→Prop} (h:St F0 w0 w ps) [PkF brA rb ps (xs,at',err) rest] (hx:qsd xs)
 (hk:∀ w',St F0 w0 w' (brA rb (xs,(nuS xs at' err 4).2) :: rest)→K (.returned (.int .i64 (nuS xs at' err 4).1)) w'):Calls Try.prog 50 ⟨[.pointer (some ⟨rb,0,none⟩)]⟩ w K:=by
 refine qnb (qgc.ok _ _ _ ?_)
 unfold qgc
 obtain ⟨e1,e2⟩:=nuS_small (at':=at') (err:=err) hx (show 4≤4 by decide)
 refine qy.c (n:=4) h fun w h=>⟨_,rfl,?_⟩
 rw [← e2] at h
 rw [e1]
 exact hk w h
theorem qld.c {K:Ending→World→Prop} (h:St F0 w0 w ps) [PkF brA rb ps (xs,at',err) rest] (hx:qsd xs)
 (hk:∀ w',St F0 w0 w' (brA rb (xs,(nuS xs at' err 8).2) :: rest)→K (.returned (.int .i64 (nuS xs at' err 8).1)) w'):Calls Try.prog 52 ⟨[.pointer (some ⟨rb,0,none⟩)]⟩ w K:=by
 refine qnb (qld.ok _ _ _ ?_)
 unfold qld
 have hl0:at'≤xs.length:=by obtain ⟨s,h1,_⟩:=brA_o (rb:=rb) h; exact h1
 refine qy.c (n:=8) h fun w h=>⟨_,rfl,?_⟩
 have hd:((8:Nat):Int)=8:=rfl
 rw [hd] at h ⊢
 have hok:=tkS_ok hx at' err 8
 have h2:=be_lt8 hok.1 (n:=8) (by omega)
 have h3:(2:Int) ^ (8 * 8)=18446744073709551616:=by decide
 rw [h3] at h2
 have hw:=wrap_i64_eq (be (tkS xs at' err 8).1)
 unfold nuS at hk
 rw [hd] at hk
 refine qlc (fun g=>?_) (fun g=>?_)
 · rw [if_pos (by omega)] at hk
   have hat:(tkS xs at' err 8).2=(at'+8,0):=by
    unfold tkS at g ⊢
    split
    · rfl
    · rename_i hn
      rw [if_neg hn] at g
      exact absurd g (by show ¬ IntKind.i64.wrap (be []) < 0; decide)
   rw [hat] at h
   obtain ⟨s,h1,h2,h3,h4,h5,h⟩:=brA_o (rb:=rb) h
   refine qee (h.fI ?_)
   refine qw (qq (by omega) (by omega)) ?_
   refine qee (h.fst trivial fun w h=>?_)
   refine qee (h.fst trivial fun w h=>?_)
   rw [show ((at'+8:Nat):Int) - 8=(at':Int) by omega] at h
   exact hk w (brA_i hl0 h2 h4 h5 h)
 · rw [if_neg (by omega)] at hk
   rw [qq (by omega) (by omega)]
   exact hk w h
theorem qkc.c {n:Int} {K:Ending→World→Prop} (h:St F0 w0 w ps) [PkF brA rb ps (xs,at',err) rest]
 (hk:∀ s' w',St F0 w0 w' (rdA 1 s' (u8s (tkS xs at' err n).1) :: brA rb (xs,(tkS xs at' err n).2) :: rest)→K (.returned (.slice s'.a s'.len s'.cap)) w'):Calls Try.prog 51 ⟨[.pointer (some ⟨rb,0,none⟩),.int .i64 n]⟩ w K:=by
 refine qnb (qkc.ok _ _ _ _ ?_)
 unfold qkc
 obtain ⟨s,h1,h2,h3,h4,h5,h⟩:=brA_o (rb:=rb) h
 refine qkb.r h (by omega) h2 (by omega) (fun m w e1 e2 e3 g=>⟨⟨_,_,_⟩,rfl,?_⟩) (fun w hn h=>⟨⟨none,0,0⟩,rfl,?_⟩)
 · subst e2 e1
   have h:=g
   have et:tkS xs at' 0 m=((xs.drop at').take m,at'+m,0):=by unfold tkS; rw [if_pos ⟨rfl,by omega,by omega⟩,Int.toNat_natCast]
   rw [et] at hk
   have hr:=(h.cutR s at' (at'+m) (s.cap - at') (ys:=(xs.drop at').take m) (by omega) (by omega) h2 (by rw [show at'+m - at'=m by omega])).rd h
   refine qtb.c h hr (by simp; omega) fun s1 w h=>⟨s1,rfl,?_⟩
   refine qlb.c h.ro (h.cap (by decide)) fun s2 _ _ h=>⟨s2,rfl,?_⟩
   exact hk s2 w (h.tail fun _ _ _ h=>brA_i (by omega) h2 h4 h5 h)
 · have et:tkS xs at' err n=([],at',if err=0 then 3 else err):=by unfold tkS; rw [if_neg (by omega)]
   rw [et] at hk
   refine qtb.c (s:=⟨none,0,0⟩) (xs:=[]) h ((Rdb.nil 0).rd h) (by simp) fun s1 w h=>⟨s1,rfl,?_⟩
   refine qlb.c h.ro (h.cap (by decide)) fun s2 _ _ h=>⟨s2,rfl,?_⟩
   exact hk s2 w (h.tail fun _ _ _ h=>brA_i h1 h2 h4 h5 h)
end
end Go.Proofs.Ytigmbblgfnkpbaa
namespace Go.Proofs.Ytigmbblgfnkpbaa
open Go Go.Proofs
set_option linter.unusedVariables false
set_option linter.unusedSimpArgs false
attribute [local irreducible] apK cpK mkK
section
variable {F0:List Nat} {w0 w:World} {ps rest:List As} {xs:List Int}
theorem qlb.d {s:Sl} {ys:List Int} {K:Ending→World→Prop} (h:St F0 w0 w (qbb 1 s (u8s ys) :: ps))
 (hk:∀ s':Sl,s'.len=ys.length→s'.cap=s'.len→St F0 w0 w (rdA 1 s' (u8s ys) :: ps)→K (.returned (.slice s'.a s'.len s'.cap)) w):Calls Try.prog 44 ⟨[.slice s.a s.len s.cap]⟩ w K:=by
 have hl:=h.len
 rw [qt] at hl
 exact qlb.c h.ro (h.cap (by decide)) fun s' h1 h2 h=>hk s' (by omega) (by omega) h
end
end Go.Proofs.Ytigmbblgfnkpbaa
namespace Go.Proofs.Ytigmbblgfnkpbaa
open Go Go.Proofs Go.ChangeShapes Go.WideShapes Go.Deep
set_option linter.unusedVariables false
set_option linter.unusedSimpArgs false
section
variable {H:Type} {enc:TypeId × Value→H} {P:Program} {w:World} {base:Nat} {spare:Nat→Bool} {held:Bool}
instance:Inhabited Sl:=⟨⟨none,0,0⟩⟩
end
end Go.Proofs.Ytigmbblgfnkpbaa
namespace Go.Proofs.Ytigmbblgfnkpbaa
open Go Go.Proofs
set_option linter.unusedVariables false
set_option linter.unusedSimpArgs false
attribute [local irreducible] apK cpK mkK
section
variable {F0:List Nat} {w0 w:World} {ps rest:List As} {xs:List Int}
theorem qmc.d {s:Sl} {v:Int} {K:Ending→World→Prop} (h:St F0 w0 w ps) [Rdb F0 w0 s ps 1 (u8s xs)] (hL:xs.length≤1099511627776)
 (hk:∀ s' w',s'.len=xs.length+4→s'.cap=s'.len→St F0 w0 w' (rdA 1 s' (u8s (xs ++ beJ 4 4 v)) :: ps)→K (.returned (.slice s'.a s'.len s'.cap)) w'):Calls Try.prog 21 ⟨[.slice s.a s.len s.cap,.int .i64 v]⟩ w K:=by
 refine qnb (qmc.ok _ _ _ _ ?_)
 unfold qmc
 exact qbc.c (n:=4) h (h.rdb s) hL (by decide) fun s' w h1 h2 h=>⟨s',rfl,hk s' w h1 h2 h⟩
theorem qkd.d {s:Sl} {v:Int} {K:Ending→World→Prop} (h:St F0 w0 w ps) [Rdb F0 w0 s ps 1 (u8s xs)] (hL:xs.length≤1099511627776)
 (hk:∀ s' w',s'.len=xs.length+8→s'.cap=s'.len→St F0 w0 w' (rdA 1 s' (u8s (xs ++ beJ 8 8 v)) :: ps)→K (.returned (.slice s'.a s'.len s'.cap)) w'):Calls Try.prog 23 ⟨[.slice s.a s.len s.cap,.int .i64 v]⟩ w K:=by
 refine qnb (qkd.ok _ _ _ _ ?_)
 unfold qkd
 exact qbc.c (n:=8) h (h.rdb s) hL (by decide) fun s' w h1 h2 h=>⟨s',rfl,hk s' w h1 h2 h⟩
end
end Go.Proofs.Ytigmbblgfnkpbaa
namespace Go.Proofs.Ytigmbblgfnkpbaa
open Go Go.Proofs
set_option linter.unusedVariables false
set_option linter.unusedSimpArgs false
def nmA (A P:List Nm):List Int:=P.map fun p=>(qqe A p:Int)
theorem qze (A P:List Nm):(nmA A P).length=P.length:=by simp [nmA]
def numA (q:List Int):Int:=if 0 < q.length then q.getD 0 0 else 1879048192
def numB (e:Nat) (q:List Int):Int:=if q.length=2 then q.getD 1 0 else if 2 < q.length then 2147483648+(e:Int) else 1879048192
def edw (q:List Int):List Int:=if 2 < q.length then (q.drop 1).dropLast ++ [q.getD (q.length - 1) 0+2147483648] else []
def wB (ws:List Int):List Int:=ws.flatMap (beJ 4 4)
theorem qkf (ws:List Int):(wB ws).length=4 * ws.length:=by
 induction ws with
 | nil=>rfl
 | cons v ws ih =>
   show (beJ 4 4 v ++ wB ws).length=_
   rw [List.length_append,ih,qob,List.length_cons]
   omega
theorem qhk (a b:List Int):wB (a ++ b)=wB a ++ wB b:=by simp [wB]
theorem wB_one (v:Int):wB [v]=beJ 4 4 v:=by simp [wB]
theorem be4 (v:Int):beJ 4 4 v=[v / 16777216 % 256,v / 65536 % 256,v / 256 % 256,v % 256]:=by
 simp [beJ,List.range,List.range.loop]
theorem mark_last {E D:List Int} {v:Int} (h0:0≤v) (h1:v < 2147483648):(E ++ wB (D ++ [v])).set ((E ++ wB (D ++ [v])).length - 4) (v / 16777216 % 256+128)=E ++ wB (D ++ [v+2147483648]):=by
 rw [qhk,qhk,wB_one,wB_one,← List.append_assoc,← List.append_assoc]
 generalize E ++ wB D=X
 rw [List.length_append,qob,List.set_append_right _ _ (by omega),show X.length+4 - 4 - X.length=0 by omega,be4,be4,List.set_cons_zero]
 congr 1
 rw [List.cons.injEq,List.cons.injEq,List.cons.injEq,List.cons.injEq]
 refine ⟨by omega,by omega,by omega,by omega,rfl⟩
theorem edw_nil {q:List Int} (h:¬ 2 < q.length):edw q=[]:=by unfold edw; rw [if_neg h]
theorem drop1_last {q:List Int} (h:2 < q.length):q.drop 1=(q.drop 1).dropLast ++ [q.getD (q.length - 1) 0]:=by
 have hne:q.drop 1 ≠ []:=fun e=>by
  have:=congrArg List.length e
  rw [List.length_drop,List.length_nil] at this
  omega
 conv=>lhs; rw [← List.dropLast_concat_getLast hne]
 congr 2
 rw [List.getLast_eq_getElem,List.getElem_drop]
 have hl:1+((q.drop 1).length - 1)=q.length - 1:=by rw [List.length_drop]; omega
 simp only [hl]
 rw [List.getD_eq_getElem?_getD,List.getElem?_eq_getElem (by omega)]
 rfl
theorem qrj (q:List Int):(edw q).length=if 2 < q.length then q.length - 1 else 0:=by
 unfold edw
 split
 · simp; omega
 · rfl
def qC (A:List Nm) (c:Cm):List Int:=nmA A c.par
def eG (A:List Nm) (S:List Cm):List Int:=S.flatMap fun c=>edw (qC A c)
theorem eG_snoc (A:List Nm) (S:List Cm) (c:Cm):eG A (S ++ [c])=eG A S ++ edw (qC A c):=by simp [eG]
theorem eG_take {A:List Nm} {S:List Cm} {i:Nat} (h:i < S.length):eG A (S.take (i+1))=eG A (S.take i) ++ edw (qC A S[i]):=by
 rw [List.take_succ_eq_append_getElem h,eG_snoc]
theorem eG_le (A:List Nm) (S:List Cm) (i:Nat):(eG A (S.take i)).length≤(eG A S).length:=by
 have:eG A S=eG A (S.take i) ++ eG A (S.drop i):=by
  unfold eG
  rw [← List.flatMap_append,List.take_append_drop]
 rw [this,List.length_append]
 omega
def drow (qwe q:List Int) (e:Nat) (gd:Int):List Int:=qwe ++ (beJ 4 4 (numA q) ++ (beJ 4 4 (numB e q) ++ beJ 8 8 gd))
def drw (A:List Nm) (g:Nm→Int) (S:List Cm) (j:Nat):List Int:=drow (S.getD j default).qwe.1 (qC A (S.getD j default)) (eG A (S.take j)).length (g (S.getD j default).id * 17179869184+(S.getD j default).date)
theorem drw_len (A:List Nm) (g:Nm→Int) (S:List Cm) (j:Nat):(drw A g S j).length=36:=by
 unfold drw drow
 rw [List.length_append,List.length_append,List.length_append,qob,qob,qob,(S.getD j default).qwe.2.1]
def dG (A:List Nm) (g:Nm→Int) (S:List Cm) (i:Nat):List Int:=(List.range i).flatMap (drw A g S)
theorem dG_succ (A:List Nm) (g:Nm→Int) (S:List Cm) (i:Nat):dG A g S (i+1)=dG A g S i ++ drw A g S i:=by
 unfold dG
 rw [List.range_succ,List.flatMap_append]
 simp
theorem dG_len (A:List Nm) (g:Nm→Int) (S:List Cm) (i:Nat):(dG A g S i).length=36 * i:=by
 induction i with
 | zero=>rfl
 | succ i ih=>rw [dG_succ,List.length_append,ih,drw_len]; omega
def fB (A:List Nm):List Int:=wB (fanL A)
theorem qvh (A:List Nm):(fanL A).length=256:=by unfold fanL; rw [qrc]
theorem fB_len (A:List Nm):(fB A).length=1024:=by unfold fB; rw [qkf,qvh]
def nB (A:List Nm):List Int:=A.flatMap (·.1)
theorem nB_len (A:List Nm):(nB A).length=20 * A.length:=by
 induction A with
 | nil=>rfl
 | cons a A ih =>
   show (a.1 ++ nB A).length=_
   rw [List.length_append,ih,a.2.1,List.length_cons]
   omega
theorem nB_snoc (A:List Nm) (a:Nm):nB (A ++ [a])=nB A ++ a.1:=by simp [nB]
def wrdB:List (List Int):=[[79,73,68,70],[79,73,68,76],[67,68,65,84],[69,68,71,69]]
def ofs (l:List (List Int)) (i:Nat):Nat:=8+(l.length+1) * 12+(l.take i).flatten.length
def tb (l:List (List Int)) (i:Nat):List Int:=(List.range i).flatMap fun j=>wrdB.getD j [] ++ beJ 8 8 (ofs l j)
theorem tb_succ (l:List (List Int)) (i:Nat):tb l (i+1)=tb l i ++ (wrdB.getD i [] ++ beJ 8 8 (ofs l i)):=by
 unfold tb
 rw [List.range_succ,List.flatMap_append]
 simp
theorem ofs_succ {l:List (List Int)} {i:Nat} (h:i < l.length):ofs l (i+1)=ofs l i+l[i].length:=by
 unfold ofs
 rw [List.take_succ_eq_append_getElem h,List.flatten_append,List.length_append]
 simp
 omega
theorem tb_len (l:List (List Int)) {i:Nat} (hi:i≤4):(tb l i).length=12 * i:=by
 induction i with
 | zero=>rfl
 | succ i ih =>
   have hw:(wrdB.getD i []).length=4:=by
    have:i=0 ∨ i=1 ∨ i=2 ∨ i=3:=by omega
    rcases this with rfl | rfl | rfl | rfl <;> rfl
   rw [tb_succ,List.length_append,List.length_append,ih (by omega),qob,hw]
   omega
def hdB (n:Int):List Int:=[67,71,80,72] ++ [1,1,n,0]
def qkh (l:List (List Int)):List Int:=hdB l.length ++ tb l l.length ++ [0,0,0,0] ++ beJ 8 8 (ofs l l.length) ++ l.flatten
def chkB (l:List (List Int)):List Int:=qkh l ++ qoe (qkh l)
def chunkL (A:List Nm) (g:Nm→Int) (S:List Cm):List (List Int):=[fB A,nB A,dG A g S S.length] ++ if (eG A S).length=0 then [] else [wB (eG A S)]
def gB (S:List Cm) (g:Nm→Int):List Int:=chkB (chunkL (S.map (·.id)) g S)
theorem qqc {a b:List Int}:qsd (a ++ b) ↔ qsd a∧qsd b:=by
 unfold qsd
 constructor
 · exact fun h=>⟨fun x hx=>h x (by simp [hx]),fun x hx=>h x (by simp [hx])⟩
 · rintro ⟨h1,h2⟩ x hx
   rcases List.mem_append.1 hx with hx | hx
   · exact h1 x hx
   · exact h2 x hx
theorem qrg {α:Type} {f:α→List Int} {l:List α} (h:∀ x ∈ l,qsd (f x)):qsd (l.flatMap f):=by
 intro y hy
 obtain ⟨x,hx,hy⟩:=List.mem_flatMap.1 hy
 exact h x hx y hy
theorem wB_ok (ws:List Int):qsd (wB ws):=qrg fun v _=>qyh 4 4 v
theorem nm_ok (a:Nm):qsd a.1:=a.2.2
theorem drow_ok {qwe q:List Int} {e:Nat} {gd:Int} (ht:qsd qwe):qsd (drow qwe q e gd):=by
 unfold drow
 rw [qqc,qqc,qqc]
 exact ⟨ht,qyh 4 4 _,qyh 4 4 _,qyh 8 8 _⟩
theorem dG_ok (A:List Nm) (g:Nm→Int) (S:List Cm) (i:Nat):qsd (dG A g S i):=qrg fun j _=>drow_ok (nm_ok _)
theorem nB_ok (A:List Nm):qsd (nB A):=qrg fun a _=>nm_ok a
end Go.Proofs.Ytigmbblgfnkpbaa
namespace Go.Proofs.Ytigmbblgfnkpbaa
open Go Go.Proofs
set_option linter.unusedVariables false
set_option linter.unusedSimpArgs false
attribute [local irreducible] apK cpK mkK br
def clA (sz:Nat) (s:Sl) (cs:List Value):As where
 hd w F:=(s.a=none∧s.len=0∧cs=[]∧F=[]) ∨ ∃ ob rest,s.a=some ⟨ob,0,none⟩∧Blk w ob (cs ++ rest)∧cs.length=s.len * sz∧F=[ob]
 keep:=by
  rintro w w' F G (h | ⟨ob,rest,h1,hb,h2,rfl⟩) m hd
  · exact Or.inl h
  · exact Or.inr ⟨ob,rest,h1,hb.keep m (hd ob (by simp)),h2,rfl⟩
 lt:=by
  rintro w F (⟨_,_,_,rfl⟩ | ⟨ob,rest,h1,hb,h2,rfl⟩) x hx
  · cases hx
  · have:x=ob:=by simpa using hx
    subst this; exact hb.lt
section
variable {F0:List Nat} {w0 w:World} {ps rest:List As} {s:Sl} {sz:Nat} {cs:List Value} {xs:List Int}
theorem St.ocl (h:St F0 w0 w (qbb sz s cs :: ps)):St F0 w0 w (clA sz s cs :: ps):=h.mp (by
 rintro F (⟨rfl,rfl,rfl⟩ | ⟨ob,rs,h1,hb,h2,h3,rfl⟩)
 · exact Or.inl ⟨rfl,rfl,rfl,rfl⟩
 · exact Or.inr ⟨ob,rs,h1,hb,h2,rfl⟩)
theorem St.recapC {s':Sl} (h:St F0 w0 w (clA sz s cs :: ps)) (ha:s'.a=s.a) (hl:s'.len=s.len):St F0 w0 w (clA sz s' cs :: ps):=h.mp (by
 rintro F (⟨h1,h2,h3,rfl⟩ | ⟨ob,rs,h1,hb,h2,rfl⟩)
 · exact Or.inl ⟨by rw [ha]; exact h1,by rw [hl]; exact h2,h3,rfl⟩
 · exact Or.inr ⟨ob,rs,by rw [ha]; exact h1,hb,by rw [hl]; exact h2,rfl⟩)
theorem St.clrd (h:St F0 w0 w (clA sz s cs :: ps)):Rd w sz s cs:=by
 obtain ⟨F,⟨h1,h2,rfl,_⟩ | ⟨ob,rs,h1,hb,h2,_⟩⟩:=h.get
 · exact ⟨by simp [h2],fun i hi=>by simp at hi⟩
 · refine ⟨h2,fun i hi=>⟨_,h1,?_⟩⟩
   rw [qjc,Nat.zero_add,hb.cell,List.getElem?_append_left hi]
instance Rdb.cl:Rdb F0 w0 s (clA sz s cs :: ps) sz cs:=⟨fun h=>h.clrd⟩
theorem St.clx {k:IntKind} {zs:List Int} {i v:Int} {K:World→Prop} (h:St F0 w0 w (clA 1 s (ivs k zs) :: ps)) (j:Nat) (hi:i=j) (hj:j < zs.length) (hk:∀ w',St F0 w0 w' (clA 1 s (ivs k (zs.set j v)) :: ps)→K w'):ixS s.a s.len i 1 fun a=>Go.Proofs.Ytigmbblgfnkpbaa.st w a (.int k v) K:=by
 subst hi
 obtain ⟨F,ho,hst⟩:=h.step
 rcases ho with ⟨h1,h2,h3,_⟩ | ⟨ob,rs,h1,hb,h2,rfl⟩
 · have:(ivs k zs).length=0:=by rw [h3]; rfl
   rw [qt] at this
   omega
 · rw [qt,Nat.mul_one] at h2
   unfold ixS
   rw [h1]
   refine ⟨⟨by omega,by omega⟩,?_⟩
   rw [qjc,Int.toNat_natCast]
   refine hb.st (by rw [List.length_append,qt]; omega) trivial fun w' hm hb'=>hk w' (hst w' [ob] (clA 1 s (ivs k (zs.set j v))) hm (Gr.refl _ _) (Or.inr ⟨ob,rs,h1,?_,?_,rfl⟩))
   · rw [show 0+j * 1=j by omega,List.set_append_left _ _ (by rw [qt]; exact hj),ivs_set] at hb'
     exact hb'
   · rw [qt,List.length_set]; omega
theorem qbc.cl {v:Int} {n:Nat} {K:Ending→World→Prop} (h:St F0 w0 w ps) (hr:Rd w 1 s (u8s xs)) (hL:xs.length≤1099511627776) (hn:n≤8)
 (hk:∀ s' w',s'.len=xs.length+n→s'.cap=s'.len→St F0 w0 w' (clA 1 s' (u8s (xs ++ beJ n n v)) :: ps)→K (.returned (.slice s'.a s'.len s'.cap)) w'):Calls Try.prog 42 ⟨[.slice s.a s.len s.cap,.int .i64 v,.int .i64 ((8 * n:Nat):Int)]⟩ w K:=by
 refine qnb (qbc.ok _ _ _ _ _ ?_)
 unfold qbc
 refine qtb.c h hr (by omega) fun s1 w h=>⟨s1,rfl,?_⟩
 unfold qbc.j1
 refine loop2 (fun (j:Nat) (b':Int) (o':Sl) w=>b'=((8 * (n - j):Nat):Int)∧j≤n∧St F0 w0 w (qbb 1 o' (u8s (xs ++ beJ n j v)) :: ps)) (fun j=>n - j) 0 ⟨rfl,by omega,by simpa [beJ] using h⟩ ?_
 clear h
 rintro j b' o w I μ ⟨rfl,hj,h⟩ hin
 unfold qbc.b1
 refine qlc (fun h1=>?_) (fun h1=>?_)
 · refine qw (qq (by omega) (by omega)) ?_
   have e:((8 * (n - j):Nat):Int) - 8=((8 * (n - 1 - j):Nat):Int):=by omega
   rw [e]
   refine ⟨by omega,?_⟩
   refine qw (qmh .i64 _ (show 8 * (n - 1 - j)≤64 by omega)) ?_
   refine qw (qai _) ?_
   refine h.new fun nb w h=>?_
   refine h.rdB rfl ?_
   refine h.drop.append_u8 (by rw [List.length_append,qob]; omega) rfl fun s2 w h=>?_
   refine ⟨rfl,hin (j+1) _ _ _ ⟨?_,by omega,?_⟩ (by omega)⟩
   · rw [show n - 1 - j=n - (j+1) by omega]
   · rw [beJ_succ,← List.append_assoc]
     exact h
 · have:j=n:=by omega
   subst this
   have hcap:=h.cap (by decide)
   have hlen:=h.len
   rw [qgb,List.length_append,qob] at hlen
   unfold qbc.j2
   refine qnb (qlb.ok _ _ _ ?_)
   unfold qlb
   refine qyj rfl hcap (qyj rfl (Nat.le_refl _) (qtd ⟨_,rfl,?_⟩))
   refine hk _ w ?_ rfl (h.ocl.recapC ?_ ?_)
   · show o.len - 0=_
     omega
   · show qvd o.a o.len 0 1=o.a
     unfold qvd
     split
     · rfl
     · rw [Nat.zero_mul]
       cases o.a with
       | none=>rfl
       | some a=>simp [Addr.add]
   · show o.len - 0=o.len
     omega
theorem qmc.cl {v:Int} {K:Ending→World→Prop} (h:St F0 w0 w ps) [Rdb F0 w0 s ps 1 (u8s xs)] (hL:xs.length≤1099511627776)
 (hk:∀ s' w',s'.len=xs.length+4→s'.cap=s'.len→St F0 w0 w' (clA 1 s' (u8s (xs ++ beJ 4 4 v)) :: ps)→K (.returned (.slice s'.a s'.len s'.cap)) w'):Calls Try.prog 21 ⟨[.slice s.a s.len s.cap,.int .i64 v]⟩ w K:=by
 refine qnb (qmc.ok _ _ _ _ ?_)
 unfold qmc
 exact qbc.cl (n:=4) h (h.rdb s) hL (by decide) fun s' w h1 h2 h=>⟨s',rfl,hk s' w h1 h2 h⟩
end
end Go.Proofs.Ytigmbblgfnkpbaa
namespace Go.Proofs.Ytigmbblgfnkpbaa
open Go Go.Proofs
set_option linter.unusedVariables false
set_option linter.unusedSimpArgs false
attribute [local irreducible] apK cpK mkK br
def slB (L:List (Sl × List Int)):List Value:=L.map fun x=>.slice x.1.a x.1.len x.1.cap
section
variable {F0:List Nat} {w0 w:World} {ps rest:List As} {s:Sl}
theorem St.frontB {sz:Nat} {cs:List Value} (h:St F0 w0 w (qbb sz s cs :: ps)) (m:Nat) (hm:m≤s.len):St F0 w0 w (qbb sz ⟨qvd s.a s.cap 0 sz,m - 0,s.cap - 0⟩ (cs.take (m * sz)) :: ps):=by
 refine h.mp ?_
 rintro F (⟨rfl,rfl,rfl⟩ | ⟨ob,rs,h1,hb,h2,h3,rfl⟩)
 · have:m=0:=by simpa using hm
   subst this
   exact Or.inl ⟨rfl,by simp,rfl⟩
 · refine Or.inr ⟨ob,cs.drop (m * sz) ++ rs,?_,?_,?_,?_,rfl⟩
   · show qvd s.a s.cap 0 sz=_
     unfold qvd
     rw [h1]
     split
     · rfl
     · rw [Option.map_some,qjc,Nat.zero_mul]
   · rw [← List.append_assoc,List.take_append_drop]; exact hb
   · rw [List.length_take,h2]
     exact Nat.min_eq_left (Nat.mul_le_mul_right _ hm)
   · rw [← List.append_assoc,List.take_append_drop]; exact h3
theorem qvc.c {n:Nat} {K:Ending→World→Prop} (h:St F0 w0 w ps) (hn:n≤1000000)
 (hk:∀ t w',t.len=0→St F0 w0 w' (qbb 1 t (ivs .u8 []) :: ps)→K (.returned (.slice t.a t.len t.cap)) w'):Calls Try.prog 74 ⟨[.slice none 0 0,.int .i64 n]⟩ w K:=by
 refine qnb (qvc.ok ⟨none,0,0⟩ _ _ _ ?_)
 unfold qvc
 dsimp only
 refine qlc (fun g=>by omega) (fun _=>?_)
 refine qw (qq (by omega) (by omega)) ?_
 refine qw (qq (by omega) (by omega)) ?_
 have e:(n:Int) - (((0:Nat):Int) - ((0:Nat):Int))=n:=by simp
 rw [e]
 have h:=h.nil 1
 refine qlc (fun g=>?_) (fun g=>hk ⟨none,0,0⟩ w rfl h)
 refine qyj (n:=0) rfl (Nat.le_refl _) (qtd ?_)
 have he:Elt Try.prog 5 (.int .u8 0):=elt_u8
 dsimp only
 refine ⟨⟨by omega,by omega,?_,by omega⟩,?_⟩
 · have hb:=(Elt.bytes (P:=Try.prog) (e:=5) (z:=.int .u8 0))
   have h3:(n:Int) * (Try.prog.bytesOf 5:Int)≤1000000 * 16:=Int.mul_le_mul (by omega) (by omega) (by omega) (by omega)
   exact Int.le_trans h3 (by decide)
 rw [Int.toNat_natCast,he.zc,repL_one]
 refine St.app (s:=⟨none,0,0⟩) (cs2:=List.replicate n (.int .u8 0)) (z:=.int .u8 0) h rfl (by simp) (by rw [List.length_nil]; omega) (fun v hv=>?_) fun s6 w h=>?_
 · have hv:v ∈ List.replicate n (Value.int .u8 0):=by simpa using hv
   rw [(List.mem_replicate.1 hv).2]
   trivial
 refine qyj (n:=0) rfl (Nat.zero_le _) (qtd ?_)
 refine hk ⟨qvd s6.a s6.cap 0 1,0 - 0,s6.cap - 0⟩ w rfl ?_
 have h:=h.frontB 0 (Nat.zero_le _)
 rw [Nat.zero_mul,List.take_zero] at h
 exact h
theorem Rd.lslB {L:List (Sl × List Int)} {i:Int} {K:Sl→Prop} (h:Rd w 1 s (slB L)) (j:Nat) (hi:i=j) (hj:j < L.length) (hk:K L[j].1):ixS s.a s.len i 1 fun a=>ldL w a K:=by
 subst hi
 have hl:=h.1
 rw [show (slB L).length=L.length by simp [slB]] at hl
 refine h.ix (by decide) (by omega) (by omega) fun a ha=>?_
 rw [show ((j:Int)).toNat * 1=j by omega]
 exact ldL_c (by rw [h.cell ha (by simp [slB]; omega)]; simp [slB,hj]) hk
def catB (L:List (Sl × List Int)):List Int:=L.flatMap (·.2)
theorem catB_snoc (L:List (Sl × List Int)) {i:Nat} (h:i < L.length):catB (L.take (i+1))=catB (L.take i) ++ L[i].2:=by
 unfold catB
 rw [List.take_succ_eq_append_getElem h,List.flatMap_append]
 simp
theorem catB_le (L:List (Sl × List Int)) (i:Nat):(catB (L.take i)).length≤(catB L).length:=by
 have:catB L=catB (L.take i) ++ catB (L.drop i):=by
  unfold catB
  rw [← List.flatMap_append,List.take_append_drop]
 rw [this,List.length_append]
 omega
theorem qn.c {L:List (Sl × List Int)} {K:Ending→World→Prop} (h:St F0 w0 w ps) [Rdb F0 w0 s ps 1 (slB L)] (hL:∀ y ∈ L,∀ w,St F0 w0 w ps→Rd w 1 y.1 (ivs .u8 y.2)) (hn:L.length≤1000) (hlen:(catB L).length≤1000000)
 (hk:∀ t w',t.len=(catB L).length→St F0 w0 w' (qbb 1 t (ivs .u8 (catB L)) :: ps)→K (.returned (.slice t.a t.len t.cap)) w'):Calls Try.prog 43 ⟨[.slice s.a s.len s.cap]⟩ w K:=by
 have hl:=(h.rdb s).1
 rw [show (slB L).length=L.length by simp [slB]] at hl
 refine qnb (qn.ok _ _ _ ?_)
 unfold qn qn.j1 qn.j6
 refine loop2 (fun (i:Nat) (z:Int) (i':Int) w'=>i'=i∧i≤L.length∧z=(catB (L.take i)).length∧St F0 w0 w' ps) (fun i=>L.length - i) 0 ⟨rfl,by omega,by simp [catB],h⟩ ?_
 clear h
 rintro i z i' wL I μ ⟨rfl,hi,rfl,h⟩ hin
 have hle:=catB_le L i
 unfold qn.b2
 refine qlc (fun g=>?_) (fun g=>?_)
 · have hix:i < L.length:=by omega
   have hsn:=catB_snoc L hix
   have hle2:=catB_le L (i+1)
   refine (h.rdb s).lslB i rfl hix ?_
   have hy:=(hL L[i] (List.getElem_mem hix) _ h).1
   rw [qt] at hy
   rw [hsn,List.length_append] at hle2
   refine qw (qq (by omega) (by omega)) ?_
   refine qlc (fun g=>by omega) (fun _=>?_)
   refine qw (qq (by omega) (by omega)) ?_
   refine ⟨⟨rfl,rfl,rfl⟩,hin (i+1) _ _ _ ⟨by omega,by omega,?_,h⟩ (by omega)⟩
   rw [hsn,List.length_append]
   omega
 · have:i=L.length:=by omega
   subst this
   rw [List.take_length]
   unfold qn.j2
   refine qvc.c h hlen fun t w ht h=>⟨t,rfl,?_⟩
   unfold qn.j3 qn.j5
   refine loop2 (fun (i:Nat) (o:Sl) (i':Int) w'=>i'=i∧i≤L.length∧St F0 w0 w' (qbb 1 o (ivs .u8 (catB (L.take i))) :: ps)) (fun i=>L.length - i) 0 ⟨rfl,by omega,by simpa [catB] using h⟩ ?_
   clear h
   rintro i o i' wL I μ ⟨rfl,hi,h⟩ hin
   have hle:=catB_le L i
   unfold qn.b1
   refine qlc (fun g=>?_) (fun g=>?_)
   · have hix:i < L.length:=by omega
     have hsn:=catB_snoc L hix
     have hle2:=catB_le L (i+1)
     rw [hsn,List.length_append] at hle2
     refine (h.rdb s).lslB i rfl hix ?_
     haveI:Rdb F0 w0 L[i].1 ps 1 (ivs .u8 L[i].2):=⟨fun h=>hL L[i] (List.getElem_mem hix) _ h⟩
     refine h.appI (s:=o) (s2:=L[i].1) (k:=.u8) (by omega) fun o2 w h=>?_
     refine qw (qq (by omega) (by omega)) ?_
     refine ⟨⟨rfl,rfl⟩,hin (i+1) _ _ _ ⟨by omega,by omega,?_⟩ (by omega)⟩
     rw [hsn]
     exact h
   · have:i=L.length:=by omega
     subst this
     rw [List.take_length] at h
     unfold qn.j4
     have:=h.len
     rw [qt] at this
     exact hk o wL (by omega) h
theorem qvj {nb n:Nat} {l:List Value} [PkB nb ps l rest] (hn:l.length=n):Rdb F0 w0 ⟨some ⟨nb,0,none⟩,n,n⟩ ps 1 l:=⟨fun h=>by
 have hb:=(h.toB nb).blk
 refine ⟨by rw [Nat.mul_one]; exact hn,fun i hi=>⟨_,rfl,?_⟩⟩
 rw [qjc,Nat.zero_add,hb.cell]⟩
end
end Go.Proofs.Ytigmbblgfnkpbaa
namespace Go.Proofs.Ytigmbblgfnkpbaa
open Go Go.Proofs
set_option linter.unusedVariables false
set_option linter.unusedSimpArgs false
attribute [local irreducible] apK cpK mkK br qoe
def apA (s:Sl) (cs:List Value):As:=exA fun b:Bool=>ifA (b=true ∨ s.cap=s.len) (if b then qbb 1 s cs else rdA 1 s cs)
section
variable {F0:List Nat} {w0 w:World} {ps rest:List As} {s t:Sl} {xs ys zs:List Int} {cs:List Value}
theorem St.apO (h:St F0 w0 w (qbb 1 s cs :: ps)):St F0 w0 w (apA s cs :: ps):=St.exI true (St.ifI (Or.inl rfl) h)
theorem St.apR (h:St F0 w0 w (rdA 1 s cs :: ps)) (hc:s.cap=s.len):St F0 w0 w (apA s cs :: ps):=St.exI false (St.ifI (Or.inr hc) h)
theorem St.ap0 (h:St F0 w0 w ps):St F0 w0 w (apA ⟨none,0,0⟩ (u8s []) :: ps):=St.apO (h.nil 1)
theorem St.apE (h:St F0 w0 w (apA s cs :: ps)):St F0 w0 w (qbb 1 s cs :: ps) ∨ (s.cap=s.len∧St F0 w0 w (rdA 1 s cs :: ps)):=by
 obtain ⟨b,h⟩:=h.exE
 obtain ⟨hc,h⟩:=h.ifE
 cases b with
 | true=>exact Or.inl h
 | false=>exact Or.inr ⟨hc.resolve_left (by decide),h⟩
instance Rdb.ap:Rdb F0 w0 s (apA s cs :: ps) 1 cs:=⟨fun h=>by
 rcases h.apE with h | ⟨_,h⟩
 · exact h.rdb s
 · exact h.rdb s⟩
theorem St.appFc {P:Program} {e:TypeId} {z:Value} {k:IntKind} {c:Array Value} {n:Nat} {K:Sl→World→Prop} [he:Elt P e z] (h:St F0 w0 w ps) [Rdb F0 w0 s ps 1 (ivs k zs)] (hcv:c=⟨ivs k ys⟩) (hn:ys.length=n) (hc:s.cap=s.len) (hy:0 < n) (hlen:zs.length+n≤1099511627776)
 (hk:∀ s' w',St F0 w0 w' (qbb 1 s' (ivs k (zs ++ ys)) :: ps)→K s' w'):apK P e w s.a s.len s.cap n c K:=by
 subst hcv
 have hr:=h.rdb s
 have hl:=hr.1
 rw [qt] at hl
 obtain ⟨i,h1,h2,h3,h4⟩:=he.info
 have hbo:P.bytesOf e=i.bytes:=by simp [Program.bytesOf,h1]
 unfold apK withSz
 simp only [h1,h2]
 rw [if_neg (by omega)]
 refine ⟨⟨?_,by rw [hbo]; exact h3⟩,?_⟩
 · rw [hbo]
   have:=next_le (s.len+n) s.cap (by omega) (by omega)
   refine Nat.le_trans (Nat.mul_le_mul this h4) ?_
   rw [show (2:Nat) ^ 48=281474976710656 from rfl]
   omega
 · refine hr.rdO (by rw [qt]; omega) fun c hcc=>?_
   have hbl:=Blk.new w.drew (ivs k zs ++ ivs k ys ++ qie (c - (s.len+n)) (zc P e).toList) e
   have e1:((⟨ivs k zs⟩:Array Value) ++ (⟨ivs k ys⟩:Array Value) ++ ⟨qie (c - (s.len+n)) (zc P e).toList⟩)=⟨ivs k zs ++ ivs k ys ++ qie (c - (s.len+n)) (zc P e).toList⟩:=by
    apply Array.ext'
    simp
   rw [e1]
   refine hk _ _ (h.add (f':=[w.heap.size]) (((Mod.drew w).trans (Mod.alloc w.drew _) (fun _ hx=>by cases hx)).mono (fun _ hx=>by cases hx)) ?_ ?_)
   · rw [← qkj]
     refine Or.inr ⟨w.heap.size,_,rfl,hbl,?_,?_,rfl⟩
     · show _=(s.len+n) * 1
       rw [List.length_append,qt,qt]; omega
     · show _=c * 1
       rw [List.length_append,List.length_append,qt,qt,qgd,he.zc]
       show _+(c - (s.len+n)) * 1=_
       omega
   · intro x hx
     have:x=w.heap.size:=by simpa using hx
     exact Or.inr (by omega)
theorem St.apx {P:Program} {e:TypeId} {z:Value} {c:Array Value} {n:Nat} {K:Sl→World→Prop} [he:Elt P e z] (h:St F0 w0 w (apA s (u8s xs) :: ps)) (hcv:c=⟨u8s ys⟩) (hn:ys.length=n) (hy:0 < n) (hlen:xs.length+n≤1099511627776)
 (hk:∀ s' w',St F0 w0 w' (qbb 1 s' (u8s (xs ++ ys)) :: ps)→K s' w'):apK P e w s.a s.len s.cap n c K:=by
 rcases h.apE with h | ⟨hc,h⟩
 · exact h.app (cs:=u8s xs) (cs2:=u8s ys) hcv (by rw [qt]; exact hn) (by rw [qt]; exact hlen) qbe fun s' w h=>hk s' w (by show St F0 w0 w (qbb 1 s' (ivs .u8 (xs ++ ys)) :: ps); rw [← qkj]; exact h)
 · exact h.appFc (zs:=xs) (ys:=ys) (k:=.u8) hcv hn hc hy hlen fun s' w h=>hk s' w (h.tail fun _ _ _ h=>h.drop)
theorem St.apxR {P:Program} {e:TypeId} {z:Value} {K:Sl→World→Prop} [he:Elt P e z] (h:St F0 w0 w (apA s (u8s xs) :: ps)) [hr:Rdb F0 w0 t (apA s (u8s xs) :: ps) 1 (u8s ys)] (hy:0 < ys.length) (hlen:xs.length+ys.length≤1099511627776)
 (hk:∀ s' w',St F0 w0 w' (qbb 1 s' (u8s (xs ++ ys)) :: ps)→K s' w'):rdO w t.a (t.len * 1) fun c=>apK P e w s.a s.len s.cap t.len c K:=by
 have hr:=h.rdb t
 have hl:=hr.1
 rw [qt] at hl
 refine hr.rdO (by rw [qt]; omega) ?_
 exact h.apx rfl (by omega) (by omega) (by omega) hk
theorem cutP_b (b o:Nat):cutP ⟨b,o,none⟩ 20 0 1=some ⟨b,o,none⟩:=by
 unfold cutP
 rw [if_neg (by decide),qjc,Nat.zero_mul,Nat.add_zero]
theorem ixS_blk {b n:Nat} {i:Int} {X:Addr→Prop} (j:Nat) (hi:i=j) (hj:j < n) (hk:X ⟨b,j,none⟩):ixS (some ⟨b,0,none⟩) n i 1 X:=by
 subst hi
 unfold ixS
 refine ⟨⟨by omega,by omega⟩,?_⟩
 rw [qjc]
 simpa using hk
def wrdS:List ByteArray:=[⟨#[79,73,68,70]⟩,⟨#[79,73,68,76]⟩,⟨#[67,68,65,84]⟩,⟨#[69,68,71,69]⟩]
theorem wrdS_cells:∀ j < 4,∃ h:j < wrdS.length,strCells wrdS[j] (ByteArray.size wrdS[j])=⟨u8s (wrdB.getD j [])⟩∧ByteArray.size wrdS[j]=4:=by
 intro j hj
 have:j=0 ∨ j=1 ∨ j=2 ∨ j=3:=by omega
 rcases this with rfl | rfl | rfl | rfl <;> exact ⟨by decide,by kernel_rfl,by kernel_rfl⟩
theorem wrdB_len {j:Nat} (hj:j < 4):(wrdB.getD j []).length=4:=by
 have:j=0 ∨ j=1 ∨ j=2 ∨ j=3:=by omega
 rcases this with rfl | rfl | rfl | rfl <;> rfl
theorem St.sealed {b:Nat} {K:Sl→World→Prop} {P:Program} {e:TypeId} {z:Value} [he:Elt P e z] (h:St F0 w0 w (qfb b (u8s ys) :: apA s (u8s xs) :: ps)) (hy:ys.length=20) (hlen:xs.length≤1000000000)
 (hk:∀ s' w',St F0 w0 w' (qbb 1 s' (u8s (xs ++ ys)) :: ps)→K s' w') :
 lt (⟨cutP ⟨b,0,none⟩ 20 0 1,20 - 0,20 - 0⟩:Sl) fun s21=>rdO w s21.a (s21.len * 1) fun c=>apK P e w s.a s.len s.cap s21.len c K:=by
 rw [cutP_b]
 refine qtd ?_
 have h2:St F0 w0 w (apA s (u8s xs) :: qfb b (u8s ys) :: ps):=h.at1
 haveI:Rdb F0 w0 ⟨some ⟨b,0,none⟩,20,20⟩ (apA s (u8s xs) :: qfb b (u8s ys) :: ps) 1 (u8s ys):=qvj (by rw [qgb,hy])
 exact h2.apxR (t:=⟨some ⟨b,0,none⟩,20,20⟩) (by omega) (by omega) fun s' w h=>hk s' w (h.tail fun _ _ _ h=>h.drop)
theorem qab.go {L:List (Sl × List Int)} {Q:VWP} {b:Nat} {K:Ending→World→Prop} (h:St F0 w0 w (qfb b (wrdS.map Value.string) :: ps)) [Rdb F0 w0 s ps 1 (slB L)] (h4:L.length≤4) (h3:0 < (catB L).length)
 (hL:∀ y ∈ L,∀ w,St F0 w0 w ps→Rd w 1 y.1 (ivs .u8 y.2)) (hB:∀ y ∈ L,qsd y.2) (hlen:(catB L).length≤1000000)
 (hk:∀ t w',(t.len=(chkB (L.map Prod.snd)).length∧t.cap=t.len)→St F0 w0 w' (rdA 1 t (u8s (chkB (L.map Prod.snd))) :: ps)→Q (sV t) w') :
 qab.j2 s ⟨some ⟨b,0,none⟩,4,4⟩ Q w:=by
 have hl:=(h.drop.rdb s).1
 rw [show (slB L).length=L.length by simp [slB],Nat.mul_one] at hl
 have hcf:(L.map Prod.snd).flatten=catB L:=by simp [catB,List.flatMap_def]
 have ho:∀ i,ofs (L.map Prod.snd) i≤2000000:=fun i=>by
  unfold ofs
  have:(L.map Prod.snd).flatten=((L.map Prod.snd).take i).flatten ++ ((L.map Prod.snd).drop i).flatten:=by rw [← List.flatten_append,List.take_append_drop]
  have h2:=congrArg List.length this
  rw [List.length_append,hcf] at h2
  rw [List.length_map]
  omega
 unfold qab.j2
 refine h.new fun cb w h=>?_
 have h:St F0 w0 w (qfb cb (u8s [67,71,80,72]) :: qfb b (wrdS.map Value.string) :: ps):=h
 refine h.str (n:=4) rfl fun w h=>?_
 refine qw (e':=(L.length:Int)) (by rw [qai]; omega) ?_
 refine h.new fun nb w h=>?_
 have h:St F0 w0 w (qfb nb (u8s [1,1,(L.length:Int),0]) :: rdA 1 ⟨some ⟨cb,0,none⟩,4,4⟩ (u8s [67,71,80,72]) :: qfb b (wrdS.map Value.string) :: ps):=h
 haveI:Rdb F0 w0 ⟨some ⟨nb,0,none⟩,4,4⟩ (qfb nb (u8s [1,1,(L.length:Int),0]) :: rdA 1 ⟨some ⟨cb,0,none⟩,4,4⟩ (u8s [67,71,80,72]) :: qfb b (wrdS.map Value.string) :: ps) 1 (u8s [1,1,(L.length:Int),0]):=qvj rfl
 refine St.appF (s:=⟨some ⟨cb,0,none⟩,4,4⟩) (s2:=⟨some ⟨nb,0,none⟩,4,4⟩) (zs:=[67,71,80,72]) (ys:=[1,1,(L.length:Int),0]) (k:=.u8) h rfl (by show 0 < 4; decide) (by show 4+4≤_; decide) fun o w h=>?_
 have h:St F0 w0 w (qbb 1 o (u8s (hdB L.length)) :: _):=h
 have h:St F0 w0 w (apA o (u8s (hdB L.length ++ tb (L.map Prod.snd) 0)) :: qfb b (wrdS.map Value.string) :: ps):=by
  have e:hdB L.length ++ tb (L.map Prod.snd) 0=hdB L.length:=by simp [tb]
  rw [e]
  exact (h.apO).tail fun _ _ _ h=>h.drop.drop
 have hol:=(h.rdb o).1
 rw [qgb,Nat.mul_one,show (hdB L.length ++ tb (L.map Prod.snd) 0).length=8 by simp [tb,hdB]] at hol
 refine qw (e':=(L.length:Int)+1) (by rw [qq (by omega) (by omega)]; omega) ?_
 refine qw (qq (by omega) (by omega)) ?_
 refine qw (e':=(ofs (L.map Prod.snd) 0:Int)) (by rw [qq (by omega) (by omega)]; unfold ofs; simp; omega) ?_
 unfold qab.j3 qab.j5
 refine loop3 (fun (i:Nat) (o:Sl) (a i':Int) w'=>i'=(i:Int)∧i≤L.length∧a=(ofs (L.map Prod.snd) i:Int)∧St F0 w0 w' (apA o (u8s (hdB L.length ++ tb (L.map Prod.snd) i)) :: qfb b (wrdS.map Value.string) :: ps)) (fun i=>L.length - i) 0 ⟨rfl,Nat.zero_le _,rfl,h⟩ ?_
 clear h hol
 rintro i o _ _ wL I μ ⟨rfl,hi,rfl,h⟩ hin
 have htl:=tb_len (L.map Prod.snd) (i:=i) (by omega)
 have hxl:(hdB (L.length:Int) ++ tb (L.map Prod.snd) i).length≤100:=by rw [List.length_append,htl]; show 8+_≤_; omega
 have hoi:=ho i
 unfold qab.b1
 refine qlc (fun g=>?_) (fun g=>?_)
 · have hix:i < L.length:=by omega
   refine (h.rdb s).lslB i rfl hix ?_
   obtain ⟨hw,hc,hs⟩:=wrdS_cells i (by omega)
   refine ixS_blk i rfl (show i < 4 by omega) ?_
   refine (h.toB b).blk.ldS (n:=wrdS[i]) ?_ ⟨rfl,?_⟩
   · rw [List.getElem?_map,List.getElem?_eq_getElem hw]; rfl
   rw [hc,hs]
   refine qtd ?_
   refine h.apx (ys:=wrdB.getD i []) rfl (wrdB_len (by omega)) (by decide) (by omega) fun o2 w h=>?_
   refine qkd.d (s:=o2) (xs:=hdB L.length ++ tb (L.map Prod.snd) i ++ wrdB.getD i []) h (by rw [List.length_append,wrdB_len (by omega)]; omega) fun o3 w h1 h2 h=>⟨o3,rfl,?_⟩
   have hoi2:=ho (i+1)
   have hos:=ofs_succ (l:=L.map Prod.snd) (i:=i) (by rw [List.length_map]; exact hix)
   have hyl:L[i].1.len=L[i].2.length:=by
    have:=(hL L[i] (List.getElem_mem hix) w h.drop.drop.drop).1
    rw [qt,Nat.mul_one] at this
    exact this.symm
   rw [List.getElem_map] at hos
   refine qw (e':=(ofs (L.map Prod.snd) (i+1):Int)) (by rw [qq (by omega) (by omega)]; omega) ?_
   refine qw (e':=((i+1:Nat):Int)) (by rw [qq (by omega) (by omega)]; rfl) ?_
   refine ⟨⟨rfl,rfl,rfl,rfl⟩,hin (i+1) _ _ _ _ ⟨rfl,by omega,rfl,?_⟩ (by omega)⟩
   rw [tb_succ,← List.append_assoc,← List.append_assoc]
   exact (h.apR h2).tail fun _ _ _ h=>h.drop
 · have:i=L.length:=by omega
   subst this
   unfold qab.j4
   refine h.new fun zb w h=>?_
   have h:St F0 w0 w (qfb zb (u8s [0,0,0,0]) :: apA o (u8s (hdB L.length ++ tb (L.map Prod.snd) L.length)) :: qfb b (wrdS.map Value.string) :: ps):=h
   haveI:Rdb F0 w0 ⟨some ⟨zb,0,none⟩,4,4⟩ (apA o (u8s (hdB L.length ++ tb (L.map Prod.snd) L.length)) :: qfb zb (u8s [0,0,0,0]) :: qfb b (wrdS.map Value.string) :: ps) 1 (u8s [0,0,0,0]):=qvj rfl
   refine St.apxR (t:=⟨some ⟨zb,0,none⟩,4,4⟩) (ys:=[0,0,0,0]) h.at1 (by show 0 < 4; decide) (by show _+4≤_; omega) fun o2 w h=>?_
   refine qkd.d (s:=o2) h (by rw [List.length_append]; show _+4≤_; omega) fun o3 w h1 h2 h=>⟨o3,rfl,?_⟩
   have hX:(hdB (L.length:Int) ++ tb (L.map Prod.snd) L.length ++ [0,0,0,0] ++ beJ 8 8 (ofs (L.map Prod.snd) L.length)).length≤200:=by
    rw [List.length_append,List.length_append,qob]
    show _+4+8≤_
    omega
   have h:St F0 w0 w (rdA 1 o3 (u8s (hdB L.length ++ tb (L.map Prod.snd) L.length ++ [0,0,0,0] ++ beJ 8 8 (ofs (L.map Prod.snd) L.length))) :: ps):=h.tail fun _ _ _ h=>h.drop.drop.drop
   refine qn.c (s:=s) (L:=L) h (fun y hy w h=>hL y hy w h.drop) (by omega) hlen fun o4 w ht h=>⟨o4,rfl,?_⟩
   have h2:St F0 w0 w (apA o3 (u8s (hdB L.length ++ tb (L.map Prod.snd) L.length ++ [0,0,0,0] ++ beJ 8 8 (ofs (L.map Prod.snd) L.length))) :: qbb 1 o4 (ivs .u8 (catB L)) :: ps):=h.at1.apR h2
   refine h2.apxR (t:=o4) h3 (by omega) fun o5 w h=>?_
   have hpre:hdB (L.length:Int) ++ tb (L.map Prod.snd) L.length ++ [0,0,0,0] ++ beJ 8 8 (ofs (L.map Prod.snd) L.length) ++ catB L=qkh (L.map Prod.snd):=by
    unfold qkh
    rw [hcf,List.length_map]
   rw [hpre] at h
   have hpl:(qkh (L.map Prod.snd)).length≤1000200:=by
    rw [← hpre,List.length_append]; omega
   have hpb:qsd (qkh (L.map Prod.snd)):=by
    have htb:∀ i≤4,qsd (tb (L.map Prod.snd) i):=by
     intro i
     induction i with
     | zero=>intro _ x hx; simp [tb] at hx
     | succ i ih =>
       intro hi
       rw [tb_succ,qqc,qqc]
       refine ⟨ih (by omega),?_,qyh 8 8 _⟩
       have:i=0 ∨ i=1 ∨ i=2 ∨ i=3:=by omega
       rcases this with rfl | rfl | rfl | rfl <;> (intro x hx; simp [wrdB] at hx; omega)
    unfold qkh
    rw [qqc,qqc,qqc,qqc]
    refine ⟨⟨⟨⟨?_,htb _ (by rw [List.length_map]; exact h4)⟩,by intro x hx; simp at hx; omega⟩,qyh 8 8 _⟩,?_⟩
    · intro x hx
      simp [hdB] at hx
      omega
    · rw [hcf]
      exact qrg fun y hy=>hB y hy
   refine qvf.d (s:=o5) (xs:=qkh (L.map Prod.snd)) h hpb (by omega) fun w h=>⟨_,rfl,?_⟩
   have hzc:zc Try.prog 28=⟨ivs .u8 z20⟩:=zc_id
   rw [hzc]
   refine h.new fun kb w h=>?_
   have h:St F0 w0 w (qfb kb (u8s z20) :: qbb 1 o5 (u8s (qkh (L.map Prod.snd))) :: qbb 1 o4 (ivs .u8 (catB L)) :: ps):=h
   refine ⟨qlh _,?_⟩
   refine St.sA (b:=kb) (l':=u8s (qoe (qkh (L.map Prod.snd)))) h rfl (qlh _) qoi fun w h=>?_
   refine St.sealed (s:=o5) (xs:=qkh (L.map Prod.snd)) (ys:=qoe (qkh (L.map Prod.snd))) (h.tail fun _ _ _ h=>h.apO) (qye _) (by omega) fun o6 w h=>?_
   refine qlb.d h fun o7 h1 h2 h=>⟨o7,rfl,?_⟩
   refine hk o7 w ?_ (h.tail fun _ _ _ h=>h.drop)
   have:=(h.rdb o7).1
   rw [qgb,Nat.mul_one] at this
   exact ⟨this.symm,by omega⟩
theorem qab.c {s1 s2 s3 s4:Sl} {x1 x2 x3 x4:List Int} {K:Ending→World→Prop} (h:St F0 w0 w ps) [Rdb F0 w0 s ps 1 (slB [(s1,x1),(s2,x2),(s3,x3),(s4,x4)])] (hc:s.len≤s.cap) (h3:0 < x1.length)
 [Rdb F0 w0 s1 ps 1 (u8s x1)] [Rdb F0 w0 s2 ps 1 (u8s x2)] [Rdb F0 w0 s3 ps 1 (u8s x3)] [Rdb F0 w0 s4 ps 1 (u8s x4)] (b1:qsd x1) (b2:qsd x2) (b3:qsd x3) (b4:qsd x4) (hlen:x1.length+x2.length+x3.length+x4.length≤1000000)
 (hk:∀ t w',(t.len=(chkB ([x1,x2,x3] ++ if x4.length=0 then [] else [x4])).length∧t.cap=t.len)→St F0 w0 w' (rdA 1 t (u8s (chkB ([x1,x2,x3] ++ if x4.length=0 then [] else [x4]))) :: ps)→K (.returned (sV t)) w') :
 Calls Try.prog 24 ⟨[sV s]⟩ w K:=by
 have hl:=(h.rdb s).1
 have hl:4=s.len * 1:=hl
 have hx4:=(h.rdb s4).1
 rw [qgb,Nat.mul_one] at hx4
 refine qnb (qab.ok _ _ _ ?_)
 unfold qab qab.j1
 refine h.new fun b w h=>?_
 have h:St F0 w0 w (qfb b (wrdS.map Value.string) :: ps):=h
 refine (h.rdb s).lslB (L:=[(s1,x1),(s2,x2),(s3,x3),(s4,x4)]) 3 rfl (by simp) ?_
 show br (((s4.len:Nat):Int) == 0) _ _
 refine qzc (fun g=>?_) (fun g=>?_)
 · have g:x4.length=0:=by
    have:((s4.len:Nat):Int)=0:=by simpa using g
    omega
   rw [if_pos g,List.append_nil] at hk
   refine qyj (n:=3) rfl (by omega) (qtd ?_)
   haveI:Rdb F0 w0 ⟨qvd s.a s.cap 0 1,3 - 0,s.cap - 0⟩ ps 1 (slB [(s1,x1),(s2,x2),(s3,x3)]):=⟨fun h=>by
    have:=(h.rdb s).cut (n:=0) (m:=3) (by decide) (by omega) (by omega) hc (s.cap - 0)
    exact this⟩
   refine qab.go (K:=K) (s:=⟨qvd s.a s.cap 0 1,3 - 0,s.cap - 0⟩) (L:=[(s1,x1),(s2,x2),(s3,x3)]) h (by simp) (by simp [catB]; omega) ?_ ?_ (by simp [catB]; omega) hk
   · intro y hy w h
     rcases List.mem_cons.1 hy with rfl | hy
     · exact h.rdb s1
     rcases List.mem_cons.1 hy with rfl | hy
     · exact h.rdb s2
     rcases List.mem_cons.1 hy with rfl | hy
     · exact h.rdb s3
     cases hy
   · intro y hy
     rcases List.mem_cons.1 hy with rfl | hy
     · exact b1
     rcases List.mem_cons.1 hy with rfl | hy
     · exact b2
     rcases List.mem_cons.1 hy with rfl | hy
     · exact b3
     cases hy
 · have g:¬ x4.length=0:=by
    have:¬ ((s4.len:Nat):Int)=0:=by simpa using g
    omega
   rw [if_neg g] at hk
   refine qab.go (K:=K) (s:=s) (L:=[(s1,x1),(s2,x2),(s3,x3),(s4,x4)]) h (by simp) (by simp [catB]; omega) ?_ ?_ (by simp [catB]; omega) hk
   · intro y hy w h
     rcases List.mem_cons.1 hy with rfl | hy
     · exact h.rdb s1
     rcases List.mem_cons.1 hy with rfl | hy
     · exact h.rdb s2
     rcases List.mem_cons.1 hy with rfl | hy
     · exact h.rdb s3
     rcases List.mem_cons.1 hy with rfl | hy
     · exact h.rdb s4
     cases hy
   · intro y hy
     rcases List.mem_cons.1 hy with rfl | hy
     · exact b1
     rcases List.mem_cons.1 hy with rfl | hy
     · exact b2
     rcases List.mem_cons.1 hy with rfl | hy
     · exact b3
     rcases List.mem_cons.1 hy with rfl | hy
     · exact b4
     cases hy
end
end Go.Proofs.Ytigmbblgfnkpbaa
namespace Go.Proofs.Ytigmbblgfnkpbaa
open Go Go.Proofs
set_option linter.unusedVariables false
set_option linter.unusedSimpArgs false
attribute [local irreducible] apK cpK mkK br qoe
theorem or_date {g d:Int} (hg:0≤g∧g≤1000000) (hd:0≤d∧d < 17179869184):orV .i64 (g * 17179869184) d=g * 17179869184+d:=by
 obtain ⟨a,rfl⟩:∃ a:Nat,g=a:=⟨g.toNat,by omega⟩
 obtain ⟨b,rfl⟩:∃ b:Nat,d=b:=⟨d.toNat,by omega⟩
 have:=orV_add' .i64 (a:=b) (b:=a) (t:=34) (by show b < 17179869184; omega) (by show b+a * 17179869184 < 9223372036854775808; omega)
 have e:((2:Int) ^ 34)=17179869184:=by decide
 rw [e] at this
 rw [this]; omega
theorem shl_gen {g:Int} (hg:0≤g∧g≤1000000):qxe .i64 g 34=g * 17179869184:=by
 have:=shlV_lit .i64 (x:=g) (y:=34) (t:=34) rfl (by decide) hg.1 (by show g * 17179869184 < 9223372036854775808; omega)
 exact this
theorem or_high {x:Nat} (h:x < 2147483648):orV .i64 2147483648 (x:Int)=2147483648+(x:Int):=by
 have:=orV_add' .i64 (a:=x) (b:=1) (t:=31) (by show x < 2147483648; exact h) (by show x+1 * 2147483648 < 9223372036854775808; omega)
 have e:(((1:Nat):Int) * (2:Int) ^ 31)=2147483648:=by decide
 rw [e] at this
 rw [this]; omega
section
variable {F0:List Nat} {w0 w:World} {ps rest:List As} {s t:Sl} {xs ys zs:List Int} {n:Nd} {G:Rws Int} {gb xb:Nat}
 {t6 t7 t8 t9 t10 t48:Sl} {t49 t50:Int} {Q:VWP} {nx1:(Option Nat)→Sl→Sl→Sl→Int→Sl→Sl→Sl→Int→World→Prop}
theorem Build_14 {a b:Int} (h:St F0 w0 w (qbb 1 t9 (u8s xs) :: ps)) [PkB xb ps (ndC n) rest] [MpR Int inV gb ps G] (hx:xs.length≤1000000) (hg:0≤gD G n.nm∧gD G n.nm≤1000000) (hd:0≤n.date∧n.date < 17179869184)
 (hk:∀ r w',r.cap=r.len→St F0 w0 w' (rdA 1 r (u8s (xs ++ (beJ 4 4 a ++ (beJ 4 4 b ++ beJ 8 8 (gD G n.nm * 17179869184+n.date))))) :: ps)→qg.j10 (some gb) t6 t7 t8 r t10 t48 t49 t50 Q nx1 w') :
 qg.j14 (some gb) t6 t7 t8 t9 t10 ⟨xb,0,none⟩ a b t48 t49 t50 Q nx1 w:=by
 have hb:St F0 w0 w ps:=h.drop
 unfold qg.j14
 refine (hb.toB xb).blk.ldIdN ⟨_,qif hb gb n.nm,?_⟩
 refine qlc (fun g=>by exfalso; omega) (fun _=>?_)
 have hw:Mod [] w w.drew:=Mod.drew w
 refine h.drewK fun w h=>?_
 have hb:St F0 w0 w ps:=h.drop
 have hA:∀ {w':World} {Z:Array Value→Prop},St F0 w0 w' ps→Z ⟨nmC n.nm⟩→ldA w' (Addr.add ⟨xb,0,none⟩ 0) 20 Z:=fun h hz=>(h.toB xb).blk.ldIdN hz
 have hD:∀ {w':World} {Z:Int→Prop},St F0 w0 w' ps→Z n.date→ldI .i64 w' (Addr.add ⟨xb,0,none⟩ 41) Z:=fun h hz=>(h.toB xb).blk.ldDate hz
 have hK:∀ {w':World} {Z:Int→Prop},St F0 w0 w' ps→Z (gD G n.nm)→∃ r:Int,lkR Try.prog 49 (.map (some gb)) (.agg ⟨nmC n.nm⟩) false w' (.int .i64 r)∧Z r:=fun h hz=>⟨_,qif h gb n.nm,hz⟩
 have hP1:∀ {w':World} {Z:Sl→World→Prop},St F0 w0 w' (qbb 1 t9 (u8s xs) :: ps)→(∀ r w'',St F0 w0 w'' (rdA 1 r (u8s (xs ++ beJ 4 4 a)) :: ps)→St F0 w0 w'' ps→Z r w'')→qhc 21 [sV t9,.int .i64 a] w' Z:=fun h hz =>
  qmc.d (s:=t9) (xs:=xs) h (by omega) fun r w' _ _ h=>⟨r,rfl,hz r w' (h.tail fun _ _ _ h=>h.drop) h.drop.drop⟩
 have hP2:∀ {w':World} {r0:Sl} {Z:Sl→World→Prop},St F0 w0 w' (rdA 1 r0 (u8s (xs ++ beJ 4 4 a)) :: ps)→(∀ r w'',St F0 w0 w'' (rdA 1 r (u8s (xs ++ beJ 4 4 a ++ beJ 4 4 b)) :: ps)→St F0 w0 w'' ps→Z r w'')→qhc 21 [sV r0,.int .i64 b] w' Z:=fun h hz =>
  qmc.d (s:=_) (xs:=xs ++ beJ 4 4 a) h (by rw [List.length_append,qob]; omega) fun r w' _ _ h=>⟨r,rfl,hz r w' (h.tail fun _ _ _ h=>h.drop) h.drop.drop⟩
 have e1:qxe .i64 (gD G n.nm) 34=gD G n.nm * 17179869184:=shl_gen hg
 have e2:orV .i64 (gD G n.nm * 17179869184) n.date=gD G n.nm * 17179869184+n.date:=or_date hg hd
 have hP3:∀ {w':World} {r0:Sl},St F0 w0 w' (rdA 1 r0 (u8s (xs ++ beJ 4 4 a ++ beJ 4 4 b)) :: ps)→qhc 23 [sV r0,.int .i64 (gD G n.nm * 17179869184+n.date)] w' fun r w''=>qg.j10 (some gb) t6 t7 t8 r t10 t48 t49 t50 Q nx1 w'':=fun h =>
  qkd.d (s:=_) (xs:=xs ++ beJ 4 4 a ++ beJ 4 4 b) h (by rw [List.length_append,List.length_append,qob,qob]; omega) fun r w' _ hc h=>⟨r,rfl,hk r w' hc (by
   rw [List.append_assoc,List.append_assoc] at h
   exact h.tail fun _ _ _ h=>h.drop)⟩
 repeat' first
  | with_reducible refine qw e1 ?_
  | with_reducible refine qw e2 ?_
  | with_reducible refine hA (by assumption) ?_
  | with_reducible refine hD (by assumption) ?_
  | with_reducible exact hP3 (by assumption)
  | with_reducible refine hP1 (by assumption) fun r w' h1 h2=>?_
  | with_reducible refine hP2 (by assumption) fun r w' h1 h2=>?_
  | with_reducible refine hK (by assumption) ?_
  | with_reducible refine And.intro (show (0:Int)≤34 by decide) ?_
  | with_reducible refine And.intro ?_ ?_
end
end Go.Proofs.Ytigmbblgfnkpbaa
namespace Go.Proofs.Ytigmbblgfnkpbaa
open Go Go.Proofs
set_option linter.unusedVariables false
set_option linter.unusedSimpArgs false
attribute [local irreducible] apK cpK mkK br qoe
theorem or_mark {x:Int} (h:0≤x∧x < 128):orV .u8 x 128=x+128:=by
 obtain ⟨a,rfl⟩:∃ a:Nat,x=a:=⟨x.toNat,by omega⟩
 have:=orV_uadd (k:=.u8) rfl (a:=a) (b:=1) (t:=7) (by show a < 128; omega) (by show a+1 * 128 < 256; omega)
 have e:(((1:Nat):Int) * (2:Int) ^ 7)=128:=by decide
 rw [e] at this
 exact this
theorem last_word {E D:List Int} {v:Int}:(E ++ wB (D ++ [v])).getD ((E ++ wB (D ++ [v])).length - 4) 0=v / 16777216 % 256:=by
 rw [qhk,wB_one,← List.append_assoc]
 generalize E ++ wB D=X
 rw [List.length_append,qob,List.getD_eq_getElem?_getD,List.getElem?_append_right (by omega),show X.length+4 - 4 - X.length=0 by omega,be4]
 rfl
section
variable {F0:List Nat} {w0 w:World} {ps rest:List As} {s t u:Sl} {E q:List Int} {n:Nd} {gb:Nat} {t14:Addr}
 {t6 t7 t8 t9 t10 t48:Sl} {t49 t50:Int} {Q:VWP} {nx1:(Option Nat)→Sl→Sl→Sl→Int→Sl→Sl→Sl→Int→World→Prop}
theorem Build_17 {a b:Int} (h:St F0 w0 w (clA 1 t10 (u8s E) :: ps)) [Rdb F0 w0 u ps 1 (ivs .i64 q)] (hc:u.len≤u.cap) (hq:2 < q.length) (hq2:q.length≤1000000) (hE:E.length≤10000000) (hv:∀ v ∈ q,0≤v∧v < 2147483648)
 (hk:∀ t' w',St F0 w0 w' (clA 1 t' (u8s (E ++ wB (edw q))) :: ps)→qg.j14 (some gb) t6 t7 t8 t9 t' t14 a b t48 t49 t50 Q nx1 w') :
 qg.j17 (some gb) t6 t7 t8 t9 t10 t14 u a b t48 t49 t50 Q nx1 w:=by
 have hul:=(h.rdb u).1
 rw [qt,Nat.mul_one] at hul
 have hdl:(q.drop 1).length=q.length - 1:=List.length_drop ..
 have hlast:=drop1_last hq
 have hvl:0≤q.getD (q.length - 1) 0∧q.getD (q.length - 1) 0 < 2147483648:=hv _ (qgf (by omega))
 unfold qg.j17
 refine qyj (n:=1) rfl (by omega) (qtd ?_)
 haveI:Rdb F0 w0 ⟨qvd u.a u.cap 1 1,u.len - 1,u.cap - 1⟩ ps 1 (ivs .i64 (q.drop 1)):=h.drop.cutR u 1 u.len _ (Nat.le_refl _) (by omega) hc (List.take_of_length_le (by omega))
 unfold qg.j19
 refine loop2 (fun (k:Nat) (t':Sl) (k':Int) w'=>k'=(k:Int)∧k≤(q.drop 1).length∧St F0 w0 w' (clA 1 t' (u8s (E ++ wB ((q.drop 1).take k))) :: ps)) (fun k=>(q.drop 1).length - k) 0 ⟨rfl,Nat.zero_le _,by simpa [wB] using h⟩ ?_
 clear h
 rintro k t' _ wL I μ ⟨rfl,hk',h⟩ hin
 unfold qg.b2
 refine qlc (fun g=>?_) (fun g=>?_)
 · have g:(k:Int) < ((u.len - 1:Nat):Int):=g
   have hkx:k < (q.drop 1).length:=by omega
   refine h.lx (s:=⟨qvd u.a u.cap 1 1,u.len - 1,u.cap - 1⟩) k rfl hkx ?_
   refine qmc.cl (s:=t') (xs:=E ++ wB ((q.drop 1).take k)) h (by rw [List.length_append,qkf,List.length_take]; omega) fun t2 w _ _ h=>⟨t2,rfl,?_⟩
   refine qw (e':=((k+1:Nat):Int)) (by rw [qq (by omega) (by omega)]; rfl) ?_
   refine ⟨⟨rfl,rfl,rfl,rfl,rfl,rfl,rfl,rfl,rfl,rfl,rfl,rfl,rfl⟩,hin (k+1) _ _ _ ⟨rfl,by omega,?_⟩ (by omega)⟩
   rw [qbi hkx,qhk,wB_one,← List.append_assoc]
   exact h.tail fun _ _ _ h=>h.drop
 · have g:¬ (k:Int) < ((u.len - 1:Nat):Int):=g
   have:k=(q.drop 1).length:=by omega
   subst this
   rw [List.take_length,hlast] at h
   have hl:=h.clrd.1
   rw [qgb,Nat.mul_one] at hl
   have hge:4≤(E ++ wB ((q.drop 1).dropLast ++ [q.getD (q.length - 1) 0])).length:=by
    rw [List.length_append,qkf,List.length_append,List.length_singleton]; omega
   have hle:(E ++ wB ((q.drop 1).dropLast ++ [q.getD (q.length - 1) 0])).length≤100000000:=by
    rw [List.length_append,qkf,List.length_append,List.length_singleton,List.length_dropLast]; omega
   unfold qg.j18
   refine qw (e':=(((E ++ wB ((q.drop 1).dropLast ++ [q.getD (q.length - 1) 0])).length - 4:Nat):Int)) (by rw [qq (by omega) (by omega)]; omega) ?_
   refine h.lx (s:=t') (zs:=E ++ wB ((q.drop 1).dropLast ++ [q.getD (q.length - 1) 0])) _ rfl (by omega) ?_
   rw [last_word]
   refine qw (or_mark (by omega)) ?_
   refine h.clx _ rfl (by omega) fun w h=>?_
   rw [mark_last hvl.1 hvl.2] at h
   refine hk t' w ?_
   have:edw q=(q.drop 1).dropLast ++ [q.getD (q.length - 1) 0+2147483648]:=by unfold edw; rw [if_pos hq]
   rw [this]
   exact h
theorem Build_12 (h:St F0 w0 w (clA 1 t10 (u8s E) :: ps)) [Rdb F0 w0 u ps 1 (ivs .i64 q)] (hc:u.len≤u.cap) (hq2:q.length≤1000000) {e:Nat} (hEe:E.length=4 * e) (hE:e≤1000000) (hv:∀ v ∈ q,0≤v∧v < 2147483648)
 (hk:∀ t' w',St F0 w0 w' (clA 1 t' (u8s (E ++ wB (edw q))) :: ps)→qg.j14 (some gb) t6 t7 t8 t9 t' t14 (numA q) (numB e q) t48 t49 t50 Q nx1 w') :
 qg.j12 (some gb) t6 t7 t8 t9 t10 t14 u t48 t49 t50 Q nx1 w:=by
 have hul:=(h.rdb u).1
 rw [qt,Nat.mul_one] at hul
 have h10:=h.clrd.1
 rw [qgb,Nat.mul_one] at h10
 have j13:qg.j13 (some gb) t6 t7 t8 t9 t10 t14 u (numA q) 1879048192 t48 t49 t50 Q nx1 w:=by
  unfold qg.j13 qg.j15
  refine qzc (fun g=>?_) (fun g=>?_)
  · have g:q.length=2:=by
     have:(u.len:Int)=2:=by simpa using g
     omega
    refine h.lx (s:=u) (zs:=q) 1 rfl (by omega) ?_
    have:=hk t10 w (by
     rw [edw_nil (by omega)]
     simpa [wB] using h)
    unfold numB at this
    rw [if_pos g] at this
    exact this
  · have g:¬ q.length=2:=by
     have:¬ (u.len:Int)=2:=by simpa using g
     omega
    unfold qg.j16
    refine qlc (fun g2=>?_) (fun g2=>?_)
    · refine ⟨by decide,?_⟩
      have e1:Int.tdiv (t10.len:Int) 4=(e:Int):=by
       rw [Int.tdiv_eq_ediv_of_nonneg (by omega)]
       omega
      refine qw (e':=(e:Int)) (by rw [e1,qq (by omega) (by omega)]) ?_
      refine qw (or_high (by omega)) ?_
      refine Build_17 (u:=u) h hc (by omega) hq2 (by omega) hv fun t' w' h=>?_
      have:=hk t' w' h
      unfold numB at this
      rw [if_neg g,if_pos (by omega)] at this
      exact this
    · have:=hk t10 w (by
       rw [edw_nil (by omega)]
       simpa [wB] using h)
      unfold numB at this
      rw [if_neg g,if_neg (by omega)] at this
      exact this
 unfold qg.j12
 refine qlc (fun g=>?_) (fun g=>?_)
 · refine h.lx (s:=u) (zs:=q) 0 rfl (by omega) ?_
   unfold numA at j13
   rw [if_pos (by omega)] at j13
   exact j13
 · unfold numA at j13
   rw [if_neg (by omega)] at j13
   exact j13
end
end Go.Proofs.Ytigmbblgfnkpbaa
namespace Go.Proofs.Ytigmbblgfnkpbaa
open Go Go.Proofs
set_option linter.unusedVariables false
set_option linter.unusedSimpArgs false
attribute [local irreducible] apK cpK mkK br qoe
theorem posN_le (A:List Nm) (q:Nm):qqe A q≤A.length:=by
 induction A with
 | nil=>exact Nat.le_refl _
 | cons a A ih =>
   rw [qqe,List.length_cons]
   split <;> omega
theorem nmA_b {A P:List Nm} (hA:A.length≤1000000):∀ v ∈ nmA A P,0≤v∧v < 2147483648:=by
 intro v hv
 obtain ⟨p,_,rfl⟩:=List.mem_map.1 hv
 have:=posN_le A p
 omega
theorem ptI_at {k:IntKind} {zs:List Int} {i:Nat} {K:Int→Prop} (hj:i < zs.length) (hk:K (zs.getD i 0)):ptI k ⟨ivs k zs⟩ (Int.toNat (i:Int) * 1) K:=by
 rw [show Int.toNat (i:Int) * 1=i by omega]
 refine ⟨zs.getD i 0,?_,hk⟩
 have:=ivs_get (k:=k) hj
 simpa using this
theorem sum_eG (A:List Nm) (S:List Cm):(eG A S).length≤(S.map fun c=>c.par.length).sum:=by
 induction S with
 | nil=>exact Nat.le_refl _
 | cons c S ih =>
   show (edw (qC A c) ++ eG A S).length≤_
   rw [List.length_append,List.map_cons,List.sum_cons,qrj]
   have:(qC A c).length=c.par.length:=qze A c.par
   split <;> omega
section
variable {F0:List Nat} {w0 w:World} {ps rest:List As} {s t u:Sl} {S L:List Nd} {n:Nd} {pr:Nd→List Nm} {gb:Nat} {G:Rws Int} {K:Ending→World→Prop}
theorem nds_Clone.c (h:St F0 w0 w ps) [Rdb F0 w0 s ps 42 (L.flatMap ndC)] (hP:L.length≤1000000) (hk:∀ t w',t.len=L.length→St F0 w0 w' (qbb 42 t (L.flatMap ndC) :: ps)→K (.returned (slV t)) w') :
 Calls Try.prog 16 ⟨[sV s]⟩ w K:=by
 refine qnb (qnc.ok _ _ _ ?_)
 unfold qnc
 refine qzc (fun g=>?_) (fun g=>?_)
 · have:s.a=none:=by simpa using g
   have hP:=h.isnil (s:=s) (f:=ndC) (L:=L) this
   subst hP
   exact hk ⟨none,0,0⟩ w rfl h.nilO
 · refine h.cloneR (s2:=s) (M:=L) (by omega) fun s' w' hs h=>?_
   exact hk s' w' hs h
theorem Build_8 {t6 t7 t48:Sl} {Q:VWP} (h:St F0 w0 w (qbb 42 t48 (S.flatMap ndC) :: qbb 20 t6 ((S.map Nd.nm).flatMap nmC) :: rdA 1 t7 (u8s (fB (S.map Nd.nm))) :: tmA inV gb G :: ps))
 (hS:S.length≤1024) (hris:RisN S) (hsum:(S.map fun n=>(pr n).length).sum≤200000) (hP:∀ n ∈ S,Rdb F0 w0 n.par ps 20 ((pr n).flatMap nmC)) (hd:∀ n ∈ S,0≤n.date∧n.date < 17179869184) (hg:∀ n ∈ S,0≤gD G n.nm∧gD G n.nm≤1000000)
 (hk:∀ t w',(t.len=(gB (S.map (cmN pr)) (gD G)).length∧t.cap=t.len)→St F0 w0 w' (rdA 1 t (u8s (gB (S.map (cmN pr)) (gD G))) :: ps)→Q (.tuple ⟨[sV t,.int .i64 0]⟩) w') :
 qg.j8 (some gb) t6 t7 ⟨none,0,0⟩ ⟨none,0,0⟩ ⟨none,0,0⟩ t48 (t48.len:Int) 0 Q w:=by
 have hl48:=h.rlen (s:=t48) (f:=ndC) (L:=S)
 have hA:Ris (S.map Nd.nm):=by
  unfold Ris
  rw [List.pairwise_map]
  exact hris
 have hAl:(S.map Nd.nm).length=S.length:=List.length_map ..
 have hids:(S.map (cmN pr)).map (·.id)=S.map Nd.nm:=qsj pr S
 generalize hAe:S.map Nd.nm=A at h hA hAl hids
 generalize hCe:S.map (cmN pr)=C at hids hk
 have hCl:C.length=S.length:=by rw [← hCe,List.length_map]
 have hpl:∀ n ∈ S,(pr n).length≤200000:=fun n hn=>by
  have:(pr n).length≤(S.map fun n=>(pr n).length).sum:=qpf (f:=fun n=>(pr n).length) hn
  omega
 have hsC:(C.map fun c=>c.par.length).sum≤200000:=by
  have:(C.map fun c=>c.par.length)=S.map fun n=>(pr n).length:=by rw [← hCe,List.map_map]; rfl
  rw [this]; exact hsum
 have heG:∀ i,(eG A (C.take i)).length≤200000:=fun i=>Nat.le_trans (eG_le A C i) (Nat.le_trans (sum_eG A C) hsC)
 unfold qg.j8
 refine loop4 (fun (i:Nat) (t8 t9 t10:Sl) (i':Int) w'=>i'=(i:Int)∧i≤S.length∧St F0 w0 w' (qbb 1 t8 (u8s (nB (A.take i))) :: apA t9 (u8s (dG A (gD G) C i)) :: clA 1 t10 (u8s (wB (eG A (C.take i)))) :: qbb 42 t48 (S.flatMap ndC) :: qbb 20 t6 (A.flatMap nmC) :: rdA 1 t7 (u8s (fB A)) :: tmA inV gb G :: ps)) (fun i=>S.length - i) 0 ⟨rfl,Nat.zero_le _,?_⟩ ?_
 · have h1:St F0 w0 w (clA 1 ⟨none,0,0⟩ (u8s (wB (eG A (C.take 0)))) :: _):=(h.nil 1).ocl
   have h2:St F0 w0 w (apA ⟨none,0,0⟩ (u8s (dG A (gD G) C 0)) :: _):=h1.ap0
   exact h2.nil 1
 clear h
 rintro i t8 t9 t10 _ wL I μ ⟨rfl,hi,h⟩ hin
 have hnl:(nB (A.take i)).length≤100000:=by rw [nB_len,List.length_take]; omega
 have hdl:(dG A (gD G) C i).length≤100000:=by rw [dG_len]; omega
 unfold qg.b1
 refine qlc (fun g=>?_) (fun g=>?_)
 · have hix:i < S.length:=by omega
   have hSi:=List.getElem_mem hix
   haveI:=hP _ hSi
   have hpi:=hpl _ hSi
   have hdi:=hd _ hSi
   have hgi:=hg _ hSi
   have hA1:A.take (i+1)=A.take i ++ [S[i].nm]:=by
    rw [← hAe,List.take_succ_eq_append_getElem (by rw [List.length_map]; exact hix)]
    simp
   have hCi:C.getD i default=cmN pr S[i]:=by
    rw [← hCe,List.getD_eq_getElem?_getD,List.getElem?_map,List.getElem?_eq_getElem hix]
    rfl
   have heS:eG A (C.take (i+1))=eG A (C.take i) ++ edw (nmA A (pr S[i])):=by
    have hic:i < C.length:=by omega
    rw [eG_take hic]
    have:C[i]=cmN pr S[i]:=by
     have:=hCi
     rw [List.getD_eq_getElem?_getD,List.getElem?_eq_getElem hic] at this
     exact this
    rw [this]
    rfl
   have hdS:dG A (gD G) C (i+1)=dG A (gD G) C i ++ (S[i].qwe ++ (beJ 4 4 (numA (nmA A (pr S[i]))) ++ (beJ 4 4 (numB (eG A (C.take i)).length (nmA A (pr S[i]))) ++ beJ 8 8 (gD G S[i].nm * 17179869184+S[i].date)))):=by
    rw [dG_succ]
    unfold drw drow
    rw [hCi]
    rfl
   unfold qg.j9
   refine h.lr (s:=t48) (f:=ndC) (L:=S) i rfl hix ?_
   generalize S[i]=n at *
   rw [qmd]
   refine h.new fun xb w h=>?_
   have h:St F0 w0 w (qfb xb (ndC ndZ) :: qbb 1 t8 (u8s (nB (A.take i))) :: apA t9 (u8s (dG A (gD G) C i)) :: clA 1 t10 (u8s (wB (eG A (C.take i)))) :: qbb 42 t48 (S.flatMap ndC) :: qbb 20 t6 (A.flatMap nmC) :: rdA 1 t7 (u8s (fB A)) :: tmA inV gb G :: ps):=h
   refine ⟨qz _,?_⟩
   refine h.setR (f:=ndC) (x:=n) (qz _) fun w h=>?_
   rw [qjc,cutP_b]
   refine qtd ?_
   haveI:∀ qs,Rdb F0 w0 ⟨some ⟨xb,0,none⟩,20,20⟩ (qfb xb (ndC n) :: qs) 1 (u8s n.id):=fun qs=>⟨fun h=>by
    have:=h.blk.rdAt (o:=0) (n:=20) (c:=20) (by rw [qz]; decide)
    rw [ndC_id] at this
    exact this⟩
   haveI:∀ qs,Rdb F0 w0 ⟨some ⟨xb,20,none⟩,20,20⟩ (qfb xb (ndC n) :: qs) 1 (u8s n.qwe):=fun qs=>⟨fun h=>by
    have:=h.blk.rdAt (o:=20) (n:=20) (c:=20) (by rw [qz]; decide)
    have e:((ndC n).drop 20).take 20=u8s n.qwe:=by
     unfold ndC
     rw [List.drop_append,qt,n.hid,List.drop_eq_nil_of_le (by rw [qt,n.hid]; decide),List.nil_append]
     exact List.take_left' (by rw [qt,n.htr])
    rw [e] at this
    exact this⟩
   refine h.appI (s:=t8) (s2:=⟨some ⟨xb,0+0,none⟩,20,20⟩) (zs:=nB (A.take i)) (ys:=n.id) (k:=.u8) (by rw [n.hid]; omega) fun t8' w h=>?_
   have h:St F0 w0 w (apA t9 (u8s (dG A (gD G) C i)) :: qfb xb (ndC n) :: qbb 1 t8' (u8s (nB (A.take i) ++ n.id)) :: clA 1 t10 (u8s (wB (eG A (C.take i)))) :: qbb 42 t48 (S.flatMap ndC) :: qbb 20 t6 (A.flatMap nmC) :: rdA 1 t7 (u8s (fB A)) :: tmA inV gb G :: ps):=h.sub
   unfold qg.j11
   rw [qjc,cutP_b]
   refine qtd ?_
   refine h.apxR (t:=⟨some ⟨xb,0+20,none⟩,20,20⟩) (ys:=n.qwe) (by rw [n.htr]; decide) (by rw [n.htr]; omega) fun t9' w h=>?_
   refine (h.toB xb).blk.ldPar ?_
   refine numbers.c (s:=t6) (t:=n.par) (A:=A) (P:=pr n) h hA (by omega) (by omega) fun u w hu h=>⟨u,rfl,?_⟩
   have h:St F0 w0 w (qbb 1 u (ivs .i64 (nmA A (pr n))) :: qbb 1 t9' (u8s (dG A (gD G) C i ++ n.qwe)) :: qfb xb (ndC n) :: qbb 1 t8' (u8s (nB (A.take i) ++ n.id)) :: clA 1 t10 (u8s (wB (eG A (C.take i)))) :: qbb 42 t48 (S.flatMap ndC) :: qbb 20 t6 (A.flatMap nmC) :: rdA 1 t7 (u8s (fB A)) :: tmA inV gb G :: ps):=h
   have huc:=own_cap (by decide) h
   have h:St F0 w0 w (clA 1 t10 (u8s (wB (eG A (C.take i)))) :: qbb 1 u (ivs .i64 (nmA A (pr n))) :: qbb 1 t9' (u8s (dG A (gD G) C i ++ n.qwe)) :: qfb xb (ndC n) :: qbb 1 t8' (u8s (nB (A.take i) ++ n.id)) :: qbb 42 t48 (S.flatMap ndC) :: qbb 20 t6 (A.flatMap nmC) :: rdA 1 t7 (u8s (fB A)) :: tmA inV gb G :: ps):=h.sub
   refine Build_12 (u:=u) (q:=nmA A (pr n)) (e:=(eG A (C.take i)).length) h huc (by rw [qze]; omega) (qkf _) (by have:=heG i; omega) (nmA_b (by omega)) fun t10' w h=>?_
   rw [← qhk,← heS] at h
   have h:St F0 w0 w (qbb 1 t9' (u8s (dG A (gD G) C i ++ n.qwe)) :: qfb xb (ndC n) :: qbb 1 t8' (u8s (nB (A.take i) ++ n.id)) :: clA 1 t10' (u8s (wB (eG A (C.take (i+1))))) :: qbb 42 t48 (S.flatMap ndC) :: qbb 20 t6 (A.flatMap nmC) :: rdA 1 t7 (u8s (fB A)) :: tmA inV gb G :: ps):=h.sub
   refine Build_14 (n:=n) (G:=G) (xb:=xb) h (by rw [List.length_append,n.htr]; omega) hgi hdi fun r w hrc h=>?_
   rw [List.append_assoc,← hdS] at h
   unfold qg.j10
   refine qw (e':=((i+1:Nat):Int)) (by rw [qq (by omega) (by omega)]; rfl) ?_
   refine ⟨⟨rfl,rfl,rfl,rfl,rfl⟩,hin (i+1) _ _ _ _ _ ⟨rfl,by omega,?_⟩ (by omega)⟩
   have e8:nB (A.take (i+1))=nB (A.take i) ++ n.id:=by rw [hA1,nB_snoc]; rfl
   rw [e8]
   exact (h.apR hrc).sub
 · have:i=S.length:=by omega
   subst this
   rw [List.take_of_length_le (by omega),List.take_of_length_le (by omega)] at h
   unfold qg.j7
   refine h.new fun ab w h=>?_
   have h:St F0 w0 w (qfb ab (slB [(t7,fB A),(t8,nB A),(t9,dG A (gD G) C S.length),(t10,wB (eG A C))]) :: _):=h
   haveI:=qvj (F0:=F0) (w0:=w0) (nb:=ab) (n:=4) (l:=slB [(t7,fB A),(t8,nB A),(t9,dG A (gD G) C S.length),(t10,wB (eG A C))]) (ps:=qfb ab (slB [(t7,fB A),(t8,nB A),(t9,dG A (gD G) C S.length),(t10,wB (eG A C))]) :: qbb 1 t8 (u8s (nB A)) :: apA t9 (u8s (dG A (gD G) C S.length)) :: clA 1 t10 (u8s (wB (eG A C))) :: qbb 42 t48 (S.flatMap ndC) :: qbb 20 t6 (A.flatMap nmC) :: rdA 1 t7 (u8s (fB A)) :: tmA inV gb G :: ps) rfl
   have hte:=heG C.length
   rw [List.take_length] at hte
   refine qab.c (s:=⟨some ⟨ab,0,none⟩,4,4⟩) (s1:=t7) (s2:=t8) (s3:=t9) (s4:=t10) (x1:=fB A) (x2:=nB A) (x3:=dG A (gD G) C S.length) (x4:=wB (eG A C)) h (Nat.le_refl _) (by rw [fB_len]; decide) (wB_ok _) (nB_ok _) (dG_ok _ _ _ _) (wB_ok _) ?_ fun t w ht h=>⟨t,rfl,?_⟩
   · rw [fB_len,nB_len,dG_len,qkf]; omega
   have e:chkB ([fB A,nB A,dG A (gD G) C S.length] ++ if (wB (eG A C)).length=0 then [] else [wB (eG A C)])=gB C (gD G):=by
    unfold gB chunkL
    rw [hids,hCl]
    by_cases g0:(eG A C).length=0
    · rw [if_pos g0,if_pos (by rw [qkf,g0])]
    · rw [if_neg g0,if_neg (by rw [qkf]; omega)]
   rw [e] at ht h
   exact hk t w ht h.sub
end
end Go.Proofs.Ytigmbblgfnkpbaa
namespace Go.Proofs.Ytigmbblgfnkpbaa
open Go Go.Proofs
set_option linter.unusedVariables false
set_option linter.unusedSimpArgs false
attribute [local irreducible] apK cpK mkK br qoe
theorem wrong_ok (pr:Nd→List Nm) (L:List Nd):wrongN pr L=false ↔ OkC (L.map (cmN pr)):=by
 unfold wrongN
 by_cases hn:(L.map (·.id)).Nodup
 · rw [decide_eq_true hn,Bool.not_true,Bool.false_or]
   have hin:∀ p,inM (rowsN L) p=true ↔ p ∈ (L.map (cmN pr)).map (·.id):=fun p=>by
    rw [inM_map (pr:=pr),← qpg,← fC_rows pr hn]
   rw [List.any_eq_false]
   constructor
   · intro h
     have hb:∀ n ∈ L,badN (rowsN L) pr n=false:=fun n hm=>by simpa using h n hm
     refine ⟨by rw [qsj]; exact qxf.2 hn,fun c hc=>?_,fun c hc p hp=>?_⟩
     · obtain ⟨n,hm,rfl⟩:=List.mem_map.1 hc
       have:=hb n hm
       unfold badN at this
       simp only [Bool.or_eq_false_iff,decide_eq_false_iff_not] at this
       exact ⟨Int.not_lt.1 this.1,Int.not_le.1 this.2.1⟩
     · obtain ⟨n,hm,rfl⟩:=List.mem_map.1 hc
       have:=hb n hm
       unfold badN at this
       simp only [Bool.or_eq_false_iff] at this
       have h3:=List.any_eq_false.1 this.2.2 p hp
       have h3:inM (rowsN L) p=true:=by simpa using h3
       exact (hin p).1 h3
   · intro h n hm
     have hc:cmN pr n ∈ L.map (cmN pr):=List.mem_map.2 ⟨n,hm,rfl⟩
     have hd:=h.dt _ hc
     have hd:0≤n.date∧n.date < 17179869184:=hd
     unfold badN
     rw [decide_eq_false (by omega),decide_eq_false (by omega),Bool.false_or,Bool.false_or]
     have:((pr n).any fun p=>!inM (rowsN L) p)=false:=List.any_eq_false.2 fun p hp=>by
      have:=(hin p).2 (h.par _ hc p hp)
      simp [this]
     rw [this]; decide
 · rw [decide_eq_false hn]
   constructor
   · intro h; cases h
   · intro h
     exact absurd (qxf.1 (by have:=h.nd; rwa [qsj] at this)) hn
theorem wk_names {C:List Cm} {lost:Bool} {O:List Nm} {g:Nm→Int} (h:Wk (fC C) lost O g):∀ q ∈ O,q ∈ C.map (·.id):=fun q hq=>by
 obtain ⟨ps,h1,_⟩:=h.en.dom q hq
 exact qpg.1 (by rw [h1]; rfl)
theorem wk_lenC {C:List Cm} {lost:Bool} {O:List Nm} {g:Nm→Int} (h:Wk (fC C) lost O g):O.length≤C.length:=by
 have:=qaf h.nd (wk_names h)
 simpa using this
theorem wk_full {C:List Cm} {lost:Bool} {O:List Nm} {g:Nm→Int} (h:Wk (fC C) lost O g) (hl:C.length≤O.length):∀ q ∈ C.map (·.id),q ∈ O:=by
 intro q hq
 refine Classical.byContradiction fun e=>?_
 have:=qaf (O:=q :: O) (S:=C.map (·.id)) (List.nodup_cons.2 ⟨e,h.nd⟩) fun x hx=>by
  rcases List.mem_cons.1 hx with rfl | hx
  · exact hq
  · exact wk_names h x hx
 simp at this
 omega
theorem wk_gen {C:List Cm} {lost:Bool} {O:List Nm} {g:Nm→Int} (h:Wk (fC C) lost O g) (hl:C.length≤O.length) {c:Cm} (hc:c ∈ C):1≤g c.id∧g c.id≤C.length:=by
 have hO:=wk_full h hl c.id (List.mem_map.2 ⟨c,hc,rfl⟩)
 have:=h.bound h.en h.nd (fun q hq=>hq) c.id hO
 have:=wk_lenC h
 omega
section
variable {F0:List Nat} {w0 w:World} {ps rest:List As} {s t u:Sl} {S L:List Nd} {n:Nd} {pr:Nd→List Nm} {gb:Nat} {G:Rws Int} {K:Ending→World→Prop}
theorem wk_rows (hn:(L.map (·.id)).Nodup) {O:List Nm} (h:WkE (rowsN L) pr true O G):Wk (fC (L.map (cmN pr))) true O (gD G):=by
 have:=h.wk
 rwa [fC_rows pr hn] at this
theorem wkE_le {O:List Nm} (h:WkE (rowsN L) pr true O G):O.length≤G.length:=by
 have:=qaf (O:=O.map (·.1)) (S:=kys G) (by
  have:=h.nd
  unfold List.Nodup at this ⊢
  rw [List.pairwise_map]
  exact this.imp fun hab e=>hab (Nm.ext' e)) fun k hk=>by
   obtain ⟨q,hq,rfl⟩:=List.mem_map.1 hk
   exact (h.keys q).2 hq
 simpa [kys] using this
theorem wkE_len {O:List Nm} (h:WkE (rowsN L) pr true O G) (hok:okE G):O.length=G.length:=by
 refine Nat.le_antisymm (wkE_le h) ?_
 have:=qaf (O:=kys G) (S:=O.map (·.1)) hok.1 fun k hk=>by
  obtain ⟨e,he,rfl⟩:=List.mem_map.1 hk
  exact List.mem_map.2 ⟨⟨e.1,hok.2 e he⟩,(h.keys ⟨e.1,hok.2 e he⟩).1 hk,rfl⟩
 simpa [kys] using this
theorem Build.c (h:St F0 w0 w ps) [Rdb F0 w0 s ps 42 (L.flatMap ndC)] (hL:L.length≤1000000) (hsum:(L.map fun n=>(pr n).length).sum≤200000) (hP:∀ n ∈ L,Rdb F0 w0 n.par ps 20 ((pr n).flatMap nmC))
 (hk1:¬ OkC (L.map (cmN pr))→∀ w',St F0 w0 w' ps→K (.returned (.tuple ⟨[.slice none 0 0,.int .i64 1]⟩)) w')
 (hk2:OkC (L.map (cmN pr))→∀ O g w',Wk (fC (L.map (cmN pr))) true O g→O.length < L.length→St F0 w0 w' ps→K (.returned (.tuple ⟨[.slice none 0 0,.int .i64 12]⟩)) w')
 (hk3:OkC (L.map (cmN pr))→∀ O g w',Wk (fC (L.map (cmN pr))) true O g→L.length≤O.length→1024 < L.length→St F0 w0 w' ps→K (.returned (.tuple ⟨[.slice none 0 0,.int .i64 5]⟩)) w')
 (hk4:OkC (L.map (cmN pr))→∀ O g S t w',Wk (fC (L.map (cmN pr))) true O g→L.length≤O.length→L.length≤1024→S.Perm L→RisN S→(t.len=(gB (S.map (cmN pr)) g).length∧t.cap=t.len) →
   St F0 w0 w' (rdA 1 t (u8s (gB (S.map (cmN pr)) g)) :: ps)→K (.returned (.tuple ⟨[sV t,.int .i64 0]⟩)) w') :
 Calls Try.prog 6 ⟨[sV s]⟩ w K:=by
 have hpl:∀ n ∈ L,(pr n).length≤1000000:=fun n hn=>by
  have:(pr n).length≤(L.map fun n=>(pr n).length).sum:=qpf (f:=fun n=>(pr n).length) hn
  omega
 refine qnb (qg.ok _ _ _ ?_)
 unfold qg qg.j1
 refine wrong.c (pr:=pr) (L:=L) h hL hpl hP fun w h=>⟨_,rfl,?_⟩
 refine qzc (fun g=>?_) (fun g=>?_)
 · exact hk1 (fun e=>by have:=(wrong_ok pr L).2 e; rw [this] at g; cases g) w h
 have hok:=(wrong_ok pr L).1 (by simpa using g)
 have hn:(L.map (·.id)).Nodup:=qxf.1 (by have:=hok.nd; rwa [qsj] at this)
 refine Generations.c (pr:=pr) (L:=L) h hL (by omega) hP (fun e=>absurd hn e) (fun _ O G w hE hl h=>?_) (fun _ gb O G w hE hl h=>?_)
 · refine ⟨none,12,rfl,?_⟩
   unfold qg.j2
   refine qzc (fun _=>?_) (fun g=>by cases g)
   have:=wkE_le hE
   exact hk2 hok O _ w (wk_rows hn hE) (by omega) h
 · refine ⟨some gb,0,rfl,?_⟩
   have hOG:=wkE_len hE (h.okE gb)
   have hW:=wk_rows hn hE
   unfold qg.j2
   refine qzc (fun g=>by cases g) (fun _=>?_)
   refine nds_Clone.c (s:=s) (L:=L) h hL fun d w hd h=>⟨d,rfl,?_⟩
   unfold qg.j3
   refine SortFunc.c (s:=d) (L:=L) h hL hn fun S w hS hs h=>⟨rfl,?_⟩
   have hdl:=h.rlen (s:=d) (f:=ndC) (L:=S)
   have hSl:=hS.length_eq
   refine qlc (fun g=>?_) (fun g=>?_)
   · exact hk3 hok O _ w hW (by omega) (by omega) h.drop.drop
   unfold qg.j4
   refine qrb.c (s:=d) (L:=S) h (by omega) fun t6 w ht6 h=>⟨t6,rfl,?_⟩
   unfold qg.j5
   refine qdb.c (s:=t6) (A:=S.map Nd.nm) h (by rw [List.length_map]; omega) fun w h=>⟨_,rfl,?_⟩
   unfold qg.j20
   refine loop2 (fun (i:Nat) (t7:Sl) (i':Int) w'=>i'=(i:Int)∧i≤256∧St F0 w0 w' (rdA 1 t7 (u8s (wB ((fanL (S.map Nd.nm)).take i))) :: qbb 20 t6 ((S.map Nd.nm).flatMap nmC) :: qbb 42 d (S.flatMap ndC) :: tmA inV gb G :: ps)) (fun i=>256 - i) 0 ⟨rfl,Nat.zero_le _,(h.nil 1).ro⟩ ?_
   clear h
   rintro i t7 _ wL I μ ⟨rfl,hi,h⟩ hin
   unfold qg.b3
   refine qlc (fun g=>?_) (fun g=>?_)
   · have hi2:i < 256:=by omega
     refine ⟨⟨by omega,by omega⟩,?_⟩
     refine ptI_at (by rw [qvh]; exact hi2) ?_
     refine qmc.d (s:=t7) h (by rw [qkf,List.length_take]; omega) fun t7' w _ _ h=>⟨t7',rfl,?_⟩
     refine qw (e':=((i+1:Nat):Int)) (by rw [qq (by omega) (by omega)]; rfl) ?_
     refine ⟨⟨rfl,rfl,rfl,rfl,rfl,rfl,rfl⟩,hin (i+1) _ _ _ ⟨rfl,by omega,?_⟩ (by omega)⟩
     rw [qbi (by rw [qvh]; exact hi2),qhk,wB_one]
     exact h.tail fun _ _ _ h=>h.drop
   · have:i=256:=by omega
     subst this
     rw [List.take_of_length_le (by rw [qvh]; exact Nat.le_refl _)] at h
     have hm:∀ n,n ∈ S→n ∈ L:=fun n hn=>hS.mem_iff.1 hn
     have hsumS:(S.map fun n=>(pr n).length).sum≤200000:=by
      rw [(hS.map fun n=>(pr n).length).sum_nat]; exact hsum
     have h:St F0 w0 wL (rdA 1 t7 (u8s (fB (S.map Nd.nm))) :: qbb 20 t6 ((S.map Nd.nm).flatMap nmC) :: qbb 42 d (S.flatMap ndC) :: tmA inV gb G :: ps):=h
     unfold qg.j6
     refine Build_8 (ps:=ps) (pr:=pr) (S:=S) (G:=G) (gb:=gb) (t7:=t7) (t6:=t6) (t48:=d) (Q:=fun v w'=>K (.returned v) w') h.sub (by omega) hs hsumS (fun n hn=>hP n (hm n hn)) (fun n hn=>?_) (fun n hn=>?_) fun t w ht h=>?_
     · exact hok.dt _ (List.mem_map.2 ⟨n,hm n hn,rfl⟩)
     · have:=wk_gen hW (by rw [List.length_map]; omega) (List.mem_map.2 ⟨n,hm n hn,rfl⟩)
       rw [List.length_map] at this
       have e:(cmN pr n).id=n.nm:=rfl
       rw [e] at this
       omega
     · exact hk4 hok O _ S t w hW (by omega) (by omega) hS hs ht h
end
end Go.Proofs.Ytigmbblgfnkpbaa
namespace Go.Proofs.Ytigmbblgfnkpbaa
open Go Go.Proofs
set_option linter.unusedVariables false
set_option linter.unusedSimpArgs false
attribute [local irreducible] apK cpK mkK br qoe
section
variable {F0:List Nat} {w0 w:World} {ps rest:List As} {s t u:Sl} {xs:List Int} {S L:List Nd} {n:Nd} {pr:Nd→List Nm} {K:Ending→World→Prop}
end
theorem nmA_get {A P:List Nm} {k:Nat} (h:k < P.length):(nmA A P).getD k 0=(qqe A P[k]:Int):=by
 unfold nmA
 rw [List.getD_eq_getElem?_getD,List.getElem?_map,List.getElem?_eq_getElem h]
 rfl
theorem edw_get {q:List Int} {k:Nat} (hq:2 < q.length) (h1:1≤k) (hk:k < q.length):(edw q).take k=(edw q).take (k - 1) ++ [if k=q.length - 1 then q.getD k 0+2147483648 else q.getD k 0]:=by
 obtain ⟨k,rfl⟩:∃ m,k=m+1:=⟨k - 1,by omega⟩
 have hl:(edw q).length=q.length - 1:=by rw [qrj,if_pos hq]
 rw [Nat.add_sub_cancel,qbi (by omega)]
 congr 2
 unfold edw
 rw [if_pos hq,List.getD_eq_getElem?_getD]
 have hdl:(q.drop 1).dropLast.length=q.length - 2:=by rw [List.length_dropLast,List.length_drop]; omega
 by_cases g:k+1=q.length - 1
 · rw [if_pos g,List.getElem?_append_right (by omega),show k - (q.drop 1).dropLast.length=0 by omega,← g]
   rfl
 · rw [if_neg g,List.getElem?_append_left (by omega),List.getElem?_dropLast,if_pos (by rw [List.length_drop]; omega),List.getElem?_drop,List.getD_eq_getElem?_getD,Nat.add_comm 1 k]
end Go.Proofs.Ytigmbblgfnkpbaa
namespace Go.Proofs.Ytigmbblgfnkpbaa
open Go Go.Proofs
set_option linter.unusedVariables false
set_option linter.unusedSimpArgs false
attribute [local irreducible] apK cpK mkK br qoe
instance elt_str:Elt Try.prog 9 (.string ⟨#[]⟩):=⟨⟨Try.t9,by kernel_rfl,rfl,by decide,by decide⟩,by kernel_rfl⟩
theorem ldS_c {w:World} {a:Addr} {n:ByteArray} {K:ByteArray→Prop} (hc:w.cell? a=some (.string n)) (hk:K n):ldS w a K:=⟨n,hc,hk⟩
theorem Rd.atS {w:World} {s:Sl} {l:List Value} {i:Int} {n:ByteArray} {K:ByteArray→Prop} (h:Rd w 1 s l) (j:Nat) (hi:i=j) (hj:l[j]?=some (.string n)) (hk:K n):ixS s.a s.len i 1 fun a=>ldS w a K:=by
 subst hi
 have hl:=h.1
 have hjl:j < l.length:=(List.getElem?_eq_some_iff.1 hj).1
 refine h.ix (by decide) (by omega) (by omega) fun a ha=>?_
 rw [show ((j:Int)).toNat * 1=j by omega]
 exact ldS_c (by rw [h.cell ha hjl]; exact hj) hk
theorem qtk (A:List Nm) (g:Nm→Int) (C:List Cm):(chunkL A g C).flatten=fB A ++ nB A ++ dG A g C C.length ++ wB (eG A C):=by
 unfold chunkL
 by_cases h:(eG A C).length=0
 · rw [if_pos h,List.eq_nil_of_length_eq_zero h]
   simp [wB]
 · rw [if_neg h]
   simp
theorem chunk_len (A:List Nm) (g:Nm→Int) (C:List Cm):(chunkL A g C).length=if (eG A C).length=0 then 3 else 4:=by
 unfold chunkL
 split <;> simp
section
variable {F0:List Nat} {w0 w:World} {ps rest:List As} {s t u:Sl} {xs:List Int} {S L:List Nd} {C:List Cm} {A:List Nm} {n:Nd} {P:List Nm} {g:Nm→Int} {gb xb i:Nat} {t3 t4 t5 t12 t13:Sl} {l:List (List Int)}
 {Q:VWP}
end
end Go.Proofs.Ytigmbblgfnkpbaa
namespace Go.Proofs.Ytigmbblgfnkpbaa
open Go Go.Proofs
set_option linter.unusedVariables false
set_option linter.unusedSimpArgs false
structure qjh (A:List Nm) (f:Nat→Int) (E:Nat) (P Q:Int) (PP:List Nm):Prop where
 ris:Ris A
 mem:∀ p ∈ PP,p ∈ A
 len:A.length≤1024
 a:P=numA (nmA A PP)
 b:∃ e,Q=numB e (nmA A PP)∧e+(edw (nmA A PP)).length≤E∧∀ j,j < (edw (nmA A PP)).length→f (e+j)=(edw (nmA A PP)).getD j 0
def lst0 (P:Int):List Int:=if P=1879048192 then [] else [P]
def Wl (f:Nat→Int) (e m:Nat):List Int:=(List.range m).map fun j=>f (e+j) % 2147483648
theorem Wl_succ (f:Nat→Int) (e m:Nat):Wl f e (m+1)=Wl f e m ++ [f (e+m) % 2147483648]:=by simp [Wl,List.range_succ]
theorem Wl_len (f:Nat→Int) (e m:Nat):(Wl f e m).length=m:=by simp [Wl]
theorem posN_mem {A:List Nm} (hA:Ris A) {p:Nm} (hp:p ∈ A):∃ h:qqe A p < A.length,A[qqe A p]=p:=by
 obtain ⟨j,hj,rfl⟩:=List.getElem_of_mem hp
 have:=pos_at hA hj
 exact ⟨by omega,by simp only [this]⟩
section
variable {A PP:List Nm} {f:Nat→Int} {E:Nat} {P Q:Int}
theorem qjh.q (h:qjh A f E P Q PP) {k:Nat} (hk:k < PP.length):∃ hj:qqe A PP[k] < A.length,(nmA A PP).getD k 0=(qqe A PP[k]:Int)∧A[qqe A PP[k]]=PP[k]:=by
 obtain ⟨hj,e⟩:=posN_mem h.ris (h.mem _ (List.getElem_mem hk))
 exact ⟨hj,nmA_get hk,e⟩
theorem qjh.small (h:qjh A f E P Q PP) {k:Nat} (hk:k < PP.length):0≤(nmA A PP).getD k 0∧(nmA A PP).getD k 0 < 1024:=by
 obtain ⟨hj,e,_⟩:=h.q hk
 have:=h.len
 omega
theorem qjh.lst (h:qjh A f E P Q PP):lst0 P=(nmA A PP).take 1:=by
 have hl:=qze A PP
 unfold lst0
 rw [h.a]
 unfold numA
 by_cases g:0 < (nmA A PP).length
 · rw [if_pos g]
   have:=h.small (k:=0) (by omega)
   rw [if_neg (by omega),qbi g]
   rfl
 · rw [if_neg g,if_pos rfl,List.eq_nil_of_length_eq_zero (l:=nmA A PP) (by omega)]
   rfl
theorem qjh.none (h:qjh A f E P Q PP) (hQ:Q=1879048192):lst0 P=nmA A PP:=by
 have hl:=qze A PP
 rw [h.lst]
 obtain ⟨e,he,_⟩:=h.b
 rw [he] at hQ
 unfold numB at hQ
 refine List.take_of_length_le ?_
 split at hQ
 · have:=h.small (k:=1) (by omega)
   omega
 · split at hQ
   · omega
   · omega
theorem qjh.two (h:qjh A f E P Q PP) (hQ:Q ≠ 1879048192) (hQ2:Q < 2147483648):lst0 P ++ [Q]=nmA A PP:=by
 have hl:=qze A PP
 rw [h.lst]
 obtain ⟨e,he,_⟩:=h.b
 rw [he] at hQ hQ2 ⊢
 unfold numB at hQ hQ2 ⊢
 split at hQ
 · rename_i g
   rw [if_pos g,← qbi (by omega),List.take_of_length_le (by omega)]
 · rename_i g
   rw [if_neg g] at hQ2
   split at hQ
   · rename_i g2
     rw [if_pos g2] at hQ2
     omega
   · exact absurd rfl hQ
theorem qjh.many (h:qjh A f E P Q PP) (hQ2:2147483648≤Q):2 < PP.length∧∃ e:Nat,Q=2147483648+e∧e+(PP.length - 1)≤E∧∀ j,j < PP.length - 1→f (e+j)=(edw (nmA A PP)).getD j 0:=by
 have hl:=qze A PP
 obtain ⟨e,he,h1,h2⟩:=h.b
 rw [he] at hQ2
 unfold numB at hQ2
 split at hQ2
 · have:=h.small (k:=1) (by omega)
   omega
 · rename_i g
   split at hQ2
   · rename_i g2
     rw [qrj,if_pos g2,hl] at h1 h2
     refine ⟨by omega,e,?_,h1,h2⟩
     rw [he]
     unfold numB
     rw [if_neg g,if_pos g2]
   · omega
theorem edw_at {q:List Int} (hq:2 < q.length) {j:Nat} (hj:j < q.length - 1):(edw q).getD j 0=if j=q.length - 2 then q.getD (j+1) 0+2147483648 else q.getD (j+1) 0:=by
 have h:=edw_get (q:=q) (k:=j+1) hq (by omega) (by omega)
 have hl:(edw q).length=q.length - 1:=by rw [qrj,if_pos hq]
 rw [Nat.add_sub_cancel,qbi (by omega)] at h
 have h:=List.append_cancel_left h
 injection h with h _
 rw [h]
 by_cases g:j=q.length - 2
 · rw [if_pos g,if_pos (by omega)]
 · rw [if_neg g,if_neg (by omega)]
theorem qjh.words (h:qjh A f E P Q PP) {e m:Nat} (hQ:Q=2147483648+(e:Int)) (hm:1≤m) (h1:∀ j,j < m - 1→f (e+j) < 2147483648) (h2:2147483648≤f (e+(m - 1))):lst0 P ++ Wl f e m=nmA A PP:=by
 have hl:=qze A PP
 obtain ⟨hp,e',he,h3,h4⟩:=h.many (by omega)
 have:e'=e:=by omega
 subst this
 have hq:∀ k,k < PP.length→0≤(nmA A PP).getD k 0∧(nmA A PP).getD k 0 < 1024:=fun k hk=>h.small hk
 have hw:∀ j,j < PP.length - 1→f (e'+j)=if j=PP.length - 2 then (nmA A PP).getD (j+1) 0+2147483648 else (nmA A PP).getD (j+1) 0:=fun j hj=>by
  rw [h4 j hj,edw_at (by omega) (by omega),hl]
 have hme:m - 1=PP.length - 2:=by
  rcases Nat.lt_trichotomy (m - 1) (PP.length - 2) with g | g | g
  · have:=hw (m - 1) (by omega)
    rw [if_neg (by omega)] at this
    have:=hq (m - 1+1) (by omega)
    omega
  · exact g
  · have:=h1 (PP.length - 2) g
    have h5:=hw (PP.length - 2) (by omega)
    rw [if_pos rfl] at h5
    have:=hq (PP.length - 2+1) (by omega)
    omega
 rw [h.lst]
 apply lext
 · rw [List.length_append,List.length_take,Wl_len,hl]; omega
 · intro k hk
   rw [List.length_append,List.length_take,Wl_len,hl] at hk
   have ht:((nmA A PP).take 1).length=1:=by rw [List.length_take]; omega
   rw [List.getD_eq_getElem?_getD]
   by_cases g:k < 1
   · have:k=0:=by omega
     subst this
     rw [List.getElem?_append_left (by omega),List.getElem?_take,if_pos (by omega),List.getD_eq_getElem?_getD]
   · rw [List.getElem?_append_right (by omega),ht]
     obtain ⟨j,rfl⟩:∃ j,k=j+1:=⟨k - 1,by omega⟩
     rw [Nat.add_sub_cancel]
     unfold Wl
     rw [List.getElem?_map,List.getElem?_range (by omega)]
     show f (e'+j) % 2147483648=_
     rw [hw j (by omega)]
     have:=hq (j+1) (by omega)
     split <;> omega
theorem qjh.short (h:qjh A f E P Q PP) {e m:Nat} (hQ:Q=2147483648+(e:Int)) (h1:∀ j,j < m→f (e+j) < 2147483648):e+m < E:=by
 have hl:=qze A PP
 obtain ⟨hp,e',he,h3,h4⟩:=h.many (by omega)
 have:e'=e:=by omega
 subst this
 refine Classical.byContradiction fun hc=>?_
 have:=h1 (PP.length - 2) (by omega)
 rw [h4 _ (by omega),edw_at (by omega) (by omega),if_pos (by omega)] at this
 have:=h.small (k:=PP.length - 2+1) (by omega)
 omega
theorem qjh.names (h:qjh A f E P Q PP) {R:List Nm} (hl:R.length=(nmA A PP).length) (hR:∀ k (hk:k < R.length),∃ hj:((nmA A PP).getD k 0).toNat < A.length,R[k]=A[((nmA A PP).getD k 0).toNat]):R=PP:=by
 have hl2:=qze A PP
 apply List.ext_getElem (by omega)
 intro k h1 h2
 obtain ⟨hj,e⟩:=hR k h1
 obtain ⟨hj2,e2,e3⟩:=h.q h2
 rw [e]
 have:((nmA A PP).getD k 0).toNat=qqe A PP[k]:=by omega
 simp only [this]
 exact e3
end
end Go.Proofs.Ytigmbblgfnkpbaa
namespace Go.Proofs.Ytigmbblgfnkpbaa
open Go Go.Proofs
set_option linter.unusedVariables false
set_option linter.unusedSimpArgs false
attribute [local irreducible] apK cpK mkK br qoe
def wd (Eb:List Int) (j:Nat):Int:=be ((Eb.drop (4 * j)).take 4)
theorem and31 (x:Int):andV .i64 x 2147483647=x % 2147483648:=by
 have:=andV_mod .i64 x (t:=31) (by decide)
 have e:((2:Int) ^ 31)=2147483648:=by decide
 rw [e] at this
 exact this
theorem be4_b {l:List Int} (h:qsd l) (hl:l.length≤4):0≤be l∧be l < 4294967296:=by
 have:=be_lt8 h (n:=4) hl
 have e:((2:Int) ^ (8 * 4))=4294967296:=by decide
 rw [e] at this
 exact this
theorem nu4 {xs:List Int} (hx:qsd xs) (at':Nat) (err:Int):nuS xs at' err 4=(be (tkS xs at' err 4).1,(tkS xs at' err 4).2):=by
 obtain ⟨h1,h2,_⟩:=tkS_ok hx at' err 4
 have:=be4_b h1 h2
 show (if 9223372036854775807 < be (tkS xs at' err 4).1 then _ else _)=_
 rw [if_neg (by omega)]
 rfl
section
variable {F0:List Nat} {w0 w:World} {ps rest:List As} {s t te ta:Sl} {Eb l:List Int} {A:List Nm} {P Q:Int} {K:Ending→World→Prop}
theorem qhj {t10:Sl} {E:Nat} (h:St F0 w0 w (qbb 1 t10 (ivs .i64 l) :: ps)) [Rdb F0 w0 ta ps 20 (A.flatMap nmC)] (hA:A.length≤1000000) (hl:l.length≤1000000) (h0:∀ v ∈ l,0≤v) {f:Nat→Int} (he:∀ PP,qjh A f E P Q PP→l=nmA A PP)
 (hk1:∀ w',(∀ PP,¬ qjh A f E P Q PP)→St F0 w0 w' ps→K (.returned (.tuple ⟨[.slice none 0 0,.bool false]⟩)) w')
 (hk2:∀ R t w',t.len=R.length→R.length=l.length→(∀ PP,qjh A f E P Q PP→R=PP)→St F0 w0 w' (qbb 20 t (R.flatMap nmC) :: ps)→K (.returned (.tuple ⟨[sV t,.bool true]⟩)) w') :
 qo.j3 ta t10 (fun v w'=>K (.returned v) w') w:=by
 have lenC:∀ p:Nm,(nmC p).length=20:=fun p=>(inferInstance:Rec nmC 20).len p
 have hl10:=h.len
 rw [qt,Nat.mul_one] at hl10
 have hla:=h.rlen (s:=ta) (f:=nmC) (L:=A)
 unfold qo.j3 qo.j4 qo.j6
 refine loop2 (fun (R:List Nm) (t:Sl) (i':Int) w'=>i'=(R.length:Int)∧R.length≤l.length∧(∀ k (hk:k < R.length),∃ hj:(l.getD k 0).toNat < A.length,R[k]=A[(l.getD k 0).toNat])∧St F0 w0 w' (qbb 20 t (R.flatMap nmC) :: qbb 1 t10 (ivs .i64 l) :: ps)) (fun R=>l.length - R.length) [] ⟨rfl,Nat.zero_le _,fun k hk=>by simp at hk,h.nilO⟩ ?_
 clear h
 rintro R t _ wL I μ ⟨rfl,hR,hRk,h⟩ hin
 unfold qo.b1
 refine qlc (fun g=>?_) (fun g=>?_)
 · have hx:R.length < l.length:=by omega
   refine h.lx (s:=t10) (zs:=l) R.length rfl hx ?_
   have hv:=h0 _ (qgf hx)
   refine qlc (fun g2=>?_) (fun g2=>?_)
   · refine hk1 wL (fun PP hPP=>?_) h.drop.drop
     have e:=he PP hPP
     have hk:R.length < PP.length:=by rw [← qze A PP,← e]; exact hx
     obtain ⟨hj,e1,_⟩:=hPP.q hk
     rw [← e] at e1
     omega
   · have hj:(l.getD R.length 0).toNat < A.length:=by omega
     refine h.lr (s:=ta) (f:=nmC) (L:=A) (l.getD R.length 0).toNat (by omega) hj ⟨lenC _,?_⟩
     rw [qde (by rw [lenC]; rfl)]
     refine h.pushR (s:=t) (L:=R) (x:=A[(l.getD R.length 0).toNat]) (by omega) rfl fun s' w hs h=>?_
     refine qw (e':=((R.length+1:Nat):Int)) (by rw [qq (by omega) (by omega)]; rfl) ?_
     have el:(R ++ [A[(l.getD R.length 0).toNat]]).length=R.length+1:=by simp
     refine ⟨⟨rfl,rfl,rfl⟩,hin (R ++ [A[(l.getD R.length 0).toNat]]) _ _ _ ⟨by rw [el],by omega,fun k hk=>?_,h.sub⟩ (by rw [el]; omega)⟩
     rw [el] at hk
     by_cases e:k < R.length
     · obtain ⟨a,b⟩:=hRk k e
       exact ⟨a,by rw [List.getElem_append_left e]; exact b⟩
     · have:k=R.length:=by omega
       subst this
       exact ⟨hj,by simp⟩
 · have hRl:R.length=l.length:=by omega
   have h5:=h.rlen (s:=t) (f:=nmC) (L:=R)
   unfold qo.j5
   refine hk2 R t wL h5.symm hRl (fun PP hPP=>?_) (h.tail fun _ _ _ h=>h.drop)
   have e:=he PP hPP
   subst e
   exact hPP.names hRl hRk
theorem qo.c (h:St F0 w0 w ps) [Rdb F0 w0 te ps 1 (u8s Eb)] [Rdb F0 w0 ta ps 20 (A.flatMap nmC)] (hB:qsd Eb) (hEl:Eb.length≤1000000) (hA:A.length≤1000000) (hP:0≤P∧P < 4294967296) (hQ:0≤Q∧Q < 4294967296)
 (hk1:∀ w',(∀ PP,¬ qjh A (wd Eb) (Eb.length / 4) P Q PP)→St F0 w0 w' ps→K (.returned (.tuple ⟨[.slice none 0 0,.bool false]⟩)) w')
 (hk2:∀ R t w',t.len=R.length→R.length≤Eb.length / 4+2→(∀ PP,qjh A (wd Eb) (Eb.length / 4) P Q PP→R=PP)→St F0 w0 w' (qbb 20 t (R.flatMap nmC) :: ps)→K (.returned (.tuple ⟨[sV t,.bool true]⟩)) w') :
 Calls Try.prog 53 ⟨[.int .i64 P,.int .i64 Q,sV te,sV ta]⟩ w K:=by
 have hl0:(lst0 P).length≤1:=by unfold lst0; split <;> simp
 have hl0n:∀ v ∈ lst0 P,0≤v:=fun v hv=>by
  unfold lst0 at hv
  split at hv
  · cases hv
  · have:v=P:=by simpa using hv
    omega
 refine qnb (qo.ok _ _ _ _ _ _ ?_)
 unfold qo
 have j2:∀ t10 w,St F0 w0 w (qbb 1 t10 (ivs .i64 (lst0 P)) :: ps)→qo.j2 Q te ta t10 (fun v w'=>K (.returned v) w') w:=fun t10 w h=>by
  unfold qo.j2 qo.j7
  refine qlc (fun g=>?_) (fun g=>?_)
  · obtain ⟨e,he⟩:∃ e:Nat,Q=2147483648+e:=⟨(Q - 2147483648).toNat,by omega⟩
    refine qqg.c (s:=te) h hB (by omega) fun rb w h=>⟨_,rfl,?_⟩
    unfold qo.j8
    refine qw (e':=(e:Int)) (by rw [qq (by omega) (by omega)]; omega) ?_
    refine qw (e':=((4 * e:Nat):Int)) (by rw [qq (by omega) (by omega)]; omega) ?_
    refine qkc.c (rb:=rb) (n:=((4 * e:Nat):Int)) h fun s' w h=>⟨s',rfl,?_⟩
    have h:St F0 w0 w (brA rb (Eb,(tkS Eb 0 0 ((4 * e:Nat):Int)).2) :: qbb 1 t10 (ivs .i64 (lst0 P)) :: ps):=h.drop
    unfold qo.j9
    refine loop2 (fun (a:Nat × Nat × Int × Bool) (t10:Sl) (ag:Bool) w'=>ag=a.2.2.2∧(a.2.2.2=false→(∀ j,j < a.1→wd Eb (e+j) < 2147483648)∧((a.2.2.1=0∧a.2.1=4 * (e+a.1)∧4 * (e+a.1)≤Eb.length) ∨ (a.2.2.1 ≠ 0∧a.1=0∧Eb.length < 4 * e)))∧(a.2.2.2=true→1≤a.1∧4 * (e+a.1)≤Eb.length∧(∀ j,j < a.1 - 1→wd Eb (e+j) < 2147483648)∧2147483648≤wd Eb (e+(a.1 - 1))) ∧
     St F0 w0 w' (brA rb (Eb,a.2.1,a.2.2.1) :: qbb 1 t10 (ivs .i64 (lst0 P ++ Wl (wd Eb) e a.1)) :: ps)) (fun a=>Eb.length+10 - 4 * a.1) (0,(tkS Eb 0 0 ((4 * e:Nat):Int)).2.1,(tkS Eb 0 0 ((4 * e:Nat):Int)).2.2,false)
     ⟨rfl,fun _=>⟨fun j hj=>absurd hj (Nat.not_lt_zero _),?_⟩,(fun e=>by cases e),by simpa [Wl] using h⟩ ?_
    · unfold tkS
      by_cases g2:4 * e≤Eb.length
      · rw [if_pos ⟨rfl,by omega,by omega⟩]
        exact Or.inl ⟨rfl,by show 0+((4 * e:Nat):Int).toNat=4 * (e+0); omega,by simpa using g2⟩
      · rw [if_neg (by omega)]
        exact Or.inr ⟨by decide,rfl,by omega⟩
    clear h
    rintro ⟨m,at',err,ag1⟩ t10 ag wL I μ ⟨rfl,hf,ht,h⟩ hin
    simp only at hf ht h hin ⊢
    unfold qo.b2
    refine qzc (fun g2=>?_) (fun g2=>?_)
    · have hag:ag=false:=by simpa using g2
      subst hag
      obtain ⟨hj,hst⟩:=hf rfl
      refine qgc.c (rb:=rb) h hB fun w h=>⟨_,rfl,?_⟩
      rw [nu4 hB] at h ⊢
      simp only at h ⊢
      refine qad.c (rb:=rb) (xs:=Eb) (at':=(tkS Eb at' err 4).2.1) (err:=(tkS Eb at' err 4).2.2) h ⟨_,rfl,?_⟩
      refine qzc (fun g3=>?_) (fun g3=>?_)
      · have g3:¬ (tkS Eb at' err 4).2.2=0:=by simpa using g3
        refine hk1 w (fun PP hPP=>?_) h.drop.drop
        have hsh:=hPP.short he hj
        unfold tkS at g3
        rcases hst with ⟨rfl,rfl,h5⟩ | ⟨_,rfl,h5⟩
        · rw [if_pos ⟨rfl,by decide,by omega⟩] at g3
          exact g3 rfl
        · omega
      · have g3:(tkS Eb at' err 4).2.2=0:=by simpa using g3
        have h6:err=0∧at'=4 * (e+m)∧4 * (e+(m+1))≤Eb.length:=by
         unfold tkS at g3
         split at g3
         · rename_i hc
           rcases hst with ⟨h1,h2,h3⟩ | ⟨h1,h2,h3⟩
           · exact ⟨h1,h2,by have:=hc.2.2; omega⟩
           · exact absurd hc.1 h1
         · rename_i hc
           simp only at g3
           split at g3
           · cases g3
           · rename_i hne
             exact absurd g3 hne
        obtain ⟨rfl,rfl,hroom⟩:=h6
        have hval:(tkS Eb (4 * (e+m)) 0 4).1=(Eb.drop (4 * (e+m))).take 4:=by
         unfold tkS
         rw [if_pos ⟨rfl,by decide,by omega⟩]
         rfl
        have hnext:(tkS Eb (4 * (e+m)) 0 4).2=(4 * (e+(m+1)),0):=by
         unfold tkS
         rw [if_pos ⟨rfl,by decide,by omega⟩]
         rfl
        rw [hnext] at h
        rw [hval]
        have hwd:be ((Eb.drop (4 * (e+m))).take 4)=wd Eb (e+m):=rfl
        rw [hwd]
        refine qw (and31 _) ?_
        refine h.pushI (s:=t10) (by rw [List.length_append,Wl_len]; omega) fun s2 w h=>?_
        refine ⟨by simp,hin (m+1,4 * (e+(m+1)),0,decide (wd Eb (e+m) ≥ 2147483648)) _ _ _ ⟨rfl,fun hd=>?_,fun hd=>?_,?_⟩ (by simp only; omega)⟩
        · have hd:=of_decide_eq_false hd
          refine ⟨fun j hjm=>?_,Or.inl ⟨rfl,rfl,hroom⟩⟩
          by_cases e3:j=m
          · subst e3; omega
          · exact hj j (by simp only at hjm; omega)
        · have hd:=of_decide_eq_true hd
          exact ⟨by simp only; omega,hroom,fun j hjm=>hj j (by simp only at hjm; omega),by simp only [Nat.add_sub_cancel]; exact hd⟩
        · simp only
          rw [Wl_succ,← List.append_assoc]
          exact h.at1
    · have hag:ag=true:=by simpa using g2
      obtain ⟨hm1,hm2,hm3,hm4⟩:=ht hag
      have h:St F0 w0 wL (qbb 1 t10 (ivs .i64 (lst0 P ++ Wl (wd Eb) e m)) :: ps):=h.drop
      refine qhj (l:=lst0 P ++ Wl (wd Eb) e m) (P:=P) (Q:=Q) (f:=wd Eb) (E:=Eb.length / 4) h hA (by rw [List.length_append,Wl_len]; omega) (fun v hv=>?_) (fun PP hPP=>hPP.words he hm1 hm3 hm4) (fun w hn h=>hk1 w hn h) fun R t w ht hR hn h=>hk2 R t w ht ?_ hn h
      · rcases List.mem_append.1 hv with hv | hv
        · exact hl0n v hv
        · obtain ⟨j,_,rfl⟩:=List.mem_map.1 hv
          omega
      · rw [List.length_append,Wl_len] at hR
        omega
  · refine qzc (fun g2=>?_) (fun g2=>?_)
    · have g2:¬ Q=1879048192:=by simpa using g2
      refine h.pushI (s:=t10) (by omega) fun s2 w h=>?_
      refine qhj (l:=lst0 P ++ [Q]) (P:=P) (Q:=Q) (f:=wd Eb) (E:=Eb.length / 4) h hA (by rw [List.length_append,List.length_singleton]; omega) (fun v hv=>?_) (fun PP hPP=>hPP.two g2 (by omega)) (fun w hn h=>hk1 w hn h) fun R t w ht hR hn h=>hk2 R t w ht ?_ hn h
      · rcases List.mem_append.1 hv with hv | hv
        · exact hl0n v hv
        · have:v=Q:=by simpa using hv
          omega
      · rw [List.length_append,List.length_singleton] at hR
        omega
    · have g2:Q=1879048192:=by simpa using g2
      refine qhj (l:=lst0 P) (P:=P) (Q:=Q) (f:=wd Eb) (E:=Eb.length / 4) h hA (by omega) hl0n (fun PP hPP=>hPP.none g2) (fun w hn h=>hk1 w hn h) fun R t w ht hR hn h=>hk2 R t w ht ?_ hn h
      omega
 unfold qo.j1
 refine qzc (fun g=>?_) (fun g=>?_)
 · have g:¬ P=1879048192:=by simpa using g
   refine St.pushI (s:=⟨none,0,0⟩) (zs:=[]) (k:=.i64) (h.nil 1) (Nat.zero_le _) fun s2 w h=>?_
   refine j2 s2 w ?_
   unfold lst0
   rw [if_neg g]
   exact h
 · have g:P=1879048192:=by simpa using g
   refine j2 ⟨none,0,0⟩ w ?_
   unfold lst0
   rw [if_pos g]
   exact h.nil 1
end
end Go.Proofs.Ytigmbblgfnkpbaa
namespace Go.Proofs.Ytigmbblgfnkpbaa
open Go Go.Proofs
set_option linter.unusedVariables false
set_option linter.unusedSimpArgs false
attribute [local irreducible] qoe
structure Vg (S:List Cm) (g:Nm→Int):Prop where
 ris:S.Pairwise ltC
 ok:OkC S
 full:∃ O,Wk (fC S) true O g∧S.length≤O.length
 len:S.length≤1024
theorem Vg.nm {S:List Cm} {g:Nm→Int} (h:Vg S g):Ris (S.map (·.id)):=by
 unfold Ris
 rw [List.pairwise_map]
 exact h.ris
theorem flat_at {α:Type} {f:α→List Int} {sz:Nat} (hf:∀ x,(f x).length=sz) (r:List Int):∀ {L:List α} {j:Nat} (hj:j < L.length),((L.flatMap f ++ r).drop (sz * j)).take sz=f L[j]:=by
 intro L
 induction L with
 | nil=>intro j hj; simp at hj
 | cons x L ih =>
   intro j hj
   show ((f x ++ L.flatMap f ++ r).drop _).take sz=_
   rw [List.append_assoc]
   cases j with
   | zero =>
     rw [Nat.mul_zero,List.drop_zero,List.take_left' (hf x)]
     rfl
   | succ j =>
     rw [Nat.mul_succ,Nat.add_comm,← List.drop_drop,List.drop_left' (hf x),ih (by simpa using hj)]
     rfl
section
variable {S:List Cm} {g:Nm→Int} {xs:List Int}
def hcN (S:List Cm):Nat:=if (eG (S.map (·.id)) S).length=0 then 3 else 4
theorem hcN_34 (S:List Cm):hcN S=3 ∨ hcN S=4:=by unfold hcN; split <;> simp
def hdX (S:List Cm) (g:Nm→Int):List Int:=hdB (hcN S) ++ tb (chunkL (S.map (·.id)) g S) (hcN S) ++ [0,0,0,0] ++ beJ 8 8 (ofs (chunkL (S.map (·.id)) g S) (hcN S))
theorem hdX_len (S:List Cm) (g:Nm→Int):(hdX S g).length=8+(hcN S+1) * 12:=by
 have:=hcN_34 S
 unfold hdX
 rw [List.length_append,List.length_append,List.length_append,tb_len _ (by omega),qob]
 show 8+_+4+8=_
 omega
theorem qzi (S:List Cm) (g:Nm→Int):gB S g=hdX S g ++ (fB (S.map (·.id)) ++ (nB (S.map (·.id)) ++ (dG (S.map (·.id)) g S S.length ++ (wB (eG (S.map (·.id)) S) ++ qoe (qkh (chunkL (S.map (·.id)) g S)))))):=by
 have hc:(chunkL (S.map (·.id)) g S).length=hcN S:=chunk_len _ _ _
 have e:gB S g=qkh (chunkL (S.map (·.id)) g S) ++ qoe (qkh (chunkL (S.map (·.id)) g S)):=rfl
 rw [e]
 generalize qoe (qkh (chunkL (S.map (·.id)) g S))=sm
 unfold qkh hdX
 rw [hc,qtk]
 simp only [List.append_assoc]
theorem gB_6 (h:xs=gB S g):xs.getD 6 0=hcN S:=by
 rw [h,qzi]
 unfold hdX hdB
 simp
theorem gB_head (h:xs=gB S g):xs.take 6=[67,71,80,72,1,1]:=by
 rw [h,qzi]
 unfold hdX hdB
 simp
theorem qok (h:xs=gB S g):xs.length=8+(hcN S+1) * 12+1024+56 * S.length+4 * (eG (S.map (·.id)) S).length+20:=by
 rw [h,qzi,List.length_append,List.length_append,List.length_append,List.length_append,List.length_append,hdX_len,fB_len,nB_len,dG_len,qkf,qye,List.length_map]
 omega
theorem gB_d0 (h:xs=gB S g):xs.drop (8+(hcN S+1) * 12)=fB (S.map (·.id)) ++ (nB (S.map (·.id)) ++ (dG (S.map (·.id)) g S S.length ++ (wB (eG (S.map (·.id)) S) ++ qoe (qkh (chunkL (S.map (·.id)) g S))))):=by
 rw [h,qzi,List.drop_left' (hdX_len S g)]
theorem gB_d1 (h:xs=gB S g):xs.drop (8+(hcN S+1) * 12+1024)=nB (S.map (·.id)) ++ (dG (S.map (·.id)) g S S.length ++ (wB (eG (S.map (·.id)) S) ++ qoe (qkh (chunkL (S.map (·.id)) g S)))):=by
 rw [← List.drop_drop,gB_d0 h,List.drop_left' (fB_len _)]
theorem gB_d2 (h:xs=gB S g):xs.drop (8+(hcN S+1) * 12+1024+20 * S.length)=dG (S.map (·.id)) g S S.length ++ (wB (eG (S.map (·.id)) S) ++ qoe (qkh (chunkL (S.map (·.id)) g S))):=by
 rw [← List.drop_drop,gB_d1 h,List.drop_left' (by rw [nB_len,List.length_map])]
theorem gB_d3 (h:xs=gB S g):xs.drop (8+(hcN S+1) * 12+1024+20 * S.length+36 * S.length)=wB (eG (S.map (·.id)) S) ++ qoe (qkh (chunkL (S.map (·.id)) g S)):=by
 rw [← List.drop_drop,gB_d2 h,List.drop_left' (dG_len _ _ _ _)]
theorem fan_last (A:List Nm):(fanL A).getD 255 0=A.length:=by
 unfold fanL
 rw [qpe (by decide)]
 congr 1
 unfold cntL
 rw [List.countP_eq_length]
 intro a _
 have:=hd0_b a
 simp only [decide_eq_true_eq]
 omega
theorem gB_count (h:xs=gB S g):(xs.drop (8+(hcN S+1) * 12+1020)).take 4=beJ 4 4 S.length:=by
 rw [← List.drop_drop,gB_d0 h]
 have hl:(fanL (S.map (·.id))).length=256:=qvh _
 have:=flat_at (f:=beJ 4 4) (sz:=4) (fun x=>qob 4 4 x) (nB (S.map (·.id)) ++ (dG (S.map (·.id)) g S S.length ++ (wB (eG (S.map (·.id)) S) ++ qoe (qkh (chunkL (S.map (·.id)) g S))))) (L:=fanL (S.map (·.id))) (j:=255) (by omega)
 have e:(fanL (S.map (·.id)))[255]'(by omega)=(S.length:Int):=by
  have:=fan_last (S.map (·.id))
  rw [List.getD_eq_getElem?_getD,List.getElem?_eq_getElem (by omega),List.length_map] at this
  exact this
 rw [e] at this
 exact this
theorem gB_name (h:xs=gB S g) {i:Nat} (hi:i < S.length):(xs.drop (8+(hcN S+1) * 12+1024+20 * i)).take 20=S[i].id.1:=by
 rw [← List.drop_drop,gB_d1 h]
 have:=flat_at (f:=fun a:Nm=>a.1) (sz:=20) (fun a=>a.2.1) (dG (S.map (·.id)) g S S.length ++ (wB (eG (S.map (·.id)) S) ++ qoe (qkh (chunkL (S.map (·.id)) g S)))) (L:=S.map (·.id)) (j:=i) (by rw [List.length_map]; exact hi)
 rw [List.getElem_map] at this
 exact this
theorem gB_row (h:xs=gB S g) {i:Nat} (hi:i < S.length):(xs.drop (8+(hcN S+1) * 12+1024+20 * S.length+36 * i)).take 36=drow S[i].qwe.1 (qC (S.map (·.id)) S[i]) (eG (S.map (·.id)) (S.take i)).length (g S[i].id * 17179869184+S[i].date):=by
 rw [← List.drop_drop,gB_d2 h]
 have:=flat_at (f:=drw (S.map (·.id)) g S) (sz:=36) (fun j=>drw_len _ _ _ j) (wB (eG (S.map (·.id)) S) ++ qoe (qkh (chunkL (S.map (·.id)) g S))) (L:=List.range S.length) (j:=i) (by rw [List.length_range]; exact hi)
 rw [List.getElem_range] at this
 have e:drw (S.map (·.id)) g S i=drow S[i].qwe.1 (qC (S.map (·.id)) S[i]) (eG (S.map (·.id)) (S.take i)).length (g S[i].id * 17179869184+S[i].date):=by
  unfold drw
  rw [List.getD_eq_getElem?_getD,List.getElem?_eq_getElem hi]
  rfl
 rw [e] at this
 exact this
theorem gB_edge (h:xs=gB S g):(xs.drop (8+(hcN S+1) * 12+1024+20 * S.length+36 * S.length)).take (xs.length - 20 - (8+(hcN S+1) * 12+1024+20 * S.length+36 * S.length))=wB (eG (S.map (·.id)) S):=by
 have hl:=qok h
 rw [gB_d3 h,List.take_left' (by rw [qkf]; omega)]
theorem be_word {v:Int} (h:0≤v∧v < 4294967296):be (beJ 4 4 v)=v:=by
 rw [be_beJ']
 have e:((2:Int) ^ (8 * 4))=4294967296:=by decide
 rw [e]
 omega
theorem be_word8 {v:Int} (h:0≤v∧v < 18446744073709551616):be (beJ 8 8 v)=v:=by
 rw [be_beJ']
 have e:((2:Int) ^ (8 * 8))=18446744073709551616:=by decide
 rw [e]
 omega
theorem wd_wB {W:List Int} {k:Nat} (hk:k < W.length) (hv:0≤W.getD k 0∧W.getD k 0 < 4294967296):wd (wB W) k=W.getD k 0:=by
 unfold wd
 have:=flat_at (f:=beJ 4 4) (sz:=4) (fun x=>qob 4 4 x) [] (L:=W) (j:=k) hk
 rw [List.append_nil] at this
 have e:(wB W).drop (4 * k)=(W.flatMap (beJ 4 4)).drop (4 * k):=rfl
 rw [e,this]
 have e2:W[k]=W.getD k 0:=by rw [List.getD_eq_getElem?_getD,List.getElem?_eq_getElem hk]; rfl
 rw [e2,be_word hv]
theorem row_tree {qwe q:List Int} {e:Nat} {gd:Int} (ht:qwe.length=20):(drow qwe q e gd).take 20=qwe:=by
 unfold drow
 rw [List.take_left' ht]
theorem row_a {qwe q:List Int} {e:Nat} {gd:Int} (ht:qwe.length=20):((drow qwe q e gd).drop 20).take 4=beJ 4 4 (numA q):=by
 unfold drow
 rw [List.drop_left' ht,List.take_left' (qob 4 4 _)]
theorem row_b {qwe q:List Int} {e:Nat} {gd:Int} (ht:qwe.length=20):((drow qwe q e gd).drop 24).take 4=beJ 4 4 (numB e q):=by
 unfold drow
 rw [show 24=20+4 by rfl,← List.drop_drop,List.drop_left' ht,List.drop_left' (qob 4 4 _),List.take_left' (qob 4 4 _)]
theorem row_d {qwe q:List Int} {e:Nat} {gd:Int} (ht:qwe.length=20):((drow qwe q e gd).drop 28).take 8=beJ 8 8 gd:=by
 unfold drow
 rw [show 28=20+4+4 by rfl,← List.drop_drop,← List.drop_drop,List.drop_left' ht,List.drop_left' (qob 4 4 _),List.drop_left' (qob 4 4 _),List.take_of_length_le (by rw [qob]; exact Nat.le_refl _)]
theorem qC_small (hV:Vg S g) (c:Cm):∀ v ∈ qC (S.map (·.id)) c,0≤v∧v≤1024:=by
 intro v hv
 obtain ⟨p,_,rfl⟩:=List.mem_map.1 hv
 have:=posN_le (S.map (·.id)) p
 rw [List.length_map] at this
 have:=hV.len
 omega
theorem eG_small (hV:Vg S g):∀ (C:List Cm),∀ v ∈ eG (S.map (·.id)) C,0≤v∧v < 4294967296:=by
 intro C v hv
 obtain ⟨c,_,hv⟩:=List.mem_flatMap.1 hv
 have hq:=qC_small hV c
 unfold edw at hv
 split at hv
 · rename_i g2
   rcases List.mem_append.1 hv with hv | hv
   · have:=hq v (List.mem_of_mem_drop ((List.dropLast_sublist _).subset hv))
     omega
   · have e:v=(qC (S.map (·.id)) c).getD ((qC (S.map (·.id)) c).length - 1) 0+2147483648:=by simpa using hv
     have:=hq _ (qgf (xs:=qC (S.map (·.id)) c) (i:=(qC (S.map (·.id)) c).length - 1) (by omega))
     omega
 · cases hv
theorem gB_enc (hV:Vg S g) {i:Nat} (hi:i < S.length):qjh (S.map (·.id)) (wd (wB (eG (S.map (·.id)) S))) ((wB (eG (S.map (·.id)) S)).length / 4) (numA (qC (S.map (·.id)) S[i])) (numB (eG (S.map (·.id)) (S.take i)).length (qC (S.map (·.id)) S[i])) S[i].par:=by
 have hsp:eG (S.map (·.id)) S=eG (S.map (·.id)) (S.take i) ++ (edw (qC (S.map (·.id)) S[i]) ++ eG (S.map (·.id)) (S.drop (i+1))):=by
  have e:S=S.take i ++ (S[i] :: S.drop (i+1)):=by rw [← List.drop_eq_getElem_cons hi,List.take_append_drop]
  have:∀ A,eG A (S.take i ++ (S[i] :: S.drop (i+1)))=eG A (S.take i) ++ (edw (qC A S[i]) ++ eG A (S.drop (i+1))):=fun A=>by
   unfold eG
   rw [List.flatMap_append,List.flatMap_cons]
  have h2:=this (S.map (·.id))
  rw [← e] at h2
  exact h2
 have hris:=hV.nm
 have hmem:∀ p ∈ S[i].par,p ∈ S.map (·.id):=fun p hp=>hV.ok.par _ (List.getElem_mem hi) p hp
 have hlen:(S.map (·.id)).length≤1024:=by rw [List.length_map]; exact hV.len
 have hsm:=eG_small hV S
 unfold qC at hsp ⊢
 generalize S.map (·.id)=A at hsp hris hmem hlen hsm ⊢
 have hl:=congrArg List.length hsp
 rw [List.length_append,List.length_append] at hl
 refine ⟨hris,hmem,hlen,rfl,(eG A (S.take i)).length,rfl,?_,fun j hj=>?_⟩
 · rw [qkf]
   omega
 · have hlt:(eG A (S.take i)).length+j < (eG A S).length:=by omega
   rw [wd_wB hlt (hsm _ (qgf hlt))]
   rw [hsp,List.getD_eq_getElem?_getD,List.getElem?_append_right (by omega),Nat.add_sub_cancel_left,List.getElem?_append_left hj,List.getD_eq_getElem?_getD]
theorem sum_par (S:List Cm) (A:List Nm):(S.map fun c=>c.par.length).sum≤(eG A S).length+2 * S.length:=by
 induction S with
 | nil=>exact Nat.le_refl _
 | cons c S ih =>
   have e:eG A (c :: S)=edw (qC A c) ++ eG A S:=rfl
   rw [e,List.length_append,List.map_cons,List.sum_cons,qrj,List.length_cons]
   have:(qC A c).length=c.par.length:=qze A c.par
   split <;> omega
theorem Vg.gen (hV:Vg S g) {c:Cm} (hc:c ∈ S):1≤g c.id∧g c.id≤1024:=by
 obtain ⟨O,hW,hl⟩:=hV.full
 have:=wk_gen hW hl hc
 have:=hV.len
 omega
theorem numA_b (hV:Vg S g) (c:Cm):0≤numA (qC (S.map (·.id)) c)∧numA (qC (S.map (·.id)) c) < 4294967296:=by
 unfold numA
 split
 · rename_i h
   have:=qC_small hV c _ (qgf h)
   omega
 · omega
theorem numB_b (hV:Vg S g) (c:Cm) {e:Nat} (he:e < 1000000):0≤numB e (qC (S.map (·.id)) c)∧numB e (qC (S.map (·.id)) c) < 4294967296:=by
 unfold numB
 split
 · rename_i h
   have:=qC_small hV c _ (qgf (xs:=qC (S.map (·.id)) c) (i:=1) (by omega))
   omega
 · split <;> omega
end
end Go.Proofs.Ytigmbblgfnkpbaa
namespace Go.Proofs.Ytigmbblgfnkpbaa
open Go Go.Proofs
set_option linter.unusedVariables false
set_option linter.unusedSimpArgs false
attribute [local irreducible] apK cpK mkK br qoe
theorem and34 (x:Int):andV .i64 x 17179869183=x % 17179869184:=by
 have:=andV_mod .i64 x (t:=34) (by decide)
 have e:((2:Int) ^ 34)=17179869184:=by decide
 rw [e] at this
 exact this
theorem nu8 {xs:List Int} (at':Nat) (err:Int):nuS xs at' err 8=if 9223372036854775807 < be (tkS xs at' err 8).1 then (0,at',5) else (be (tkS xs at' err 8).1,(tkS xs at' err 8).2):=rfl
theorem tk_in {xs:List Int} {at' n:Nat} (h:at'+n≤xs.length):tkS xs at' 0 (n:Int)=((xs.drop at').take n,at'+n,0):=by
 unfold tkS
 rw [if_pos ⟨rfl,by omega,by omega⟩,Int.toNat_natCast]
def nd0 (a b:Nm):Nd:=⟨a.1,b.1,a.2.1,b.2.1,a.2.2,b.2.2,⟨none,0,0⟩,0⟩
def Nd.setD (n:Nd) (d:Int):Nd:={ n with date:=d }
theorem build_0 (a b:Nm):spl (spl (ndC ndZ) 0 ⟨ivs .u8 a.1⟩) 20 ⟨ivs .u8 b.1⟩=ndC (nd0 a b):=by
 have h1:spl (ndC ndZ) 0 ⟨ivs .u8 a.1⟩=ivs .u8 a.1 ++ (ndC ndZ).drop 20:=by
  rw [spl_eq _ _ _ (by rw [qt,a.2.1,qz]; decide),List.take_zero,List.nil_append,qt,a.2.1]
 have hd:(ndC ndZ).drop 20=ivs .u8 z20 ++ [.slice none 0 0,.int .i64 0]:=by rfl
 rw [h1,hd,spl_eq _ _ _ (by simp [a.2.1,b.2.1,z20])]
 rw [List.take_left' (by rw [qt,a.2.1]),qt,b.2.1]
 rw [List.drop_append,qt,a.2.1,List.drop_eq_nil_of_le (by rw [qt,a.2.1]; decide),List.nil_append,List.append_assoc]
 rfl
theorem qph (n:Nd) (d:Int):(ndC n).set 41 (.int .i64 d)=ndC (n.setD d):=by
 unfold ndC Nd.setD
 rw [List.set_append_right _ _ (by rw [qt,n.hid]; decide),qt,n.hid,List.set_append_right _ _ (by rw [qt,n.htr]; decide),qt,n.htr]
 rfl
theorem Rd.ldF {w:World} {s:Sl} {ys:List Int} {n:Nat} {K:Array Value→Prop} (h:Rd w 1 s (u8s ys)) (hn:0 < n) (hl:n≤ys.length) (hk:K ⟨u8s (ys.take n)⟩):nz s.a fun a=>ldA w a n K:=by
 have hlen:=h.1
 obtain ⟨a,ha,hc⟩:=h.2 0 (by rw [qgb]; omega)
 rw [ha]
 refine qee ?_
 refine ⟨⟨u8s (ys.take n)⟩,by rw [List.size_toArray,qgb,List.length_take]; omega,fun i hi=>?_,hk⟩
 rw [h.cell ha (by rw [qgb]; omega)]
 show (ivs .u8 ys)[i]?=(⟨ivs .u8 (ys.take n)⟩:Array Value)[i]?
 simp [ivs,List.getElem?_take,hi]
section
variable {F0:List Nat} {w0 w:World} {ps rest:List As} {s t te ta b:Sl} {Eb R:List Int} {A:List Nm} {n:Nd} {X:List Cx} {K:Ending→World→Prop} {rb xb N i:Nat}
 {t10:Sl} {t5:Int} {Q:VWP} {nx1:Sl→Int→Int→Sl→Sl→Int→Sl→Int→Int→World→Prop}
structure RowX (A:List Nm) (Eb R:List Int) (qwe:Nm) (x:Cx):Prop where
 tr:x.1.tr=qwe
 dt:x.1.date=be ((R.drop 28).take 8) % 17179869184
 par:∀ PP,qjh A (wd Eb) (Eb.length / 4) (be ((R.drop 20).take 4)) (be ((R.drop 24).take 4)) PP→x.2=PP
theorem read_13 {rows:Nat} (h:St F0 w0 w (qfb xb (ndC n) :: brA rb (R,20,0) :: qbb 42 t10 ((ndX X).flatMap ndC) :: qzd (X.map cxA) :: ps)) (hRl:R.length=36) (hRB:qsd R) [Rdb F0 w0 te ps 1 (u8s Eb)] [Rdb F0 w0 ta ps 20 (A.flatMap nmC)] (hE:qsd Eb) (hEl:Eb.length≤1000000) (hA:A.length≤1000000) (hX:X.length≤1000000) (hrows:rows≤2000000) (hN:N≤1024)
 (hk1:∀ w',((∀ PP,¬ qjh A (wd Eb) (Eb.length / 4) (be ((R.drop 20).take 4)) (be ((R.drop 24).take 4)) PP) ∨ 9223372036854775807 < be ((R.drop 28).take 8) ∨ (∃ x:Cx,RowX A Eb R n.tr x∧Eb.length / 4+2 * N < rows+x.2.length))→St F0 w0 w' ps→Q (.tuple ⟨[.slice none 0 0,.bool false]⟩) w')
 (hk2:∀ x t' w',RowX A Eb R n.tr x→x.1.id=n.id→rows+x.2.length≤Eb.length / 4+2 * N→St F0 w0 w' (qbb 42 t' ((ndX (X ++ [x])).flatMap ndC) :: qzd ((X ++ [x]).map cxA) :: ps)→nx1 b t5 (N:Int) ta te (N:Int) t' ((rows+x.2.length:Nat):Int) ((i+1:Nat):Int) w') (hi:i≤1000000) :
 qp.j13 b t5 (N:Int) ta te t10 (rows:Int) (some ⟨rb,0,none⟩) ⟨xb,0,none⟩ (N:Int) (i:Int) Q nx1 w:=by
 have pb:∀ k,0≤be ((R.drop k).take 4)∧be ((R.drop k).take 4) < 4294967296:=fun k=>be4_b (fun x hx=>hRB x (List.mem_of_mem_drop (List.mem_of_mem_take hx))) (by rw [List.length_take]; omega)
 unfold qp.j13
 refine qgc.c (rb:=rb) h hRB fun w h=>⟨_,rfl,?_⟩
 have e1:=nu4 hRB 20 0
 have t1:tkS R 20 0 4=((R.drop 20).take 4,24,0):=tk_in (n:=4) (by omega)
 rw [t1] at e1
 rw [e1] at h ⊢
 refine qgc.c (rb:=rb) (at':=24) (err:=0) h hRB fun w h=>⟨_,rfl,?_⟩
 have e2:=nu4 hRB 24 0
 have t2:tkS R 24 0 4=((R.drop 24).take 4,28,0):=tk_in (n:=4) (by omega)
 rw [t2] at e2
 rw [e2] at h ⊢
 refine qld.c (rb:=rb) (at':=28) (err:=0) h hRB fun w h=>⟨_,rfl,?_⟩
 have e3:=nu8 (xs:=R) 28 0
 have t3:tkS R 28 0 8=((R.drop 28).take 8,36,0):=tk_in (n:=8) (by omega)
 rw [t3] at e3
 have pP:=pb 20
 have pQ:=pb 24
 have hd0:0≤be ((R.drop 28).take 8):=(be_lt _ (fun x hx=>hRB x (List.mem_of_mem_drop (List.mem_of_mem_take hx)))).1
 simp only at h ⊢
 generalize hPe:be ((R.drop 20).take 4)=P at hk1 pP ⊢
 generalize hPe2:be ((R.drop 24).take 4)=P2 at hk1 pQ ⊢
 have hEte:=(h.rdb te).1
 rw [qgb,Nat.mul_one] at hEte
 have fin:∀ (v:Int) (at3:Nat) (err:Int) w,((v=be ((R.drop 28).take 8)∧err=0) ∨ (v=0∧err=5∧9223372036854775807 < be ((R.drop 28).take 8)))→St F0 w0 w (brA rb (R,at3,err) :: qfb xb (ndC n) :: qbb 42 t10 ((ndX X).flatMap ndC) :: qzd (X.map cxA) :: ps) →
  lt (andV .i64 v 17179869183) fun x11=>Go.Proofs.Ytigmbblgfnkpbaa.st w (Addr.add ⟨xb,0,none⟩ 41) (.int .i64 x11) fun w12 =>
  ct_LB 53 [.int .i64 P,.int .i64 P2,sV te,sV ta] w12 fun r15 r16 w14 =>
  Go.Proofs.Ytigmbblgfnkpbaa.st w14 (Addr.add ⟨xb,0,none⟩ 40) (sV r15) fun w17 =>
  ldL w17 (Addr.add ⟨xb,0,none⟩ 40) fun x18 =>
  lt (IntKind.i64.wrap ((rows:Int)+(x18.len:Int))) fun x19 =>
  br (!r16) (
  Q (.tuple ⟨[.slice none 0 0,.bool false]⟩) w17) (
  qhf 54 [.pointer (some ⟨rb,0,none⟩)] w17 fun r22 w21 =>
  br (r22 != 0) (
  Q (.tuple ⟨[.slice none 0 0,.bool false]⟩) w21) (
  (4:Int) ≠ 0 ∧
  lt (IntKind.i64.wrap (Int.tdiv (te.len:Int) 4)) fun x23 =>
  lt (IntKind.i64.wrap (2 * (N:Int))) fun x24 =>
  lt (IntKind.i64.wrap (x23+x24)) fun x25 =>
  br (decide (x19 > x25)) (
  Q (.tuple ⟨[.slice none 0 0,.bool false]⟩) w21) (
  ldA w21 ⟨xb,0,none⟩ 42 fun c26 =>
  (c26).size=42 ∧
  nw w21 ⟨(spl (qie 1 (zc Try.prog 31).toList) 0 c26)⟩ 31 fun a27 w28 =>
  rdO w28 (some a27) (1 * 42) fun c29 =>
  apK Try.prog 31 w28 t10.a t10.len t10.cap 1 c29 fun s30 w31 =>
  qp.j11 b t5 (N:Int) ta te s30 x19 (N:Int) (i:Int) Q nx1 w31))):=by
  intro v at3 err w hv h
  refine qw (and34 v) ?_
  rw [qjc]
  refine h.at1.st (by rw [qz]; decide) trivial fun w h=>?_
  have h:St F0 w0 w (qfb xb (ndC (n.setD (v % 17179869184))) :: brA rb (R,at3,err) :: qbb 42 t10 ((ndX X).flatMap ndC) :: qzd (X.map cxA) :: ps):=by
   rw [← qph]
   exact h
  rw [qjc]
  refine qo.c (te:=te) (ta:=ta) (Eb:=Eb) (A:=A) (P:=P) (Q:=P2) h hE hEl hA pP pQ (fun w hn h=>⟨⟨none,0,0⟩,false,rfl,?_⟩) (fun RR t w ht hR hn h=>⟨t,true,rfl,?_⟩)
  · refine h.st (by rw [qz]; decide) trivial fun w h=>?_
    have h:St F0 w0 w (qfb xb (ndC ((n.setD (v % 17179869184)).setP ⟨none,0,0⟩)) :: brA rb (R,at3,err) :: qbb 42 t10 ((ndX X).flatMap ndC) :: qzd (X.map cxA) :: ps):=by
     rw [← qvg]
     exact h
    refine h.blk.ldPar (n:=(n.setD (v % 17179869184)).setP ⟨none,0,0⟩) ?_
    refine qtd ?_
    exact qzc (fun _=>hk1 w (Or.inl hn) h.drop.drop.drop.drop) (fun g=>by cases g)
  · refine h.at1.st (by rw [qz]; decide) trivial fun w h=>?_
    have h:St F0 w0 w (qfb xb (ndC ((n.setD (v % 17179869184)).setP t)) :: qbb 20 t (RR.flatMap nmC) :: brA rb (R,at3,err) :: qbb 42 t10 ((ndX X).flatMap ndC) :: qzd (X.map cxA) :: ps):=by
     rw [← qvg]
     exact h
    refine h.blk.ldPar (n:=(n.setD (v % 17179869184)).setP t) ?_
    have ht':((n.setD (v % 17179869184)).setP t).par.len=RR.length:=ht
    refine qw (e':=((rows+RR.length:Nat):Int)) (by rw [ht',qq (by omega) (by omega)]; omega) ?_
    refine qzc (fun g=>by cases g) (fun _=>?_)
    have hpsd:∀ {w},St F0 w0 w (qfb xb (ndC ((n.setD (v % 17179869184)).setP t)) :: qbb 20 t (RR.flatMap nmC) :: brA rb (R,at3,err) :: qbb 42 t10 ((ndX X).flatMap ndC) :: qzd (X.map cxA) :: ps)→St F0 w0 w ps:=fun h=>h.drop.drop.drop.drop.drop
    refine qad.c (rb:=rb) (xs:=R) (at':=at3) (err:=err) h ⟨_,rfl,?_⟩
    refine qzc (fun g=>?_) (fun g=>?_)
    · have g:¬ err=0:=by simpa using g
      rcases hv with ⟨_,e⟩ | ⟨_,_,e⟩
      · exact absurd e g
      · exact hk1 w (Or.inr (Or.inl e)) (hpsd h)
    · have g:err=0:=by simpa using g
      obtain ⟨rfl,_⟩:=hv.resolve_right fun e=>by rw [g] at e; exact absurd e.2.1 (by decide)
      have hrx:RowX A Eb R n.tr ((n.setD (be ((R.drop 28).take 8) % 17179869184)).setP t,RR):=⟨rfl,rfl,fun PP hPP=>hn PP (by
       rw [hPe,hPe2] at hPP
       exact hPP)⟩
      refine ⟨by decide,?_⟩
      have etd:Int.tdiv (te.len:Int) 4=((Eb.length / 4:Nat):Int):=by
       rw [Int.tdiv_eq_ediv_of_nonneg (by omega)]
       omega
      refine qw (e':=((Eb.length / 4:Nat):Int)) (by rw [etd,qq (by omega) (by omega)]) ?_
      refine qw (qq (by omega) (by omega)) ?_
      refine qw (qq (by omega) (by omega)) ?_
      refine qlc (fun g2=>?_) (fun g2=>?_)
      · exact hk1 w (Or.inr (Or.inr ⟨_,hrx,by simp only; omega⟩)) (hpsd h)
      · refine h.lA (b:=xb) (qz _) ⟨qz _,?_⟩
        rw [qde (by rw [qz,qmd]; rfl)]
        refine h.pushR (s:=t10) (L:=ndX X) (x:=(n.setD (be ((R.drop 28).take 8) % 17179869184)).setP t) (by rw [qgi]; omega) rfl fun t' w hs h=>?_
        unfold qp.j11
        refine qw (e':=((i+1:Nat):Int)) (by rw [qq (by omega) (by omega)]; rfl) ?_
        refine hk2 _ t' w hrx rfl (by simp only; omega) ?_
        have h2:St F0 w0 w (qbb 20 t (RR.flatMap nmC) :: qzd (X.map cxA) :: qbb 42 t' ((ndX X ++ [(n.setD (be ((R.drop 28).take 8) % 17179869184)).setP t]).flatMap ndC) :: ps):=h.sub
        have h3:St F0 w0 w (qzd ((((n.setD (be ((R.drop 28).take 8) % 17179869184)).setP t,RR) :: X).map cxA) :: qbb 42 t' ((ndX X ++ [(n.setD (be ((R.drop 28).take 8) % 17179869184)).setP t]).flatMap ndC) :: ps):=h2.ro.bagIn
        have h4:=h3.bagP (l':=(X ++ [((n.setD (be ((R.drop 28).take 8) % 17179869184)).setP t,RR)]).map cxA) ((List.perm_append_singleton _ X).symm.map _)
        have e:ndX (X ++ [((n.setD (be ((R.drop 28).take 8) % 17179869184)).setP t,RR)])=ndX X ++ [(n.setD (be ((R.drop 28).take 8) % 17179869184)).setP t]:=by rw [ndX_app]; rfl
        rw [e]
        exact h4.at1
 rw [e3] at h ⊢
 by_cases gD:9223372036854775807 < be ((R.drop 28).take 8)
 · rw [if_pos gD] at h ⊢
   exact fin 0 28 5 w (Or.inr ⟨rfl,rfl,gD⟩) h
 · rw [if_neg gD] at h ⊢
   exact fin _ 36 0 w (Or.inl ⟨rfl,rfl⟩) h
end
end Go.Proofs.Ytigmbblgfnkpbaa
namespace Go.Proofs.Ytigmbblgfnkpbaa
open Go Go.Proofs
set_option linter.unusedVariables false
set_option linter.unusedSimpArgs false
attribute [local irreducible] apK cpK mkK br qoe
open Classical in
noncomputable def nmOf (l:List Int):Nm:=if h:idOk l then ⟨l,h⟩ else default
theorem nmOf_ok {l:List Int} (h:idOk l):(nmOf l).1=l:=by unfold nmOf; rw [dif_pos h]
theorem nmOf_nm (a:Nm):nmOf a.1=a:=Nm.ext' (nmOf_ok a.2)
theorem idOk_cut {xs:List Int} {n:Nat} (hB:qsd xs) (h:n+20≤xs.length):idOk ((xs.drop n).take 20):=⟨by rw [List.length_take,List.length_drop]; omega,fun x hx=>hB x (List.mem_of_mem_drop (List.mem_of_mem_take hx))⟩
section
variable {F0:List Nat} {w0 w:World} {ps rest:List As} {s t te ta b:Sl} {xs Eb R:List Int} {A:List Nm} {n:Nd} {X:List Cx} {K:Ending→World→Prop} {rb xb N i a2:Nat}
 {t10:Sl} {Q:VWP} {nx1:Sl→Int→Int→Sl→Sl→Int→Sl→Int→Int→World→Prop}
theorem read_12 {rows:Int} (h:St F0 w0 w ps) [Rdb F0 w0 b ps 1 (u8s xs)] [Rdb F0 w0 ta ps 20 (A.flatMap nmC)] (hc:b.len≤b.cap) (hB:qsd xs) (hx:xs.length≤1000000) (hA:i < A.length) (hr:a2+36 * i+36≤xs.length)
 (hk:∀ rb xb w',St F0 w0 w' (qfb xb (ndC (nd0 A[i] (nmOf ((xs.drop (a2+36 * i)).take 20)))) :: brA rb ((xs.drop (a2+36 * i)).take 36,20,0) :: ps)→qp.j13 b (a2:Int) (N:Int) ta te t10 rows (some ⟨rb,0,none⟩) ⟨xb,0,none⟩ (N:Int) (i:Int) Q nx1 w') :
 qp.j12 b (a2:Int) (N:Int) ta te t10 rows (i:Int) (N:Int) (i:Int) Q nx1 w:=by
 have hbl:=(h.rdb b).1
 rw [qgb,Nat.mul_one] at hbl
 have hRe:((xs.drop (a2+36 * i)).take 36).take 20=(xs.drop (a2+36 * i)).take 20:=by rw [List.take_take]; rfl
 have hid:idOk (((xs.drop (a2+36 * i)).take 36).take 20):=by rw [hRe]; exact idOk_cut hB (by omega)
 have hRl:((xs.drop (a2+36 * i)).take 36).length=36:=by rw [List.length_take,List.length_drop]; omega
 have hRB:qsd ((xs.drop (a2+36 * i)).take 36):=fun x hx=>hB x (List.mem_of_mem_drop (List.mem_of_mem_take hx))
 rw [← hRe] at hk
 unfold qp.j12
 refine qw (e':=((36 * i:Nat):Int)) (by rw [qq (by omega) (by omega)]; omega) ?_
 refine qw (e':=((a2+36 * i:Nat):Int)) (by rw [qq (by omega) (by omega)]; omega) ?_
 refine qyj (n:=a2+36 * i) rfl (by omega) (qtd ?_)
 haveI i1:Rdb F0 w0 ⟨qvd b.a b.cap (a2+36 * i) 1,b.len - (a2+36 * i),b.cap - (a2+36 * i)⟩ ps 1 (u8s (xs.drop (a2+36 * i))):=h.cutR b (a2+36 * i) b.len (b.cap - (a2+36 * i)) (Nat.le_refl _) (by omega) hc (List.take_of_length_le (by rw [List.length_drop]; omega))
 refine qyj (n:=36) rfl (by show 36≤b.cap - _; omega) (qtd ?_)
 haveI i2:=h.cutR (xs:=xs.drop (a2+36 * i)) ⟨qvd b.a b.cap (a2+36 * i) 1,b.len - (a2+36 * i),b.cap - (a2+36 * i)⟩ 0 36 (b.cap - (a2+36 * i) - 0) (ys:=(xs.drop (a2+36 * i)).take 36) (by show 36≤b.len - _; omega) (by omega) (by show b.len - _≤b.cap - _; omega) (by rw [List.drop_zero])
 refine qqg.c (s:=⟨qvd (qvd b.a b.cap (a2+36 * i) 1) (b.cap - (a2+36 * i)) 0 1,36 - 0,b.cap - (a2+36 * i) - 0⟩) h hRB (by omega) fun rb w h=>⟨_,rfl,?_⟩
 generalize (xs.drop (a2+36 * i)).take 36=R at hk hid hRl hRB h
 refine h.drewK fun w h=>?_
 refine h.rix (s:=ta) (f:=nmC) (L:=A) i rfl hA fun a0 ha=>?_
 have hN:∀ {w':World} {Z:Array Value→Prop},Rd w' 20 ta (A.flatMap nmC)→Z ⟨nmC A[i]⟩→ldA w' (a0.add (i * 20)) 20 Z:=fun hr hz=>hr.rA ha hA hz
 have dA:(⟨nmC A[i]⟩:Array Value).size=20:=(inferInstance:Rec nmC 20).len _
 have dT:(⟨u8s (R.take 20)⟩:Array Value).size=20:=by rw [List.size_toArray,qgb,List.length_take]; omega
 have hBy:∀ {w':World} {qs:List As} {Z:Sl→World→Prop},St F0 w0 w' (brA rb (R,0,0) :: qs)→(∀ r w'',St F0 w0 w'' (rdA 1 r (u8s (R.take 20)) :: brA rb (R,20,0) :: qs)→Z r w'')→qhc 51 [.pointer (some ⟨rb,0,none⟩),.int .i64 20] w' Z:=fun h hz=>by
  refine qkc.c (rb:=rb) (n:=20) h fun r w h=>⟨r,rfl,hz r w ?_⟩
  have e:tkS R 0 0 20=(R.take 20,20,0):=tk_in (n:=20) (by omega)
  rw [e] at h
  exact h
 have hL:∀ {w':World} {r:Sl} {qs:List As} {Z:Array Value→Prop},St F0 w0 w' (rdA 1 r (u8s (R.take 20)) :: qs)→Z ⟨u8s (R.take 20)⟩→20≤r.len∧nz r.a fun a=>ldA w' a 20 Z:=fun h hz=>by
  have hr:=h.rd
  have hl:=hr.1
  rw [qgb,List.length_take,Nat.mul_one] at hl
  refine ⟨by omega,hr.ldF (by decide) (by rw [List.length_take]; omega) ?_⟩
  rw [List.take_take]
  exact hz
 have ht:∀ {w':World} {xb:Nat},St F0 w0 w' (qfb xb (ndC ndZ) :: brA rb (R,20,0) :: ps)→(⟨spl (spl (⟨ndC ndZ⟩:Array Value).toList 0 ⟨nmC A[i]⟩) 20 ⟨u8s (R.take 20)⟩⟩:Array Value).size=42∧Go.Proofs.Ytigmbblgfnkpbaa.stA w' ⟨xb,0,none⟩ ⟨spl (spl (⟨ndC ndZ⟩:Array Value).toList 0 ⟨nmC A[i]⟩) 20 ⟨u8s (R.take 20)⟩⟩ fun w=>qp.j13 b (a2:Int) (N:Int) ta te t10 rows (some ⟨rb,0,none⟩) ⟨xb,0,none⟩ (N:Int) (i:Int) Q nx1 w:=fun {w' xb} h=>by
  have e:spl (spl (⟨ndC ndZ⟩:Array Value).toList 0 ⟨nmC A[i]⟩) 20 ⟨u8s (R.take 20)⟩=ndC (nd0 A[i] (nmOf (R.take 20))):=by
   rw [← build_0,nmOf_ok hid]
   rfl
  rw [e]
  refine ⟨qz _,?_⟩
  exact h.setR (qz _) fun w h=>hk rb xb w h
 rw [qmd]
 have t1:∀ {w':World} {r:Sl},St F0 w0 w' (rdA 1 r (u8s (R.take 20)) :: brA rb (R,20,0) :: ps)→nw w' ⟨ndC ndZ⟩ 31 fun a w50=>(⟨spl (spl (⟨ndC ndZ⟩:Array Value).toList 0 ⟨nmC A[i]⟩) 20 ⟨u8s (R.take 20)⟩⟩:Array Value).size=42∧Go.Proofs.Ytigmbblgfnkpbaa.stA w50 a ⟨spl (spl (⟨ndC ndZ⟩:Array Value).toList 0 ⟨nmC A[i]⟩) 20 ⟨u8s (R.take 20)⟩⟩ fun w=>qp.j13 b (a2:Int) (N:Int) ta te t10 rows (some ⟨rb,0,none⟩) a (N:Int) (i:Int) Q nx1 w:=fun h=>h.new fun xb w h=>ht (h.tail fun _ _ _ h=>h.drop)
 refine ⟨hN (h.rdb ta) ⟨?_,?_⟩,?_,?_⟩
 · exact hBy h fun r w h=>hL h ⟨dA,dT,t1 h⟩
 · refine h.new fun xb w h=>?_
   have h:St F0 w0 w (brA rb (R,0,0) :: qfb xb (ndC ndZ) :: ps):=h.at1
   exact hBy h fun r w h=>hL h ⟨dA,dT,ht (h.drop.at1)⟩
 · refine hBy h fun r w h=>hL h ⟨hN (h.rdb ta) ⟨dA,dT,t1 h⟩,?_⟩
   refine h.new fun xb w h=>?_
   have h:St F0 w0 w (qfb xb (ndC ndZ) :: rdA 1 r (u8s (R.take 20)) :: brA rb (R,20,0) :: ps):=h
   exact hN (h.rdb ta) ⟨dA,dT,ht (h.tail fun _ _ _ h=>h.drop)⟩
 · refine h.new fun xb w h=>?_
   have h:St F0 w0 w (brA rb (R,0,0) :: qfb xb (ndC ndZ) :: ps):=h.at1
   refine ⟨hN (h.rdb ta) (hBy h fun r w h=>hL h ⟨dA,dT,ht (h.drop.at1)⟩),hBy h fun r w h=>hL h (hN (h.rdb ta) ⟨dA,dT,ht (h.drop.at1)⟩)⟩
end
end Go.Proofs.Ytigmbblgfnkpbaa
