/- Own texts as one, only what is reached (shake.py). -/
import Derived.Test.YtejnemneenjliaaGreatEnd
import Derived.Test.YtejnemneenjliaaGreatProg
namespace Go.Proofs.YtejnemneenjliaaGreat
open Go Go.Proofs
set_option linter.unusedVariables false
set_option maxRecDepth 100000
def qog (s_0:OAd) (e_1:Int) (Q:VWP) (w:World):Prop :=
 nz s_0 fun a1 =>
 ldI .i64 w (Addr.add a1 3) fun x2 =>
 br (x2 == 0) (
 nz s_0 fun a3 =>
 st w (Addr.add a3 3) (.int .i64 e_1) fun w4 =>
 Q (.tuple ⟨[]⟩) w4) (
 Q (.tuple ⟨[]⟩) w)
theorem qog.ok (s_0:OAd) (e_1:Int) (Q:VWP) (w:World) (h:qog s_0 e_1 Q w):Calls Tryz.prog 277 ⟨[.pointer s_0,.int .i64 e_1]⟩ w (Ret Q) :=
 qqc [] qbe Tryz.func277 rfl rfl rfl rfl .lf (by kernel_rfl) h
def qah (s_0:OAd) (n_1:Int) (Q:VWP) (w:World):Prop :=
 nz s_0 fun a1 =>
 ldI .i64 w (Addr.add a1 3) fun x2 =>
 br (x2 != 0) (
 Q (.int .i64 0) w) (
 nz s_0 fun a3 =>
 ldP w (Addr.add a3 0) fun x4 =>
 ct_IB 307 [.pointer x4,.int .i64 n_1] w fun r7 r8 w6 =>
 br (!r8) (
 ct_ 277 [.pointer s_0,.int .i64 3] w6 fun w10 =>
 Q (.int .i64 r7) w10) (
 Q (.int .i64 r7) w6))
theorem qah.ok (s_0:OAd) (n_1:Int) (Q:VWP) (w:World) (h:qah s_0 n_1 Q w):Calls Tryz.prog 272 ⟨[.pointer s_0,.int .i64 n_1]⟩ w (Ret Q) :=
 qqc [.tmp 4] qbe Tryz.func272 rfl rfl rfl rfl .lf (by kernel_rfl) h
def qyg (s_0 c_1:OAd) (Q:VWP) (w:World):Prop :=
 nz s_0 fun a1 =>
 ldI .i64 w (Addr.add a1 3) fun x2 =>
 br (x2 != 0) (
 Q (.int .i64 0) w) (
 nz s_0 fun a3 =>
 ldP w (Addr.add a3 0) fun x4 =>
 ct_II 334 [.pointer c_1,.pointer x4] w fun r7 r8 w6 =>
 br (r8 != 0) (
 ct_ 277 [.pointer s_0,.int .i64 r8] w6 fun w10 =>
 Q (.int .i64 r7) w10) (
 Q (.int .i64 r7) w6))
theorem qyg.ok (s_0:OAd) (c_1:OAd) (Q:VWP) (w:World) (h:qyg s_0 c_1 Q w):Calls Tryz.prog 311 ⟨[.pointer s_0,.pointer c_1]⟩ w (Ret Q) :=
 qqc [.tmp 4] qbe Tryz.func311 rfl rfl rfl rfl .lf (by kernel_rfl) h
def qzg (s_0:OAd) (b_1:Int) (Q:VWP) (w:World):Prop :=
 nz s_0 fun a1 =>
 ldI .i64 w (Addr.add a1 3) fun x2 =>
 br (x2 != 0) (
 Q (.tuple ⟨[]⟩) w) (
 lt (World.drew w) fun w3 =>
 nz s_0 fun a4 =>
 ldL w3 (Addr.add a4 1) fun x5 =>
 nz s_0 fun a6 =>
 ldI .i64 w3 (Addr.add a6 2) fun x7 =>
 br (decide ((x5.len:Int) ≥ x7)) (
 ct_ 277 [.pointer s_0,.int .i64 5] w3 fun w9 =>
 Q (.tuple ⟨[]⟩) w9) (
 nz s_0 fun a10 =>
 ldL w3 (Addr.add a10 1) fun x11 =>
 nw w3 ⟨[.int .u8 b_1]⟩ 5 fun a12 w13 =>
 rdO w13 (some a12) (1 * 1) fun c14 =>
 apK Tryz.prog 5 w13 x11.a x11.len x11.cap 1 c14 fun s15 w16 =>
 nz s_0 fun a17 =>
 st w16 (Addr.add a17 1) (sV s15) fun w18 =>
 Q (.tuple ⟨[]⟩) w18))
theorem qzg.ok (s_0:OAd) (b_1:Int) (Q:VWP) (w:World) (h:qzg s_0 b_1 Q w):Calls Tryz.prog 309 ⟨[.pointer s_0,.int .u8 b_1]⟩ w (Ret Q) :=
 qqc [] qbe Tryz.func309 rfl rfl rfl rfl .lf (by kernel_rfl) h
def qbb.b1 (s_0:OAd) (n_2:Int) (i_4:Int) (Q:VWP) (nx1:OAd→Int→Int→WP) (w:World):Prop :=
 br (decide (i_4 < n_2)) (
 qxi 272 [.pointer s_0,.int .i64 8] w fun r3 w2 =>
 lt (IntKind.u8.wrap r3) fun x4 =>
 ct_ 309 [.pointer s_0,.int .u8 x4] w2 fun w6 =>
 lt (IntKind.i64.wrap (i_4+1)) fun x7 =>
 nx1 s_0 n_2 x7 w6) (
 Q (.tuple ⟨[]⟩) w)
def qbb.l1 (s_0:OAd) (n_2:Int) (i_4:Int) (Q:VWP) (w:World):Prop :=
 ∃ (I:Int→WP) (μ:Int→World→Nat),I i_4 w∧∀ i_4:Int,∀ w:World,I i_4 w→qbb.b1 s_0 n_2 i_4 Q (fun s_0' n_2' i_4' w'=>(s_0'=s_0∧n_2'=n_2)∧I i_4' w'∧μ i_4' w' < μ i_4 w) w
def qbb.j4 (s_0:OAd) (n_2:Int) (i_4:Int) (Q:VWP) (w:World):Prop :=
 qbb.l1 s_0 n_2 i_4 Q w
def qbb.j3 (s_0:OAd) (n_2:Int) (Q:VWP) (w:World):Prop :=
 lt (World.drew w) fun w8 =>
 nz s_0 fun a9 =>
 ldI .i64 w8 (Addr.add a9 2) fun x10 =>
 nz s_0 fun a11 =>
 ldL w8 (Addr.add a11 1) fun x12 =>
 lt (IntKind.i64.wrap (x10 - (x12.len:Int))) fun x13 =>
 br (decide (n_2 > x13)) (
 ct_ 277 [.pointer s_0,.int .i64 5] w8 fun w15 =>
 Q (.tuple ⟨[]⟩) w15) (
 qbb.j4 s_0 n_2 0 Q w8)
def qbb.j2 (s_0:OAd) (n_2:Int) (m_3:Int) (Q:VWP) (w:World):Prop :=
 nz s_0 fun a16 =>
 ldI .i64 w (Addr.add a16 3) fun x17 =>
 br (x17 != 0) (
 Q (.tuple ⟨[]⟩) w) (
 lt (qyl .i64 n_2 m_3) fun x18 =>
 br (x18 != 65535) (
 ct_ 277 [.pointer s_0,.int .i64 2] w fun w20 =>
 Q (.tuple ⟨[]⟩) w20) (
 qbb.j3 s_0 n_2 Q w))
def qbb.j1 (s_0:OAd) (Q:VWP) (w:World):Prop :=
 qxi 272 [.pointer s_0,.int .i64 16] w fun r23 w22 =>
 qxi 272 [.pointer s_0,.int .i64 16] w22 fun r26 w25 =>
 qbb.j2 s_0 r23 r26 Q w25
def qbb (s_0:OAd) (Q:VWP) (w:World):Prop :=
 nz s_0 fun a27 =>
 ldP w (Addr.add a27 0) fun x28 =>
 ct_ 308 [.pointer x28] w fun w30 =>
 qbb.j1 s_0 Q w30
theorem qbb.ok (s_0:OAd) (Q:VWP) (w:World) (h:qbb s_0 Q w):Calls Tryz.prog 273 ⟨[.pointer s_0]⟩ w (Ret Q) :=
 qqc [] qbe Tryz.func273 rfl rfl rfl rfl (.sq [sP 0] (fun a w=>qbb.j1 a Q w) .lf (.pr 1 [sP 0,sI 2,sI 3] (fun a b c w=>qbb.j2 a b c Q w) (.pr 1 [sP 0,sI 2] (fun a b w=>qbb.j3 a b Q w) (.pr 1 [sP 0,sI 2,sI 4] (fun a b c w=>qbb.j4 a b c Q w) (.bk (.lo [sP 0,sI 2] [sI 4] (fun a b c w=>qbb.l1 a b c Q w) (fun nx1 a b c w=>qbb.b1 a b c Q nx1 w) fun nx1=>.lf)))))) (by kernel_rfl) h
def qb.j9 (d_0:OAd) (t4:Int) (t12:Sl) (Q:VWP) (w:World):Prop :=
 nz d_0 fun a1 =>
 ldI .i64 w (Addr.add a1 3) fun x2 =>
 br (x2 != 0) (
 Q (.tuple ⟨[.slice none 0 0,.slice none 0 0]⟩) w) (
 lt (World.drew w) fun w3 =>
 bd t4 t12.cap fun n4 =>
 lt (⟨qgf t12.a t12.cap 0 1,n4 - 0,t12.cap - 0⟩:Sl) fun s5 =>
 bd t4 t12.len fun n6 =>
 lt (⟨qgf t12.a t12.cap n6 1,t12.len - n6,t12.cap - n6⟩:Sl) fun s7 =>
 Q (.tuple ⟨[sV s5,sV s7]⟩) w3)
def qb.b2 (d_0:OAd) (t4:Int) (t5:Int) (t10:OAd) (t14 t15:Int) (t12:Sl) (t16:Int) (Q:VWP) (nx1:OAd→Int→Int→OAd→Sl→WP) (nx2:OAd→Int→Int→OAd→Int→Int→Sl→Int→WP) (w:World):Prop :=
 br (decide (t16 < t14)) (
 nw w ⟨[.int .i64 t15]⟩ 3 fun a8 w9 =>
 rdO w9 (some a8) (1 * 1) fun c10 =>
 apK Tryz.prog 3 w9 t12.a t12.len t12.cap 1 c10 fun s11 w12 =>
 lt (IntKind.i64.wrap (t16+1)) fun x13 =>
 nx2 d_0 t4 t5 t10 t14 t15 s11 x13 w12) (
 nx1 d_0 t4 t5 t10 t12 w)
def qb.l2 (d_0:OAd) (t4:Int) (t5:Int) (t10:OAd) (t14 t15:Int) (t12:Sl) (t16:Int) (Q:VWP) (nx1:OAd→Int→Int→OAd→Sl→WP) (w:World):Prop :=
 ∃ (I:Sl→Int→WP) (μ:Sl→Int→World→Nat),I t12 t16 w∧∀ t12:Sl,∀ t16:Int,∀ w:World,I t12 t16 w→qb.b2 d_0 t4 t5 t10 t14 t15 t12 t16 Q nx1 (fun d_0' t4' t5' t10' t14' t15' t12' t16' w'=>(d_0'=d_0∧t4'=t4∧t5'=t5∧t10'=t10∧t14'=t14∧t15'=t15)∧I t12' t16' w'∧μ t12' t16' w' < μ t12 t16 w) w
def qb.j14 (d_0:OAd) (t4:Int) (t5:Int) (t10:OAd) (t12:Sl) (t14:Int) (t15 t16:Int) (Q:VWP) (nx1:OAd→Int→Int→OAd→Sl→WP) (w:World):Prop :=
 qb.l2 d_0 t4 t5 t10 t14 t15 t12 t16 Q nx1 w
def qb.j13 (d_0:OAd) (t4:Int) (t5:Int) (t10:OAd) (t12:Sl) (t14:Int) (t15:Int) (Q:VWP) (nx1:OAd→Int→Int→OAd→Sl→WP) (w:World):Prop :=
 lt (IntKind.i64.wrap (t4+t5)) fun x14 =>
 lt (IntKind.i64.wrap (x14 - (t12.len:Int))) fun x15 =>
 br (decide (t14 > x15)) (
 ct_ 277 [.pointer d_0,.int .i64 2] w fun w17 =>
 Q (.tuple ⟨[.slice none 0 0,.slice none 0 0]⟩) w17) (
 qb.j14 d_0 t4 t5 t10 t12 t14 t15 0 Q nx1 w)
def qb.j12 (d_0:OAd) (t4:Int) (t5:Int) (t10:OAd) (t12:Sl) (t14:Int) (t15:Int) (Q:VWP) (nx1:OAd→Int→Int→OAd→Sl→WP) (w:World):Prop :=
 nz d_0 fun a18 =>
 ldI .i64 w (Addr.add a18 3) fun x19 =>
 br (x19 != 0) (
 Q (.tuple ⟨[.slice none 0 0,.slice none 0 0]⟩) w) (
 qb.j13 d_0 t4 t5 t10 t12 t14 t15 Q nx1 w)
def qb.j11 (d_0:OAd) (t4:Int) (t5:Int) (t10:OAd) (t12:Sl) (t13:Int) (t14:Int) (Q:VWP) (nx1:OAd→Int→Int→OAd→Sl→WP) (w:World):Prop :=
 br (t13 == 16) (
 br ((t12.len:Int) == 0) (
 ct_ 277 [.pointer d_0,.int .i64 2] w fun w21 =>
 Q (.tuple ⟨[.slice none 0 0,.slice none 0 0]⟩) w21) (
 lt (IntKind.i64.wrap ((t12.len:Int) - 1)) fun x22 =>
 ixS t12.a t12.len x22 1 fun a23 =>
 ldI .i64 w a23 fun x24 =>
 qxi 272 [.pointer d_0,.int .i64 2] w fun r27 w26 =>
 lt (IntKind.i64.wrap (3+r27)) fun x28 =>
 qb.j12 d_0 t4 t5 t10 t12 x28 x24 Q nx1 w26)) (
 br (t13 == 17) (
 qxi 272 [.pointer d_0,.int .i64 3] w fun r31 w30 =>
 lt (IntKind.i64.wrap (3+r31)) fun x32 =>
 qb.j12 d_0 t4 t5 t10 t12 x32 0 Q nx1 w30) (
 br (t13 == 18) (
 qxi 272 [.pointer d_0,.int .i64 7] w fun r35 w34 =>
 lt (IntKind.i64.wrap (11+r35)) fun x36 =>
 qb.j12 d_0 t4 t5 t10 t12 x36 0 Q nx1 w34) (
 qb.j12 d_0 t4 t5 t10 t12 t14 t13 Q nx1 w)))
def qb.j10 (d_0:OAd) (t4:Int) (t5:Int) (t10:OAd) (t12:Sl) (Q:VWP) (nx1:OAd→Int→Int→OAd→Sl→WP) (w:World):Prop :=
 qxi 311 [.pointer d_0,.pointer t10] w fun r39 w38 =>
 qb.j11 d_0 t4 t5 t10 t12 r39 1 Q nx1 w38
def qb.b1 (d_0:OAd) (t4:Int) (t5:Int) (t10:OAd) (t12:Sl) (Q:VWP) (nx1:OAd→Int→Int→OAd→Sl→WP) (w:World):Prop :=
 lt (IntKind.i64.wrap (t4+t5)) fun x40 =>
 br (decide ((t12.len:Int) < x40)) (
 nz d_0 fun a41 =>
 ldI .i64 w (Addr.add a41 3) fun x42 =>
 br (x42 == 0) (
 qb.j10 d_0 t4 t5 t10 t12 Q nx1 w) (
 qb.j9 d_0 t4 t12 Q w)) (
 qb.j9 d_0 t4 t12 Q w)
def qb.l1 (d_0:OAd) (t4:Int) (t5:Int) (t10:OAd) (t12:Sl) (Q:VWP) (w:World):Prop :=
 ∃ (I:Sl→WP) (μ:Sl→World→Nat),I t12 w∧∀ t12:Sl,∀ w:World,I t12 w→qb.b1 d_0 t4 t5 t10 t12 Q (fun d_0' t4' t5' t10' t12' w'=>(d_0'=d_0∧t4'=t4∧t5'=t5∧t10'=t10)∧I t12' w'∧μ t12' w' < μ t12 w) w
def qb.j8 (d_0:OAd) (t4:Int) (t5:Int) (t10:OAd) (t12:Sl) (Q:VWP) (w:World):Prop :=
 qb.l1 d_0 t4 t5 t10 t12 Q w
def qb.j7 (d_0:OAd) (t4:Int) (t5:Int) (t10:OAd) (t11:Int) (Q:VWP) (w:World):Prop :=
 br (t11 != 0) (
 ct_ 277 [.pointer d_0,.int .i64 2] w fun w44 =>
 Q (.tuple ⟨[.slice none 0 0,.slice none 0 0]⟩) w44) (
 qb.j8 d_0 t4 t5 t10 ⟨none,0,0⟩ Q w)
def qb.j6 (d_0:OAd) (t4:Int) (t5:Int) (t8:Sl) (Q:VWP) (w:World):Prop :=
 nz d_0 fun a45 =>
 ldI .i64 w (Addr.add a45 3) fun x46 =>
 br (x46 != 0) (
 Q (.tuple ⟨[.slice none 0 0,.slice none 0 0]⟩) w) (
 ct_PI 310 [sV t8,.bool false] w fun r49 r50 w48 =>
 qb.j7 d_0 t4 t5 r49 r50 Q w48)
def qb.b3 (d_0:OAd) (t4:Int) (t5 t6:Int) (t7:Sl) (t8:Sl) (t9:Int) (Q:VWP) (nx3:OAd→Int→Int→Int→Sl→Sl→Int→WP) (w:World):Prop :=
 br (decide (t9 < t6)) (
 nz d_0 fun a51 =>
 ldI .i64 w (Addr.add a51 3) fun x52 =>
 br (x52 == 0) (
 lt (World.drew w) fun w53 =>
 ixS t7.a t7.len t9 1 fun a54 =>
 (ldI .i64 w53 a54 fun x55 =>
 qxi 272 [.pointer d_0,.int .i64 3] w53 fun r58 w57 =>
 ixS t8.a t8.len x55 1 fun a59 =>
 st w57 a59 (.int .i64 r58) fun w60 =>
 lt (IntKind.i64.wrap (t9+1)) fun x61 =>
 nx3 d_0 t4 t5 t6 t7 t8 x61 w60)∧(
 qxi 272 [.pointer d_0,.int .i64 3] w53 fun r64 w63 =>
 ldI .i64 w63 a54 fun x65 =>
 ixS t8.a t8.len x65 1 fun a66 =>
 st w63 a66 (.int .i64 r64) fun w67 =>
 lt (IntKind.i64.wrap (t9+1)) fun x68 =>
 nx3 d_0 t4 t5 t6 t7 t8 x68 w67)) (
 qb.j6 d_0 t4 t5 t8 Q w)) (
 qb.j6 d_0 t4 t5 t8 Q w)
def qb.l3 (d_0:OAd) (t4:Int) (t5 t6:Int) (t7:Sl) (t8:Sl) (t9:Int) (Q:VWP) (w:World):Prop :=
 ∃ (I:Int→WP) (μ:Int→World→Nat),I t9 w∧∀ t9:Int,∀ w:World,I t9 w→qb.b3 d_0 t4 t5 t6 t7 t8 t9 Q (fun d_0' t4' t5' t6' t7' t8' t9' w'=>(d_0'=d_0∧t4'=t4∧t5'=t5∧t6'=t6∧t7'=t7∧t8'=t8)∧I t9' w'∧μ t9' w' < μ t9 w) w
def qb.j15 (d_0:OAd) (t4:Int) (t5 t6:Int) (t7:Sl) (t8:Sl) (t9:Int) (Q:VWP) (w:World):Prop :=
 qb.l3 d_0 t4 t5 t6 t7 t8 t9 Q w
def qb.j5 (d_0:OAd) (t4:Int) (t5 t6:Int) (t7:Sl) (t8:Sl) (Q:VWP) (w:World):Prop :=
 qb.j15 d_0 t4 t5 t6 t7 t8 0 Q w
def qb.j4 (d_0:OAd) (t4:Int) (t5 t6:Int) (Q:VWP) (w:World):Prop :=
 nw w ⟨[.int .i64 16,.int .i64 17,.int .i64 18,.int .i64 0,.int .i64 8,.int .i64 7,.int .i64 9,.int .i64 6,.int .i64 10,.int .i64 5,.int .i64 11,.int .i64 4,.int .i64 12,.int .i64 3,.int .i64 13,.int .i64 2,.int .i64 14,.int .i64 1,.int .i64 15]⟩ 3 fun a69 w70 =>
 mkK Tryz.prog 3 w70 19 19 fun s71 w72 =>
 qb.j5 d_0 t4 t5 t6 ⟨(some a69),19,19⟩ s71 Q w72
def qb.j3 (d_0:OAd) (t4:Int) (t5:Int) (Q:VWP) (w:World):Prop :=
 qxi 272 [.pointer d_0,.int .i64 4] w fun r75 w74 =>
 lt (IntKind.i64.wrap (r75+4)) fun x76 =>
 qb.j4 d_0 t4 t5 x76 Q w74
def qb.j2 (d_0:OAd) (t4:Int) (Q:VWP) (w:World):Prop :=
 qxi 272 [.pointer d_0,.int .i64 5] w fun r79 w78 =>
 lt (IntKind.i64.wrap (r79+1)) fun x80 =>
 br (decide (x80 > 30)) (
 ct_ 277 [.pointer d_0,.int .i64 2] w78 fun w82 =>
 qb.j3 d_0 t4 x80 Q w82) (
 qb.j3 d_0 t4 x80 Q w78)
def qb.j1 (d_0:OAd) (Q:VWP) (w:World):Prop :=
 qxi 272 [.pointer d_0,.int .i64 5] w fun r85 w84 =>
 lt (IntKind.i64.wrap (r85+257)) fun x86 =>
 br (decide (x86 > 286)) (
 ct_ 277 [.pointer d_0,.int .i64 2] w84 fun w88 =>
 qb.j2 d_0 x86 Q w88) (
 qb.j2 d_0 x86 Q w84)
def qb (d_0:OAd) (Q:VWP) (w:World):Prop :=
 qb.j1 d_0 Q w
theorem qb.ok (d_0:OAd) (Q:VWP) (w:World) (h:qb d_0 Q w):Calls Tryz.prog 276 ⟨[.pointer d_0]⟩ w (Ret Q) :=
 qqc [.tmp 2,.tmp 3] qbe Tryz.func276 rfl rfl rfl rfl (.sq [sP 0] (fun a w=>qb.j1 a Q w) .lf (.pr 1 [sP 0,sI 4] (fun a b w=>qb.j2 a b Q w) (.pr 1 [sP 0,sI 4,sI 5] (fun a b c w=>qb.j3 a b c Q w) (.sq [sP 0,sI 4,sI 5,sI 6] (fun a b c d w=>qb.j4 a b c d Q w) .lf (.pr 1 [sP 0,sI 4,sI 5,sI 6,sL 7,sL 8] (fun a b c d e f w=>qb.j5 a b c d e f Q w) (.sq [sP 0,sI 4,sI 5,sL 8] (fun a b c d w=>qb.j6 a b c d Q w) (.sq [sP 0,sI 4,sI 5,sI 6,sL 7,sL 8,sI 9] (fun a b c d e f g w=>qb.j15 a b c d e f g Q w) .lf (.bk (.lo [sP 0,sI 4,sI 5,sI 6,sL 7,sL 8] [sI 9] (fun a b c d e f g w=>qb.l3 a b c d e f g Q w) (fun nx3 a b c d e f g w=>qb.b3 a b c d e f g Q nx3 w) fun nx3=>.lf))) (.pr 1 [sP 0,sI 4,sI 5,sP 10,sI 11] (fun a b c d e w=>qb.j7 a b c d e Q w) (.pr 1 [sP 0,sI 4,sI 5,sP 10,sL 12] (fun a b c d e w=>qb.j8 a b c d e Q w) (.sq [sP 0,sI 4,sL 12] (fun a b c w=>qb.j9 a b c Q w) (.bk (.lo [sP 0,sI 4,sI 5,sP 10] [sL 12] (fun a b c d e w=>qb.l1 a b c d e Q w) (fun nx1 a b c d e w=>qb.b1 a b c d e Q nx1 w) fun nx1=>(.sq [sP 0,sI 4,sI 5,sP 10,sL 12] (fun a b c d e w=>qb.j10 a b c d e Q nx1 w) .lf (.bk (.pr 1 [sP 0,sI 4,sI 5,sP 10,sL 12,sI 13,sI 14] (fun a b c d e f g w=>qb.j11 a b c d e f g Q nx1 w) (.pr 1 [sP 0,sI 4,sI 5,sP 10,sL 12,sI 14,sI 15] (fun a b c d e f g w=>qb.j12 a b c d e f g Q nx1 w) (.sq [sP 0,sI 4,sI 5,sP 10,sL 12,sI 14,sI 15] (fun a b c d e f g w=>qb.j13 a b c d e f g Q nx1 w) .lf (.pr 1 [sP 0,sI 4,sI 5,sP 10,sL 12,sI 14,sI 15,sI 16] (fun a b c d e f g h w=>qb.j14 a b c d e f g h Q nx1 w) (.bk (.lo [sP 0,sI 4,sI 5,sP 10,sI 14,sI 15] [sL 12,sI 16] (fun a b c d e f g h w=>qb.l2 a b c d e f g h Q nx1 w) (fun nx2 a b c d e f g h w=>qb.b2 a b c d e f g h Q nx1 nx2 w) fun nx2=>.lf)))))))))) .lf))))))))) (by kernel_rfl) h
def qf.b2 (d_0 t6 t8:OAd) (t11:Int) (t14 t17:Int) (Q:VWP) (nx1:OAd→OAd→OAd→WP) (nx2:OAd→OAd→OAd→Int→Int→Int→WP) (w:World):Prop :=
 br (decide (t17 < t11)) (
 nz d_0 fun a1 =>
 ldI .i64 w (Addr.add a1 3) fun x2 =>
 br (x2 == 0) (
 lt (World.drew w) fun w3 =>
 nz d_0 fun a4 =>
 ldL w3 (Addr.add a4 1) fun x5 =>
 nz d_0 fun a6 =>
 ldL w3 (Addr.add a6 1) fun x7 =>
 lt (IntKind.i64.wrap ((x7.len:Int) - t14)) fun x8 =>
 ixS x5.a x5.len x8 1 fun a9 =>
 ldI .u8 w3 a9 fun x10 =>
 ct_ 309 [.pointer d_0,.int .u8 x10] w3 fun w12 =>
 lt (IntKind.i64.wrap (t17+1)) fun x13 =>
 nx2 d_0 t6 t8 t11 t14 x13 w12) (
 nx1 d_0 t6 t8 w)) (
 nx1 d_0 t6 t8 w)
def qf.l2 (d_0 t6 t8:OAd) (t11:Int) (t14 t17:Int) (Q:VWP) (nx1:OAd→OAd→OAd→WP) (w:World):Prop :=
 ∃ (I:Int→WP) (μ:Int→World→Nat),I t17 w∧∀ t17:Int,∀ w:World,I t17 w→qf.b2 d_0 t6 t8 t11 t14 t17 Q nx1 (fun d_0' t6' t8' t11' t14' t17' w'=>(d_0'=d_0∧t6'=t6∧t8'=t8∧t11'=t11∧t14'=t14)∧I t17' w'∧μ t17' w' < μ t17 w) w
def qf.j12 (d_0 t6 t8:OAd) (t11:Int) (t14 t17:Int) (Q:VWP) (nx1:OAd→OAd→OAd→WP) (w:World):Prop :=
 qf.l2 d_0 t6 t8 t11 t14 t17 Q nx1 w
def qf.j11 (d_0 t6 t8:OAd) (t11:Int) (t14:Int) (Q:VWP) (nx1:OAd→OAd→OAd→WP) (w:World):Prop :=
 qf.j12 d_0 t6 t8 t11 t14 0 Q nx1 w
def qf.j10 (d_0 t6 t8:OAd) (t11:Int) (t14 t15:Int) (Q:VWP) (nx1:OAd→OAd→OAd→WP) (w:World):Prop :=
 qxi 272 [.pointer d_0,.int .i64 t15] w fun r16 w15 =>
 lt (IntKind.i64.wrap (t14+r16)) fun x17 =>
 nz d_0 fun a18 =>
 ldI .i64 w15 (Addr.add a18 3) fun x19 =>
 br (x19 == 0) (
 nz d_0 fun a20 =>
 ldL w15 (Addr.add a20 1) fun x21 =>
 br (decide (x17 > (x21.len:Int))) (
 ct_ 277 [.pointer d_0,.int .i64 2] w15 fun w23 =>
 qf.j11 d_0 t6 t8 t11 x17 Q nx1 w23) (
 qf.j11 d_0 t6 t8 t11 x17 Q nx1 w15)) (
 qf.j11 d_0 t6 t8 t11 x17 Q nx1 w15)
def qf.j9 (d_0 t6 t8:OAd) (t11:Int) (t14 t15:Int) (Q:VWP) (nx1:OAd→OAd→OAd→WP) (w:World):Prop :=
 nz d_0 fun a24 =>
 ldI .i64 w (Addr.add a24 3) fun x25 =>
 br (x25 != 0) (
 Q (.tuple ⟨[]⟩) w) (
 qf.j10 d_0 t6 t8 t11 t14 t15 Q nx1 w)
def qf.j8 (d_0 t6 t8:OAd) (t11:Int) (Q:VWP) (nx1:OAd→OAd→OAd→WP) (w:World):Prop :=
 qxi 311 [.pointer d_0,.pointer t8] w fun r28 w27 =>
 qmt 313 [.int .i64 r28] w27 fun r31 r32 r33 w30 =>
 nz d_0 fun a34 =>
 ldI .i64 w30 (Addr.add a34 3) fun x35 =>
 br (x35 == 0) (
 br (!r33) (
 ct_ 277 [.pointer d_0,.int .i64 2] w30 fun w37 =>
 qf.j9 d_0 t6 t8 t11 r31 r32 Q nx1 w37) (
 qf.j9 d_0 t6 t8 t11 r31 r32 Q nx1 w30)) (
 qf.j9 d_0 t6 t8 t11 r31 r32 Q nx1 w30)
def qf.j7 (d_0 t6 t8:OAd) (t11:Int) (t12:Int) (t13:Bool) (Q:VWP) (nx1:OAd→OAd→OAd→WP) (w:World):Prop :=
 br (!t13) (
 ct_ 277 [.pointer d_0,.int .i64 2] w fun w39 =>
 Q (.tuple ⟨[]⟩) w39) (
 qxi 272 [.pointer d_0,.int .i64 t12] w fun r42 w41 =>
 lt (IntKind.i64.wrap (t11+r42)) fun x43 =>
 qf.j8 d_0 t6 t8 x43 Q nx1 w41)
def qf.j6 (d_0 t6 t8:OAd) (t10:Int) (Q:VWP) (nx1:OAd→OAd→OAd→WP) (w:World):Prop :=
 br (decide (t10 < 256)) (
 lt (IntKind.u8.wrap t10) fun x44 =>
 ct_ 309 [.pointer d_0,.int .u8 x44] w fun w46 =>
 nx1 d_0 t6 t8 w46) (
 qmt 312 [.int .i64 t10] w fun r49 r50 r51 w48 =>
 qf.j7 d_0 t6 t8 r49 r50 r51 Q nx1 w48)
def qf.j5 (d_0 t6 t8:OAd) (t10:Int) (Q:VWP) (nx1:OAd→OAd→OAd→WP) (w:World):Prop :=
 nz d_0 fun a52 =>
 ldI .i64 w (Addr.add a52 3) fun x53 =>
 br (x53 != 0) (
 Q (.tuple ⟨[]⟩) w) (
 br (t10 == 256) (
 Q (.tuple ⟨[]⟩) w) (
 qf.j6 d_0 t6 t8 t10 Q nx1 w))
def qf.j4 (d_0 t6 t8:OAd) (Q:VWP) (nx1:OAd→OAd→OAd→WP) (w:World):Prop :=
 qxi 311 [.pointer d_0,.pointer t6] w fun r56 w55 =>
 qf.j5 d_0 t6 t8 r56 Q nx1 w55
def qf.b1 (d_0 t6 t8:OAd) (Q:VWP) (nx1:OAd→OAd→OAd→WP) (w:World):Prop :=
 nz d_0 fun a57 =>
 ldI .i64 w (Addr.add a57 3) fun x58 =>
 br (x58 == 0) (
 qf.j4 d_0 t6 t8 Q nx1 w) (
 Q (.tuple ⟨[]⟩) w)
def qf.l1 (d_0 t6 t8:OAd) (Q:VWP) (w:World):Prop :=
 ∃ (I:WP) (μ:World→Nat),I  w∧∀ w:World,I  w→qf.b1 d_0 t6 t8 Q (fun d_0' t6' t8' w'=>(d_0'=d_0∧t6'=t6∧t8'=t8)∧I  w'∧μ  w' < μ  w) w
def qf.j3 (d_0 t6 t8:OAd) (Q:VWP) (w:World):Prop :=
 qf.l1 d_0 t6 t8 Q w
def qf.j2 (d_0:OAd) (t2:Sl) (t6:OAd) (t7:Int) (Q:VWP) (w:World):Prop :=
 ct_PI 310 [sV t2,.bool true] w fun r61 r62 w60 =>
 br (t7 != 0) (
 ct_ 277 [.pointer d_0,.int .i64 2] w60 fun w64 =>
 Q (.tuple ⟨[]⟩) w64) (
 br (r62 != 0) (
 ct_ 277 [.pointer d_0,.int .i64 2] w60 fun w66 =>
 Q (.tuple ⟨[]⟩) w66) (
 qf.j3 d_0 t6 r61 Q w60))
def qf.j1 (d_0:OAd) (i_1:Sl) (t2:Sl) (Q:VWP) (w:World):Prop :=
 ixS i_1.a i_1.len 256 1 fun a67 =>
 ldI .i64 w a67 fun x68 =>
 br (x68 == 0) (
 ct_ 277 [.pointer d_0,.int .i64 2] w fun w70 =>
 Q (.tuple ⟨[]⟩) w70) (
 ct_PI 310 [sV i_1,.bool true] w fun r73 r74 w72 =>
 qf.j2 d_0 t2 r73 r74 Q w72)
def qf (d_0:OAd) (i_1:Sl) (t2:Sl) (Q:VWP) (w:World):Prop :=
 nz d_0 fun a75 =>
 ldI .i64 w (Addr.add a75 3) fun x76 =>
 br (x76 != 0) (
 Q (.tuple ⟨[]⟩) w) (
 qf.j1 d_0 i_1 t2 Q w)
theorem qf.ok (d_0:OAd) (i_1:Sl) (t2:Sl) (Q:VWP) (w:World) (h:qf d_0 i_1 t2 Q w):Calls Tryz.prog 275 ⟨[.pointer d_0,sV i_1,sV t2]⟩ w (Ret Q) :=
 qqc [] qbe Tryz.func275 rfl rfl rfl rfl (.sq [sP 0,sL 1,sL 2] (fun a b c w=>qf.j1 a b c Q w) .lf (.pr 1 [sP 0,sL 2,sP 6,sI 7] (fun a b c d w=>qf.j2 a b c d Q w) (.pr 1 [sP 0,sP 6,sP 8] (fun a b c w=>qf.j3 a b c Q w) (.bk (.lo [sP 0,sP 6,sP 8] [] (fun a b c w=>qf.l1 a b c Q w) (fun nx1 a b c w=>qf.b1 a b c Q nx1 w) fun nx1=>(.sq [sP 0,sP 6,sP 8] (fun a b c w=>qf.j4 a b c Q nx1 w) .lf (.bk (.sq [sP 0,sP 6,sP 8,sI 10] (fun a b c d w=>qf.j5 a b c d Q nx1 w) .lf (.pr 1 [sP 0,sP 6,sP 8,sI 10] (fun a b c d w=>qf.j6 a b c d Q nx1 w) (.pr 1 [sP 0,sP 6,sP 8,sI 11,sI 12,sB 13] (fun a b c d e f w=>qf.j7 a b c d e f Q nx1 w) (.pr 1 [sP 0,sP 6,sP 8,sI 11] (fun a b c d w=>qf.j8 a b c d Q nx1 w) (.pr 1 [sP 0,sP 6,sP 8,sI 11,sI 14,sI 15] (fun a b c d e f w=>qf.j9 a b c d e f Q nx1 w) (.sq [sP 0,sP 6,sP 8,sI 11,sI 14,sI 15] (fun a b c d e f w=>qf.j10 a b c d e f Q nx1 w) .lf (.pr 1 [sP 0,sP 6,sP 8,sI 11,sI 14] (fun a b c d e w=>qf.j11 a b c d e Q nx1 w) (.sq [sP 0,sP 6,sP 8,sI 11,sI 14,sI 17] (fun a b c d e f w=>qf.j12 a b c d e f Q nx1 w) .lf (.bk (.lo [sP 0,sP 6,sP 8,sI 11,sI 14] [sI 17] (fun a b c d e f w=>qf.l2 a b c d e f Q nx1 w) (fun nx2 a b c d e f w=>qf.b2 a b c d e f Q nx1 nx2 w) fun nx2=>.lf))))))))))))))))) (by kernel_rfl) h
def qsb.j3 (s_0:OAd) (last_3:Bool) (Q:VWP) (w:World):Prop :=
 br last_3 (
 nz s_0 fun a1 =>
 ldI .i64 w (Addr.add a1 3) fun x2 =>
 Q (.bool (x2 == 0)) w) (
 Q (.bool false) w)
def qsb.j2 (s_0:OAd) (last_3:Bool) (k_4:Int) (Q:VWP) (w:World):Prop :=
 nz s_0 fun a3 =>
 ldI .i64 w (Addr.add a3 3) fun x4 =>
 br (x4 != 0) (
 Q (.bool false) w) (
 br (k_4 == 0) (
 ct_ 273 [.pointer s_0] w fun w6 =>
 qsb.j3 s_0 last_3 Q w6) (
 br (k_4 == 1) (
 ct_LL 274 [] w fun r9 r10 w8 =>
 ct_ 275 [.pointer s_0,sV r9,sV r10] w8 fun w12 =>
 qsb.j3 s_0 last_3 Q w12) (
 br (k_4 == 2) (
 ct_LL 276 [.pointer s_0] w fun r15 r16 w14 =>
 ct_ 275 [.pointer s_0,sV r15,sV r16] w14 fun w18 =>
 qsb.j3 s_0 last_3 Q w18) (
 ct_ 277 [.pointer s_0,.int .i64 2] w fun w20 =>
 qsb.j3 s_0 last_3 Q w20))))
def qsb.j1 (s_0:OAd) (Q:VWP) (w:World):Prop :=
 qxi 272 [.pointer s_0,.int .i64 1] w fun r23 w22 =>
 qxi 272 [.pointer s_0,.int .i64 2] w22 fun r26 w25 =>
 qsb.j2 s_0 (r23 == 1) r26 Q w25
def qsb (s_0:OAd) (Q:VWP) (w:World):Prop :=
 qsb.j1 s_0 Q w
theorem qsb.ok (s_0:OAd) (Q:VWP) (w:World) (h:qsb s_0 Q w):Calls Tryz.prog 234 ⟨[.pointer s_0]⟩ w (Ret Q) :=
 qqc [.tmp 2] qbe Tryz.func234 rfl rfl rfl rfl (.sq [sP 0] (fun a w=>qsb.j1 a Q w) .lf (.pr 1 [sP 0,sB 3,sI 4] (fun a b c w=>qsb.j2 a b c Q w) (.pr 1 [sP 0,sB 3] (fun a b w=>qsb.j3 a b Q w) .lf))) (by kernel_rfl) h
def qob.j3 (s_7:OAd) (Q:VWP) (w:World):Prop :=
 lt (World.drew w) fun w1 =>
 nz s_7 fun a2 =>
 nz s_7 fun a3 =>
 ldP w1 (Addr.add a3 0) fun x4 =>
 (ldL w1 (Addr.add a2 1) fun x5 =>
 qxi 235 [.pointer x4] w1 fun r8 w7 =>
 Q (.tuple ⟨[sV x5,.int .i64 r8,.int .i64 0]⟩) w7)∧(
 qxi 235 [.pointer x4] w1 fun r11 w10 =>
 ldL w10 (Addr.add a2 1) fun x12 =>
 Q (.tuple ⟨[sV x12,.int .i64 r11,.int .i64 0]⟩) w10)
def qob.b1 (s_7:OAd) (Q:VWP) (nx1:OAd→WP) (w:World):Prop :=
 cr_B 234 [.pointer s_7] w fun r15 w14 =>
 br (!r15) (
 nz s_7 fun a16 =>
 ldI .i64 w14 (Addr.add a16 3) fun x17 =>
 br (x17 != 0) (
 lt (World.drew w14) fun w18 =>
 nz s_7 fun a19 =>
 ldI .i64 w18 (Addr.add a19 3) fun x20 =>
 Q (.tuple ⟨[.slice none 0 0,.int .i64 0,.int .i64 x20]⟩) w18) (
 nx1 s_7 w14)) (
 qob.j3 s_7 Q w14)
def qob.l1 (s_7:OAd) (Q:VWP) (w:World):Prop :=
 ∃ (I:WP) (μ:World→Nat),I  w∧∀ w:World,I  w→qob.b1 s_7 Q (fun s_7' w'=>(s_7'=s_7)∧I  w'∧μ  w' < μ  w) w
def qob.j2 (s_7:OAd) (Q:VWP) (w:World):Prop :=
 qob.l1 s_7 Q w
def qob.j1 (b_0:Sl) (most_1:Int) (Q:VWP) (w:World):Prop :=
 br (decide (most_1 < 0)) (
 Q (.tuple ⟨[.slice none 0 0,.int .i64 0,.int .i64 1]⟩) w) (
 br (decide (most_1 > 262144)) (
 Q (.tuple ⟨[.slice none 0 0,.int .i64 0,.int .i64 1]⟩) w) (
 nw w (⟨[sV b_0,.int .i64 0]⟩:Array Value) 333 fun a21 w22 =>
 nw w22 (⟨[.pointer (some a21),.slice none 0 0,.int .i64 most_1,.int .i64 0]⟩:Array Value) 335 fun a23 w24 =>
 qob.j2 (some a23) Q w24))
def qob (b_0:Sl) (most_1:Int) (Q:VWP) (w:World):Prop :=
 qob.j1 b_0 most_1 Q w
theorem qob.ok (b_0:Sl) (most_1:Int) (Q:VWP) (w:World) (h:qob b_0 most_1 Q w):Calls Tryz.prog 181 ⟨[sV b_0,.int .i64 most_1]⟩ w (Ret Q) :=
 qqc [.tmp 4,.tmp 5,.tmp 6] qbe Tryz.func181 rfl rfl rfl rfl (.sq [sL 0,sI 1] (fun a b w=>qob.j1 a b Q w) .lf (.pr 1 [sP 7] (fun a w=>qob.j2 a Q w) (.sq [sP 7] (fun a w=>qob.j3 a Q w) (.bk (.lo [sP 7] [] (fun a w=>qob.l1 a Q w) (fun nx1 a w=>qob.b1 a Q nx1 w) fun nx1=>.lf)) .lf))) (by kernel_rfl) h
end Go.Proofs.YtejnemneenjliaaGreat
namespace Go.Proofs.YtejnemneenjliaaGreat
open Go Go.Proofs
set_option linter.unusedVariables false
set_option linter.unusedSimpArgs false
attribute [local irreducible] apK cpK mkK br
def dtA (sb rb:Nat) (q:Sl) (most:Int) (z:Z):As:=exA fun o:Sl=>andA (qzc sb [.pointer (some ⟨rb,0,none⟩),.slice o.a o.len o.cap,.int .i64 most,.int .i64 z.2.2]) (andA (bitR rb (q,z.1)) (qcc 1 o (u8s z.2.1)))
section
variable {F0:List Nat} {w0 w:World} {ps rest rest2:List As} {sb rb V N:Nat} {q:Sl} {most:Int} {z:Z}
theorem qqs (h:St F0 w0 w (dtA sb rb q most z :: ps)):∃ o:Sl,St F0 w0 w (qzc sb [.pointer (some ⟨rb,0,none⟩),.slice o.a o.len o.cap,.int .i64 most,.int .i64 z.2.2] :: bitR rb (q,z.1) :: qcc 1 o (u8s z.2.1) :: ps):=by
 unfold dtA at h
 obtain ⟨o,h⟩:=h.exE
 exact ⟨o,h.split.tail fun _ _ _ h=>h.split⟩
theorem dt_c {o:Sl} {p:Nat} {out:List Int} {err:Int} (h:St F0 w0 w (qzc sb [.pointer (some ⟨rb,0,none⟩),.slice o.a o.len o.cap,.int .i64 most,.int .i64 err] :: bitR rb (q,p) :: qcc 1 o (u8s out) :: ps)):St F0 w0 w (dtA sb rb q most (p,out,err) :: ps):=by
 unfold dtA
 exact St.exI o (St.join (h.tail fun _ _ _ h=>h.join))
theorem qaf.c {e:Int} {K:Ending→World→Prop} (h:St F0 w0 w (dtA sb rb q most z :: ps))
 (hk:∀ w',St F0 w0 w' (dtA sb rb q most (qkd e z) :: ps)→K (.returned (.tuple ⟨[]⟩)) w'):Calls Tryz.prog 277 ⟨[.pointer (some ⟨sb,0,none⟩),.int .i64 e]⟩ w K:=by
 obtain ⟨p,out,err⟩:=z
 refine qfc (qog.ok _ _ _ _ ?_)
 unfold qog
 unfold qkd at hk
 obtain ⟨o,h⟩:=qqs h
 simp only at h hk
 refine qtd (h.fI ?_)
 refine qne (fun g=>?_) (fun g=>?_)
 · rw [if_pos (by simpa using g)] at hk
   refine qtd (h.fst trivial fun w h=>?_)
   exact hk w (dt_c h)
 · rw [if_neg (by simpa using g)] at hk
   exact hk w (dt_c h)
theorem qch.c {n:Int} {K:Ending→World→Prop} (h:St F0 w0 w (dtA sb rb q most z :: ps)) [Rdb F0 w0 q ps 1 (u8s (byt V N))] (hN:N≤137438953472) (hp:z.1≤8 * N)
 (hk:∀ w',(qse (qi V (8 * N)) n z).2.1≤8 * N→St F0 w0 w' (dtA sb rb q most (qse (qi V (8 * N)) n z).2 :: ps)→K (.returned (.int .i64 (qse (qi V (8 * N)) n z).1)) w'):Calls Tryz.prog 272 ⟨[.pointer (some ⟨sb,0,none⟩),.int .i64 n]⟩ w K:=by
 have hf:=(qbo (B:=qi V (8 * N)) n (z:=z) (by rw [qk]; exact hp)).2
 rw [qk] at hf
 have hk:=fun w'=>hk w' hf
 clear hf
 obtain ⟨p,out,err⟩:=z
 simp only at hp
 refine qfc (qah.ok _ _ _ _ ?_)
 unfold qah
 unfold qse at hk
 have h0:=h
 obtain ⟨o,h⟩:=qqs h
 simp only at h hk
 refine qtd (h.fI ?_)
 refine qne (fun g=>?_) (fun g=>?_)
 · rw [if_pos (by simpa using g)] at hk
   exact hk w h0
 · have g:err=0:=by simpa using g
   subst g
   rw [if_neg (by simp),qk] at hk
   refine qtd (h.fP ?_)
   have h:St F0 w0 w (rfA rb q p :: qzc sb [.pointer (some ⟨rb,0,none⟩),.slice o.a o.len o.cap,.int .i64 most,.int .i64 0] :: qcc 1 o (u8s out) :: ps):=h.at1
   refine qw.c (V:=V) (N:=N) (at':=p) (s:=q) h (fun w h=>h.rdb q) hN (by omega) (fun g w h=>⟨_,_,rfl,?_⟩) (fun g w h=>⟨_,_,rfl,?_⟩)
   · have g:=of_decide_eq_true g
     rw [if_pos ⟨g.1,g.2.1,by omega⟩] at hk
     simp only at hk
     rw [zget_val (by omega)] at hk
     refine qsj ?_
     exact hk w (dt_c (q:=q) (p:=p+n.toNat) h.at1)
   · have g:=of_decide_eq_false g
     rw [if_neg (fun e=>g ⟨e.1,e.2.1,by have:=e.2.2; omega⟩)] at hk
     refine qym ?_
     have h:=dt_c (q:=q) (p:=p) (out:=out) (err:=0) h.at1
     refine qaf.c h fun w h=>⟨rfl,?_⟩
     exact hk w h
theorem ref7_put.c {b:Int} {K:Ending→World→Prop} (h:St F0 w0 w (dtA sb rb q most z :: ps)) (hL:z.2.1.length≤1000000000)
 (hk:∀ w',St F0 w0 w' (dtA sb rb q most (qqn most b z) :: ps)→K (.returned (.tuple ⟨[]⟩)) w'):Calls Tryz.prog 309 ⟨[.pointer (some ⟨sb,0,none⟩),.int .u8 b]⟩ w K:=by
 obtain ⟨p,out,err⟩:=z
 simp only at hL
 refine qfc (qzg.ok _ _ _ _ ?_)
 unfold qzg
 unfold qqn at hk
 have h0:=h
 obtain ⟨o,h⟩:=qqs h
 simp only at h hk
 have hol:=h.at2.len
 rw [ql] at hol
 refine qtd (h.fI ?_)
 refine qne (fun g=>?_) (fun g=>?_)
 · rw [if_pos (by simpa using g)] at hk
   exact hk w h0
 have g:err=0:=by simpa using g
 subst g
 rw [if_neg (by simp)] at hk
 refine h.drewK fun w h=>?_
 refine qtd (h.fL (qtd (h.fI ?_)))
 refine qnc (fun g2=>?_) (fun g2=>?_)
 · have g2:((o.len:Nat):Int) ≥ most:=g2
   rw [if_pos (by omega)] at hk
   exact qaf.c (dt_c h) fun w h=>⟨rfl,hk w h⟩
 · have g2:¬ ((o.len:Nat):Int) ≥ most:=g2
   rw [if_neg (by omega)] at hk
   refine qtd (h.fL ?_)
   refine h.pushI (s:=o) (by omega) fun o2 w h=>?_
   refine qtd (h.fst trivial fun w h=>?_)
   exact hk w (dt_c (o:=o2) h.sub)
theorem ref7_sym.c {cb:Nat} {ls:List Int} {K:Ending→World→Prop} (h:St F0 w0 w (dtA sb rb q most z :: ps)) [Rdb F0 w0 q ps 1 (u8s (byt V N))] [PkF hrA cb ps ls rest] [Rdb F0 w0 q rest 1 (u8s (byt V N))] (hN:N≤137438953472) (hp:z.1≤8 * N)
 (hk:∀ w',(quj ls (qi V (8 * N)) z).2.1≤8 * N→St F0 w0 w' (dtA sb rb q most (quj ls (qi V (8 * N)) z).2 :: ps)→K (.returned (.int .i64 (quj ls (qi V (8 * N)) z).1)) w') :
 Calls Tryz.prog 311 ⟨[.pointer (some ⟨sb,0,none⟩),.pointer (some ⟨cb,0,none⟩)]⟩ w K:=by
 obtain ⟨p,out,err⟩:=z
 simp only at hp
 refine qfc (qyg.ok _ _ _ _ ?_)
 unfold qyg
 unfold quj at hk
 have h0:=h
 obtain ⟨o,h⟩:=qqs h
 simp only at h hk
 refine qtd (h.fI ?_)
 refine qne (fun g=>?_) (fun g=>?_)
 · rw [if_pos (by simpa using g)] at hk
   exact hk w hp h0
 have g:err=0:=by simpa using g
 subst g
 rw [if_neg (by simp)] at hk
 refine qtd (h.fP ?_)
 refine qj.c (ls:=ls) (cb:=cb) (rb:=rb) (V:=V) (N:=N) (p:=p) (s:=q) h.at1 hN hp fun w hle h=>⟨_,_,rfl,?_⟩
 refine qne (fun g=>?_) (fun g=>?_)
 · refine qaf.c (dt_c h.at1) fun w h=>⟨rfl,?_⟩
   refine hk w hle ?_
   unfold qkd at h
   simp only at h
   rw [if_pos trivial] at h
   exact h
 · refine hk w hle ?_
   have g:(hnext ls (qi V (8 * N)) p).2.1=0:=by simpa using g
   rw [g]
   exact dt_c h.at1
theorem ref7_stored.c {K:Ending→World→Prop} (h:St F0 w0 w (dtA sb rb q most z :: ps)) [Rdb F0 w0 q ps 1 (u8s (byt V N))] (hN:N≤137438953472) (hp:z.1≤8 * N) (hm:most≤1000000) (hm0:0≤most) (hL:z.2.1.length≤1000000)
 (hk:∀ w',St F0 w0 w' (dtA sb rb q most (zstored (qi V (8 * N)) most z) :: ps)→K (.returned (.tuple ⟨[]⟩)) w') :
 Calls Tryz.prog 273 ⟨[.pointer (some ⟨sb,0,none⟩)]⟩ w K:=by
 refine qfc (qbb.ok _ _ _ ?_)
 unfold qbb
 unfold zstored at hk
 simp only at hk
 obtain ⟨o,h⟩:=qqs h
 refine qtd (h.fP ?_)
 have h:St F0 w0 w (rfA rb q z.1 :: qzc sb [.pointer (some ⟨rb,0,none⟩),.slice o.a o.len o.cap,.int .i64 most,.int .i64 z.2.2] :: qcc 1 o (u8s z.2.1) :: ps):=h.at1
 refine qke.c h (by omega) fun w h=>⟨rfl,?_⟩
 have h:=dt_c (q:=q) (p:=8 * ((z.1+7) / 8)) (out:=z.2.1) h.at1
 have hz0:(8 * ((z.1+7) / 8),z.2.1,z.2.2).1≤8 * N:=by simp only; omega
 have hz0L:((8 * ((z.1+7) / 8),z.2.1,z.2.2):Z).2.1.length≤1000000:=hL
 generalize ((8 * ((z.1+7) / 8),z.2.1,z.2.2):Z)=z0 at h hk hz0 hz0L
 unfold qbb.j1
 refine qch.c h hN hz0 fun w hg h=>⟨_,rfl,?_⟩
 have gl:=qkj (B:=qi V (8 * N)) (z:=z0) 16
 have go:=qmd (B:=qi V (8 * N)) (z:=z0) 16
 generalize qse (qi V (8 * N)) 16 z0=g at h hk hg gl go ⊢
 refine qch.c h hN hg fun w hg2 h=>⟨_,rfl,?_⟩
 have go2:=qmd (B:=qi V (8 * N)) (z:=g.2) 16
 generalize qse (qi V (8 * N)) 16 g.2=g2 at h hk hg2 go2 ⊢
 have hgL:g2.2.2.1.length≤1000000:=by rw [go2,go]; exact hz0L
 unfold qbb.j2
 have h0:=h
 obtain ⟨o,h⟩:=qqs h
 refine qtd (h.fI ?_)
 refine qne (fun g3=>?_) (fun g3=>?_)
 · have g3:g2.2.2.2 ≠ 0:=by simpa using g3
   rw [if_pos g3] at hk
   exact hk w h0
 have g3:g2.2.2.2=0:=by simpa using g3
 rw [if_neg (by simpa using g3)] at hk
 refine que ?_
 refine qne (fun g4=>?_) (fun g4=>?_)
 · rw [if_pos (by simpa using g4)] at hk
   exact qaf.c h0 fun w h=>⟨rfl,hk w h⟩
 rw [if_neg (by simpa using g4)] at hk
 have hol:=h.at2.len
 rw [ql] at hol
 have pl:(2:Int) ^ (16:Int).toNat=65536:=by decide
 rw [pl] at gl
 unfold qbb.j3
 refine h.drewK fun w h=>?_
 have h0:=dt_c (q:=q) (p:=g2.2.1) h
 refine qtd (h.fI (qtd (h.fL ?_)))
 refine qn (qd (by simp only; omega) (by simp only; omega)) ?_
 refine qnc (fun g5=>?_) (fun g5=>?_)
 · have g5:g.1 > most - ((o.len:Nat):Int):=g5
   rw [if_pos (by omega)] at hk
   exact qaf.c h0 fun w h=>⟨rfl,hk w h⟩
 have g5:¬ g.1 > most - ((o.len:Nat):Int):=g5
 rw [if_neg (by omega)] at hk
 have h0:St F0 w0 w (dtA sb rb q most g2.2 :: ps):=h0
 clear h hol g4 g5
 obtain ⟨n,hn⟩:∃ k:Nat,g.1=k:=⟨g.1.toNat,by omega⟩
 rw [hn] at hk gl ⊢
 rw [Int.toNat_natCast] at hk
 generalize g2.2=z2 at hk h0 hg2 hgL
 unfold qbb.j4
 refine qmg (fun (a:Nat × Z) (i':Int) w'=>i'=a.1∧a.1≤n∧a.2.1≤8 * N∧a.2.2.1.length≤1000000∧zst (qi V (8 * N)) most (n - a.1) a.2=zst (qi V (8 * N)) most n z2∧St F0 w0 w' (dtA sb rb q most a.2 :: ps)) (fun a=>n - a.1) (0,z2) ⟨rfl,by simp,hg2,hgL,rfl,h0⟩ ?_
 clear h0 hg2 hgL
 rintro ⟨i,z3⟩ i' wL I μ ⟨rfl,hi,hp3,hL3,hz,h⟩ hin
 simp only at hi hp3 hL3 hz h hin ⊢
 unfold qbb.b1
 refine qnc (fun g1=>?_) (fun g1=>?_)
 · obtain ⟨f,hf⟩:∃ f,n - i=f+1:=⟨n - i - 1,by omega⟩
   rw [hf,zst] at hz
   refine qch.c h hN hp3 fun w hg h=>⟨_,rfl,?_⟩
   have gl:=qkj (B:=qi V (8 * N)) (z:=z3) 8
   have go:=qmd (B:=qi V (8 * N)) (z:=z3) 8
   generalize qse (qi V (8 * N)) 8 z3=g at h hz hg gl go ⊢
   have pl:(2:Int) ^ (8:Int).toNat=256:=by decide
   rw [pl] at gl
   refine que ?_
   rw [qck,show g.1 % 256=g.1 by omega]
   refine ref7_put.c h (by rw [go]; omega) fun w h=>⟨rfl,?_⟩
   refine qn (qd (by omega) (by omega)) ?_
   refine ⟨⟨rfl,rfl⟩,hin (i+1,qqn most g.1 g.2) _ _ ⟨by simp,by simp only; omega,by simp only; rw [qdm]; exact hg,qnj _ hm (by rw [go]; exact hL3),?_,h⟩ (by simp only; omega)⟩
   simp only
   rw [show n - (i+1)=f by omega]
   exact hz
 · have:i=n:=by omega
   subst this
   rw [Nat.sub_self,zst] at hz
   rw [← hz] at hk
   exact hk wL h
end
end Go.Proofs.YtejnemneenjliaaGreat
namespace Go.Proofs.YtejnemneenjliaaGreat
open Go Go.Proofs
set_option linter.unusedVariables false
set_option linter.unusedSimpArgs false
attribute [local irreducible] apK cpK mkK br
section
variable {F0:List Nat} {w0 w:World} {ps rest rest2:List As} {sb rb V N:Nat} {q:Sl} {most:Int} {z:Z}
theorem qco {e:Int} (h:z.2.2 ≠ 0):qkd e z=z:=by
 unfold qkd
 rw [if_neg h]
theorem zok_id (ok:Bool) (h:z.2.2 ≠ 0):zok ok z=z:=by
 unfold zok
 split
 · rfl
 · exact qco h
theorem qvj.copy {ca cb:Nat} {n d:Int} {nx:Option Addr→Option Addr→Option Addr→World→Prop} (h:St F0 w0 w (dtA sb rb q most z :: ps)) (hm:most≤1000000) (hL:z.2.1.length≤1000000) (hn:0≤n∧n≤2000) (hd:0≤d∧d≤200000) (hok:z.2.2=0→1≤d∧d≤(z.2.1.length:Int))
 {K:VWP}
 (hk:∀ w',St F0 w0 w' (dtA sb rb q most (zcp most d n.toNat z) :: ps)→nx (some ⟨sb,0,none⟩) (some ⟨ca,0,none⟩) (some ⟨cb,0,none⟩) w') :
 qf.j11 (some ⟨sb,0,none⟩) (some ⟨ca,0,none⟩) (some ⟨cb,0,none⟩) n d K nx w:=by
 unfold qf.j11 qf.j12
 obtain ⟨n,rfl⟩:∃ k:Nat,n=k:=⟨n.toNat,by omega⟩
 rw [Int.toNat_natCast] at hk
 refine qmg (fun (a:Nat × Z) (i':Int) w'=>i'=a.1∧a.1≤n∧zcp most d (n - a.1) a.2=zcp most d n z∧a.2.2.1.length≤1000000∧(a.2.2.2=0→1≤d∧d≤(a.2.2.1.length:Int))∧St F0 w0 w' (dtA sb rb q most a.2 :: ps)) (fun a=>n - a.1) (0,z) ⟨rfl,by simp,rfl,hL,hok,h⟩ ?_
 clear h hL hok
 rintro ⟨i,p,out,err⟩ i' wL I μ ⟨rfl,hi,hz,hl5,hd5,h⟩ hin
 simp only at hi hz hl5 hd5 h hin ⊢
 unfold qf.b2
 have h0:=h
 obtain ⟨o,h⟩:=qqs h
 simp only at h
 have hol:=h.at2.len
 rw [ql] at hol
 refine qnc (fun g1=>?_) (fun g1=>?_)
 · obtain ⟨f,hf⟩:∃ f,n - i=f+1:=⟨n - i - 1,by omega⟩
   rw [hf,zcp] at hz
   refine qtd (h.fI ?_)
   refine qne (fun g3=>?_) (fun g3=>?_)
   · have g3:err=0:=by simpa using g3
     subst g3
     have hd5:=hd5 rfl
     rw [if_neg (by simp)] at hz
     simp only at hz
     refine h.drewK fun w h=>?_
     refine qtd (h.fL (qtd (h.fL ?_)))
     refine qn (show IntKind.i64.wrap (((o.len:Nat):Int) - d)=((out.length - d.toNat:Nat):Int) by rw [qd (by omega) (by omega)]; omega) ?_
     refine h.lx (s:=o) (out.length - d.toNat) rfl (by omega) ?_
     refine ref7_put.c (dt_c h) (by simp only; omega) fun w h=>⟨rfl,?_⟩
     refine qn (qd (by omega) (by omega)) ?_
     refine ⟨⟨rfl,rfl,rfl,rfl,rfl⟩,hin (i+1,qqn most (out.getD (out.length - d.toNat) 0) (p,out,0)) _ _ ⟨by simp,by simp only; omega,?_,qnj _ hm hl5,?_,h⟩ (by simp only; omega)⟩
     · simp only
       rw [show n - (i+1)=f by omega]
       exact hz
     · intro e
       refine ⟨hd5.1,?_⟩
       simp only at e ⊢
       unfold qqn at e ⊢
       rw [if_neg (by simp)] at e ⊢
       split
       · rename_i hc
         rw [if_pos hc] at e
         simp at e
       · simp only [List.length_append,List.length_singleton]; omega
   · have g3:err ≠ 0:=by simpa using g3
     rw [if_pos g3] at hz
     rw [← hz] at hk
     exact hk wL h0
 · have:i=n:=by omega
   subst this
   rw [Nat.sub_self,zcp] at hz
   rw [← hz] at hk
   exact hk wL h0
theorem qvj.loop {ca cb:Nat} {ll dl:List Int} {K:Ending→World→Prop} (h:St F0 w0 w (dtA sb rb q most z :: ps)) [Rdb F0 w0 q ps 1 (u8s (byt V N))] [PkF hrA ca ps ll rest] [Rdb F0 w0 q rest 1 (u8s (byt V N))] [PkF hrA cb ps dl rest2] [Rdb F0 w0 q rest2 1 (u8s (byt V N))] (hN:N≤137438953472) (hp:z.1≤8 * N) (hm:most≤1000000) (hL:z.2.1.length≤1000000)
 (hk:∀ w',St F0 w0 w' (dtA sb rb q most (qie ll dl (qi V (8 * N)) most (8 * N+1) z) :: ps)→K (.returned (.tuple ⟨[]⟩)) w') :
 qf.j3 (some ⟨sb,0,none⟩) (some ⟨ca,0,none⟩) (some ⟨cb,0,none⟩) (fun v w'=>K (.returned v) w') w:=by
 unfold qf.j3
 have hBl:(qi (V:Int) (8 * N)).length=8 * N:=qk _ _
 refine loop0 (fun (a:Nat × Z) w'=>8 * N - a.2.1 < a.1∧a.2.1≤8 * N∧a.2.2.1.length≤1000000∧qie ll dl (qi V (8 * N)) most a.1 a.2=qie ll dl (qi V (8 * N)) most (8 * N+1) z∧St F0 w0 w' (dtA sb rb q most a.2 :: ps)) (fun a=>a.1) (8 * N+1,z) ⟨by simp only; omega,hp,hL,rfl,h⟩ ?_
 clear h hp hL
 rintro ⟨f,z1⟩ wL I μ ⟨hf,hp,hL,hz,h⟩ hin
 simp only at hf hp hL hz h hin ⊢
 unfold qf.b1
 obtain ⟨f,rfl⟩:∃ g,f=g+1:=⟨f - 1,by omega⟩
 rw [qie] at hz
 have h0:=h
 obtain ⟨o,h⟩:=qqs h
 refine qtd (h.fI ?_)
 refine qne (fun g1=>?_) (fun g1=>?_)
 · have g1:z1.2.2=0:=by simpa using g1
   rw [if_neg (by simpa using g1)] at hz
   simp only at hz
   unfold qf.j4
   refine ref7_sym.c (ls:=ll) (cb:=ca) h0 hN hp fun w hs h=>⟨_,rfl,?_⟩
   have so:=quh (B:=qi V (8 * N)) (z:=z1) ll
   have sp:(quj ll (qi V (8 * N)) z1).2.2.2=0→z1.1 < (quj ll (qi V (8 * N)) z1).2.1:=by
    unfold quj
    rw [if_neg (by simpa using g1)]
    exact (hdec_le ll (qi V (8 * N)) (qyh ll 15) 1 0 z1.1 (by rw [hBl]; exact hp)).2.2
   have sn:=zsym_nn (B:=qi V (8 * N)) (z:=z1) ll
   generalize quj ll (qi V (8 * N)) z1=s at h hz hs so sp sn ⊢
   obtain ⟨v,z2⟩:=s
   simp only at h hz hs so sp sn ⊢
   unfold qf.j5
   have h1:=h
   obtain ⟨o,h⟩:=qqs h
   refine qtd (h.fI ?_)
   refine qne (fun g2=>?_) (fun g2=>?_)
   · have g2:z2.2.2 ≠ 0:=by simpa using g2
     rw [if_pos (Or.inl g2)] at hz
     rw [← hz] at hk
     exact hk w h1
   have g2:z2.2.2=0:=by simpa using g2
   have sp:=sp g2
   refine qne (fun g3=>?_) (fun g3=>?_)
   · rw [if_pos (Or.inr (by simpa using g3))] at hz
     rw [← hz] at hk
     exact hk w h1
   have g3:v ≠ 256:=by simpa using g3
   rw [if_neg (by rintro (e | e); exact e g2; exact g3 e)] at hz
   unfold qf.j6
   refine qnc (fun g4=>?_) (fun g4=>?_)
   · rw [if_pos g4] at hz
     refine que ?_
     rw [qck,show v % 256=v by omega]
     refine ref7_put.c h1 (by rw [so]; omega) fun w h=>⟨rfl,?_⟩
     refine ⟨⟨rfl,rfl,rfl⟩,hin (f,qqn most v z2) _ ⟨?_,?_,qnj _ hm (by rw [so]; exact hL),?_,h⟩ (by simp only; omega)⟩
     · simp only; rw [qdm]; omega
     · simp only; rw [qdm]; exact hs
     · exact hz
   · rw [if_neg g4] at hz
     have hfw:=qun (most:=most) (B:=qi V (8 * N)) dl v (z:=z2) (by rw [hBl]; exact hs)
     rw [zfwd,hBl] at hfw
     have hbl:=qtn (B:=qi V (8 * N)) dl v hm (z:=z2) (by rw [so]; exact hL)
     have stop:∀ y w,zbehind dl (qi V (8 * N)) most v z2=y→y.2.2 ≠ 0→St F0 w0 w (dtA sb rb q most y :: ps)→K (.returned (.tuple ⟨[]⟩)) w:=by
      intro y w e hy h
      rw [e] at hz
      have:qie ll dl (qi V (8 * N)) most f y=y:=by
       cases f with
       | zero=>rfl
       | succ f=>rw [qie,if_pos hy]
      rw [this] at hz
      rw [← hz] at hk
      exact hk w h
     have next:∀ w,St F0 w0 w (dtA sb rb q most (zbehind dl (qi V (8 * N)) most v z2) :: ps)→(some (⟨sb,0,none⟩:Addr)=some ⟨sb,0,none⟩∧some (⟨ca,0,none⟩:Addr)=some ⟨ca,0,none⟩∧some (⟨cb,0,none⟩:Addr)=some ⟨cb,0,none⟩)∧I w∧μ w < μ wL:=by
      intro w h
      refine ⟨⟨rfl,rfl,rfl⟩,hin (f,zbehind dl (qi V (8 * N)) most v z2) _ ⟨?_,hfw.2,hbl,hz,h⟩ (by simp only; omega)⟩
      simp only; omega
     clear hin hk hz
     have b1:=zlen_b v
     have hL2:z2.2.1.length≤1000000:=by rw [so]; exact hL
     unfold zbehind at stop next
     simp only at stop next
     refine qeg.c h1 fun w h1=>⟨_,_,_,rfl,?_⟩
     unfold qf.j7
     generalize (qlj v).1=l1 at stop next b1 ⊢
     generalize (qlj v).2.1=l2 at stop next b1 ⊢
     cases hk2:(qlj v).2.2 with
     | false =>
       rw [hk2] at stop
       refine qym ?_
       refine qaf.c h1 fun w h=>⟨rfl,?_⟩
       refine stop (qkd 2 z2) w ?_ (qwg (by decide)) h
       have hne:(qkd 2 z2).2.2 ≠ 0:=qwg (by decide)
       have e1:zok false z2=qkd 2 z2:=rfl
       rw [e1,qaq hne]
       have e2:∀ y:Z,y.2.2 ≠ 0→quj dl (qi V (8 * N)) y=(0,y):=fun y hy=>by unfold quj; rw [if_pos hy]
       simp only
       rw [e2 _ hne]
       have e3:∀ ok (y:Z),y.2.2 ≠ 0→zok ok y=y:=fun ok y hy=>zok_id ok hy
       simp only
       rw [e3 _ _ hne,qaq hne]
       have e4:∀ y:Z,y.2.2 ≠ 0→qkd 2 y=y:=fun y hy=>qco hy
       simp only
       have e5:∀ (c:Prop) [Decidable c],(if c then qkd 2 (qkd 2 z2) else qkd 2 z2)=qkd 2 z2:=by
        intro c _
        split
        · exact e4 _ hne
        · rfl
       rw [e5]
       exact zcp_bad _ _ hne
     | true =>
       rw [hk2] at stop next
       refine qsj ?_
       have ez:zok true z2=z2:=rfl
       rw [ez] at stop next
       refine qch.c h1 hN hs fun w hg h=>⟨_,rfl,?_⟩
       have gl:=qkj (B:=qi V (8 * N)) (z:=z2) l2
       have go:=qmd (B:=qi V (8 * N)) (z:=z2) l2
       generalize qse (qi V (8 * N)) l2 z2=g at h stop next hg gl go ⊢
       have pl:(2:Int) ^ l2.toNat≤64:=qlr (c:=64) b1.2.2 rfl
       refine qn (qd (by omega) (by omega)) ?_
       unfold qf.j8
       refine ref7_sym.c (ls:=dl) (cb:=cb) h hN hg fun w hs2 h=>⟨_,rfl,?_⟩
       have so2:=quh (B:=qi V (8 * N)) (z:=g.2) dl
       generalize quj dl (qi V (8 * N)) g.2=s at h stop next hs2 so2 ⊢
       have b2:=zdis_b s.1
       refine qkf.c h fun w h=>⟨_,_,_,rfl,?_⟩
       have j9:∀ (z4:Z) w,z4=zok (qyi s.1).2.2 s.2→St F0 w0 w (dtA sb rb q most z4 :: ps)→qf.j9 (some ⟨sb,0,none⟩) (some ⟨ca,0,none⟩) (some ⟨cb,0,none⟩) (l1+g.1) (qyi s.1).1 (qyi s.1).2.1 (fun v w'=>K (.returned v) w') (fun d_0' t6' t8' w'=>(d_0'=some ⟨sb,0,none⟩∧t6'=some ⟨ca,0,none⟩∧t8'=some ⟨cb,0,none⟩)∧I w'∧μ w' < μ wL) w:=by
        intro z4 w e4 h
        have hzp2:z4.1≤8 * N:=by rw [e4,zok_p]; exact hs2
        have ho2:z4.2.1.length≤1000000:=by rw [e4,qkl,so2,go]; exact hL2
        have he2:=zok_err (ok:=(qyi s.1).2.2) (z:=s.2)
        rw [← e4] at stop next he2
        clear e4
        have b2':z4.2.2=0→1≤(qyi s.1).1:=fun e=>b2.2.2.2 (he2 e).1
        generalize (qyi s.1).1=d1 at stop next b2 b2' ⊢
        generalize (qyi s.1).2.1=d2 at stop next b2 ⊢
        unfold qf.j9
        have h0:=h
        obtain ⟨o,h⟩:=qqs h
        refine qtd (h.fI ?_)
        refine qne (fun g5=>?_) (fun g5=>?_)
        · have g5:z4.2.2 ≠ 0:=by simpa using g5
          refine stop z4 w ?_ g5 h0
          rw [qaq g5]
          simp only
          have e5:(if (z4.2.1.length:Int) < d1+0 then qkd 2 z4 else z4)=z4:=by
           split
           · exact qco g5
           · rfl
          rw [e5]
          exact zcp_bad _ _ g5
        have g5:z4.2.2=0:=by simpa using g5
        have b2':=b2' g5
        unfold qf.j10
        refine qch.c h0 hN hzp2 fun w hg2 h=>⟨_,rfl,?_⟩
        have gl2:=qkj (B:=qi V (8 * N)) (z:=z4) d2
        have go2:=qmd (B:=qi V (8 * N)) (z:=z4) d2
        generalize qse (qi V (8 * N)) d2 z4=g2 at h stop next hg2 gl2 go2 ⊢
        have pl2:(2:Int) ^ d2.toNat≤16384:=qlr (c:=16384) b2.2.2.1 rfl
        refine qn (qd (by omega) (by omega)) ?_
        have fin:∀ (z5:Z) w,z5=(if (g2.2.2.1.length:Int) < d1+g2.1 then qkd 2 g2.2 else g2.2)→z5.2.1.length≤1000000→(z5.2.2=0→1≤d1+g2.1∧d1+g2.1≤(z5.2.1.length:Int))→St F0 w0 w (dtA sb rb q most z5 :: ps)→qf.j11 (some ⟨sb,0,none⟩) (some ⟨ca,0,none⟩) (some ⟨cb,0,none⟩) (l1+g.1) (d1+g2.1) (fun v w'=>K (.returned v) w') (fun d_0' t6' t8' w'=>(d_0'=some ⟨sb,0,none⟩∧t6'=some ⟨ca,0,none⟩∧t8'=some ⟨cb,0,none⟩)∧I w'∧μ w' < μ wL) w:=by
         intro z5 w e hl5 hd5 h
         rw [← e] at next
         exact qvj.copy (n:=l1+g.1) (d:=d1+g2.1) h hm hl5 (by omega) (by omega) hd5 fun w h=>⟨⟨rfl,rfl,rfl⟩,(next w h).2⟩
        have h0:=h
        obtain ⟨o,h⟩:=qqs h
        refine qtd (h.fI ?_)
        refine qne (fun g6=>?_) (fun g6=>?_)
        · have g6:g2.2.2.2=0:=by simpa using g6
          have hol:=h.at2.len
          rw [ql] at hol
          refine qtd (h.fL ?_)
          refine qnc (fun g7=>?_) (fun g7=>?_)
          · have g7:d1+g2.1 > ((o.len:Nat):Int):=g7
            refine qaf.c h0 fun w h=>⟨rfl,?_⟩
            exact fin (qkd 2 g2.2) w (by rw [if_pos (by omega)]) (by show g2.2.2.1.length≤_; rw [go2]; exact ho2) (fun e=>absurd e (qwg (by decide))) h
          · have g7:¬ d1+g2.1 > ((o.len:Nat):Int):=g7
            exact fin g2.2 w (by rw [if_neg (by omega)]) (by rw [go2]; exact ho2) (fun _=>by omega) h0
        · have g6:g2.2.2.2 ≠ 0:=by simpa using g6
          refine fin g2.2 w ?_ (by rw [go2]; exact ho2) (fun e=>absurd e g6) h0
          split
          · exact (qco g6).symm
          · rfl
       have h0:=h
       obtain ⟨o,h⟩:=qqs h
       refine qtd (h.fI ?_)
       refine qne (fun g6=>?_) (fun g6=>?_)
       · refine qne (fun g7=>?_) (fun g7=>?_)
         · have g7:(qyi s.1).2.2=false:=by simpa using g7
           refine qaf.c h0 fun w h=>⟨rfl,?_⟩
           exact j9 _ w (by rw [g7]; rfl) h
         · have g7:(qyi s.1).2.2=true:=by simpa using g7
           exact j9 _ w (by rw [g7]; rfl) h0
       · have g6:s.2.2.2 ≠ 0:=by simpa using g6
         exact j9 _ w (zok_id _ g6).symm h0
 · have g1:z1.2.2 ≠ 0:=by simpa using g1
   rw [if_pos g1] at hz
   rw [← hz] at hk
   exact hk wL h0
end
end Go.Proofs.YtejnemneenjliaaGreat
namespace Go.Proofs.YtejnemneenjliaaGreat
open Go Go.Proofs
set_option linter.unusedVariables false
set_option linter.unusedSimpArgs false
attribute [local irreducible] apK cpK mkK br
section
variable {F0:List Nat} {w0 w:World} {ps rest rest2:List As} {sb rb V N:Nat} {q:Sl} {most:Int} {z:Z}
theorem qvj.c {s t:Sl} {ll dl:List Int} {K:Ending→World→Prop} (h:St F0 w0 w (dtA sb rb q most z :: ps)) [Rdb F0 w0 q ps 1 (u8s (byt V N))] [Rdb F0 w0 s ps 1 (ivs .i64 ll)] [Rdb F0 w0 t ps 1 (ivs .i64 dl)] (hll:256 < ll.length) (hN:N≤137438953472) (hp:z.1≤8 * N) (hm:most≤1000000) (hL:z.2.1.length≤1000000)
 (hk:∀ w',St F0 w0 w' (dtA sb rb q most (zblk ll dl (qi V (8 * N)) most z) :: ps)→K (.returned (.tuple ⟨[]⟩)) w') :
 Calls Tryz.prog 275 ⟨[.pointer (some ⟨sb,0,none⟩),.slice s.a s.len s.cap,.slice t.a t.len t.cap]⟩ w K:=by
 refine qfc (qf.ok _ _ _ _ _ ?_)
 unfold qf
 unfold zblk at hk
 simp only [qk] at hk
 have h0:=h
 obtain ⟨o,h⟩:=qqs h
 refine qtd (h.fI ?_)
 refine qne (fun g=>?_) (fun g=>?_)
 · have g:z.2.2 ≠ 0:=by simpa using g
   rw [show (if z.2.2=0∧ll.getD 256 0=0 then qkd 2 z else z)=z from if_neg (fun e=>g e.1),qjk ll g,qjk dl g,if_pos g] at hk
   exact hk w h0
 have g:z.2.2=0:=by simpa using g
 unfold qf.j1
 refine h.lx (s:=s) 256 rfl hll ?_
 have hne:(qkd 2 z).2.2 ≠ 0:=qwg (by decide)
 refine qne (fun g2=>?_) (fun g2=>?_)
 · rw [show (if z.2.2=0∧ll.getD 256 0=0 then qkd 2 z else z)=qkd 2 z from if_pos ⟨g,by simpa using g2⟩,qjk ll hne,qjk dl hne,if_pos hne] at hk
   exact qaf.c h0 fun w h=>⟨rfl,hk w h⟩
 have g2:ll.getD 256 0 ≠ 0:=by intro e; rw [e] at g2; simp at g2
 rw [show (if z.2.2=0∧ll.getD 256 0=0 then qkd 2 z else z)=z from if_neg (fun e=>g2 e.2)] at hk
 refine qgb.c (s:=s) (half:=true) h0 (fun ca w e1 h=>⟨_,_,rfl,?_⟩) (fun w e1 h=>⟨_,_,rfl,?_⟩)
 · have ec:qxg ll z=z:=by unfold qxg; rw [if_neg (fun e=>e.2 e1)]
   rw [ec] at hk
   unfold qf.j2
   refine qgb.c (s:=t) (half:=true) h (fun cb w e2 h=>⟨_,_,rfl,?_⟩) (fun w e2 h=>⟨_,_,rfl,?_⟩)
   · have ec2:qxg dl z=z:=by unfold qxg; rw [if_neg (fun e=>e.2 e2)]
     rw [ec2,if_neg (fun e=>e g)] at hk
     refine qle rfl (qle rfl ?_)
     have h:St F0 w0 w (dtA sb rb q most z :: hrA cb dl :: hrA ca ll :: ps):=h.at2
     exact qvj.loop (ca:=ca) (cb:=cb) (ll:=ll) (dl:=dl) h hN hp hm hL fun w h=>hk w (h.tail fun _ _ _ h=>h.drop.drop)
   · have ec2:qxg dl z=qkd 2 z:=by unfold qxg; rw [if_pos ⟨g,e2⟩]
     rw [ec2,if_pos hne] at hk
     refine qle rfl (qde (by simpa using e2) ?_)
     have h:St F0 w0 w (dtA sb rb q most z :: ps):=h.drop
     exact qaf.c h fun w h=>⟨rfl,hk w h⟩
 · have ec:qxg ll z=qkd 2 z:=by unfold qxg; rw [if_pos ⟨g,e1⟩]
   rw [ec,qjk dl hne,if_pos hne] at hk
   unfold qf.j2
   refine qgb.c (s:=t) (half:=true) h (fun cb w e2 h=>⟨_,_,rfl,?_⟩) (fun w e2 h=>⟨_,_,rfl,?_⟩)
   · refine qde (by simpa using e1) ?_
     exact qaf.c h.drop fun w h=>⟨rfl,hk w h⟩
   · refine qde (by simpa using e1) ?_
     exact qaf.c h fun w h=>⟨rfl,hk w h⟩
theorem qlm.loop {cb:Nat} {cl:List Int} {nl nd:Nat} {K:Ending→World→Prop} (h:St F0 w0 w (dtA sb rb q most z :: ps)) [Rdb F0 w0 q ps 1 (u8s (byt V N))] [PkF hrA cb ps cl rest] [Rdb F0 w0 q rest 1 (u8s (byt V N))] (hN:N≤137438953472) (hp:z.1≤8 * N) (hn:nl+nd≤200000) (hz0:z.2.2=0)
 (hk0:∀ (t11:Sl) w',(zll cl (qi V (8 * N)) (nl+nd) (nl+nd+1) [] z).2.2.2=0→t11.len=nl+nd→t11.len≤t11.cap→St F0 w0 w' (dtA sb rb q most (zll cl (qi V (8 * N)) (nl+nd) (nl+nd+1) [] z).2 :: rdA 1 t11 (ivs .i64 (zll cl (qi V (8 * N)) (nl+nd) (nl+nd+1) [] z).1) :: ps)→K (.returned (.tuple ⟨[.slice (qgf t11.a t11.cap 0 1) (nl - 0) (t11.cap - 0),.slice (qgf t11.a t11.cap nl 1) (t11.len - nl) (t11.cap - nl)]⟩)) w')
 (hk1:∀ w',(zll cl (qi V (8 * N)) (nl+nd) (nl+nd+1) [] z).2.2.2 ≠ 0→St F0 w0 w' (dtA sb rb q most (zll cl (qi V (8 * N)) (nl+nd) (nl+nd+1) [] z).2 :: ps)→K (.returned (.tuple ⟨[.slice none 0 0,.slice none 0 0]⟩)) w') :
 qb.j8 (some ⟨sb,0,none⟩) (nl:Int) (nd:Int) (some ⟨cb,0,none⟩) ⟨none,0,0⟩ (fun v w'=>K (.returned v) w') w:=by
 have hBl:(qi (V:Int) (8 * N)).length=8 * N:=qk _ _
 generalize hR:zll cl (qi V (8 * N)) (nl+nd) (nl+nd+1) [] z=R at hk0 hk1
 have hRl:=qqq (cl:=cl) (B:=qi V (8 * N)) (N:=nl+nd) (nl+nd+1) [] z (by simp) (by simp)
 rw [hR] at hRl
 unfold qb.j8
 refine qmg (fun (a:Nat × List Int × Z) (t11:Sl) w'=>zll cl (qi V (8 * N)) (nl+nd) a.1 a.2.1 a.2.2=R∧a.2.2.1≤8 * N∧a.2.1.length≤nl+nd∧a.2.2.2.2=0∧nl+nd < a.1+a.2.1.length∧St F0 w0 w' (dtA sb rb q most a.2.2 :: qcc 1 t11 (ivs .i64 a.2.1) :: ps)) (fun a=>a.1) (nl+nd+1,[],z) ⟨hR,hp,by simp,hz0,by simp,(h.nil 1).at1⟩ ?_
 clear h hp hR hz0
 rintro ⟨f,l,y⟩ t11 wL I μ ⟨hR,hp,hl,hy,hf,h⟩ hin
 simp only at hR hp hl hy hf h hin ⊢
 have hol:=h.drop.len
 rw [ql] at hol
 have h0:=h
 obtain ⟨f,rfl⟩:∃ f',f=f'+1:=⟨f - 1,by omega⟩
 unfold qb.b1
 obtain ⟨o,h⟩:=qqs h
 refine qn (qd (by omega) (by omega)) ?_
 refine qnc (fun g1=>?_) (fun g1=>?_)
 rotate_left
 · have e:R=(l,y):=by rw [← hR,zll,if_pos (Or.inr (by omega))]
   rw [e] at hk0 hk1 hRl
   simp only at hk0 hk1 hRl
   unfold qb.j9
   refine qtd (h.fI ?_)
   refine qle (by simpa using hy) ?_
   have hll:=hRl hy
   have hcap:=h0.drop.cap (by decide)
   refine h0.drewK fun w h0=>?_
   refine qvk (n:=nl) rfl (by omega) (que ?_)
   refine qvk (n:=nl) rfl (by omega) (que ?_)
   exact hk0 t11 w hy (by omega) hcap (h0.tail fun _ _ _ h=>h.ro)
 refine qtd (h.fI ?_)
 refine qde (by simpa using hy) ?_
 rw [zll,if_neg (fun e=>by rcases e with e | e; exact e hy; omega)] at hR
 have bad:∀ z3 w,z3.2.2 ≠ 0→(zllS cl (qi V (8 * N)) (nl+nd) l y).2=z3→St F0 w0 w (dtA sb rb q most z3 :: ps)→K (.returned (.tuple ⟨[.slice none 0 0,.slice none 0 0]⟩)) w:=by
  intro z3 w hz3 e h
  have:R.2=z3:=by
   rw [← hR,e]
   cases f with
   | zero=>rfl
   | succ f=>rw [zll,if_pos (Or.inl hz3)]
  rw [this] at hk1
  exact hk1 w hz3 h
 unfold zllS at hR bad
 simp only at hR bad
 unfold qb.j10
 refine ref7_sym.c (cb:=cb) (ls:=cl) h0 hN hp fun w hle h=>⟨_,rfl,?_⟩
 generalize quj cl (qi V (8 * N)) y=s at h hR bad hle ⊢
 have j12:∀ (a:(Int × Int) × Z) w,qjf (qi V (8 * N)) s.1 l s.2=a→St F0 w0 w (dtA sb rb q most a.2 :: qcc 1 t11 (ivs .i64 l) :: ps) →
  qb.j12 (some ⟨sb,0,none⟩) (nl:Int) (nd:Int) (some ⟨cb,0,none⟩) t11 a.1.2 a.1.1 (fun v w'=>K (.returned v) w') (fun d_0' t4' t5' t10' t12' w'=>(d_0'=some ⟨sb,0,none⟩∧t4'=(nl:Int)∧t5'=(nd:Int)∧t10'=some ⟨cb,0,none⟩)∧I t12' w'∧μ t12' w' < μ t11 wL) w:=by
  intro a w e h
  have hna:=zagain_n (B:=qi V (8 * N)) (z:=s.2) s.1 l
  have hpa:=(zagain_p (B:=qi V (8 * N)) (z:=s.2) s.1 l (by rw [hBl]; exact hle)).2
  rw [hBl] at hpa
  rw [e] at hR bad hna hpa
  unfold qb.j12
  have h0:=h
  obtain ⟨o,h⟩:=qqs h
  refine qtd (h.fI ?_)
  refine qne (fun g2=>?_) (fun g2=>?_)
  · have g2:a.2.2.2 ≠ 0:=by simpa using g2
    refine bad a.2 w g2 ?_ (h0.tail fun _ _ _ h=>h.drop)
    split
    · exact qco g2
    · rfl
  have g2:a.2.2.2=0:=by simpa using g2
  unfold qb.j13
  refine qn (qd (by omega) (by omega)) ?_
  refine qn (qd (by omega) (by omega)) ?_
  refine qnc (fun g3=>?_) (fun g3=>?_)
  · refine qaf.c h0 fun w h=>⟨rfl,?_⟩
    exact bad (qkd 2 a.2) w (qwg (by decide)) (by rw [if_pos (by omega)]) (h.tail fun _ _ _ h=>h.drop)
  rw [show (if ((nl+nd:Nat):Int) - l.length < a.1.2 then qkd 2 a.2 else a.2)=a.2 from if_neg (by omega),if_pos g2] at hR
  obtain ⟨n,hn2⟩:∃ n:Nat,a.1.2=n:=⟨a.1.2.toNat,by omega⟩
  rw [hn2,Int.toNat_natCast] at hR
  rw [hn2]
  have hn1:=hna.2.2 g2
  unfold qb.j14
  refine qkg (fun (k:Nat) (t:Sl) (k':Int) w'=>k'=k∧k≤n∧St F0 w0 w' (dtA sb rb q most a.2 :: qcc 1 t (ivs .i64 (l ++ List.replicate k a.1.1)) :: ps)) (fun k=>n - k) 0 ⟨rfl,by omega,by simpa using h0⟩ ?_
  clear h h0
  rintro k t k' wM I2 μ2 ⟨rfl,hkn,h⟩ hin2
  unfold qb.b2
  refine qnc (fun g4=>?_) (fun g4=>?_)
  · refine h.pushI (s:=t) (by rw [List.length_append,List.length_replicate]; omega) fun t2 w h=>?_
    refine qn (qd (by omega) (by omega)) ?_
    refine ⟨⟨rfl,rfl,rfl,rfl,rfl,rfl⟩,hin2 (k+1) _ _ _ ⟨by omega,by omega,?_⟩ (by omega)⟩
    rw [List.append_assoc,← List.replicate_succ'] at h
    exact h.at1
  · have:k=n:=by omega
    subst this
    refine ⟨⟨rfl,rfl,rfl,rfl⟩,hin (f,l ++ List.replicate k a.1.1,a.2) _ _ ⟨hR,hpa,by simp only [List.length_append,List.length_replicate]; omega,g2,by simp only [List.length_append,List.length_replicate]; omega,h⟩ (by simp only; omega)⟩
 have b2:=qcf (B:=qi V (8 * N)) (z:=s.2) 2 (by decide)
 have b3:=qcf (B:=qi V (8 * N)) (z:=s.2) 3 (by decide)
 have b7:=qcf (B:=qi V (8 * N)) (z:=s.2) 7 (by decide)
 unfold qb.j11
 refine qne (fun g=>?_) (fun g=>?_)
 · have g:s.1=16:=by simpa using g
   refine qne (fun g2=>?_) (fun g2=>?_)
   · have g2:(t11.len:Int)=0:=by simpa using g2
     refine qaf.c h fun w h=>⟨rfl,?_⟩
     have e:qjf (qi V (8 * N)) s.1 l s.2=((0,0),qkd 2 s.2):=by
      unfold qjf
      rw [if_pos g,if_pos (by omega)]
     rw [e] at bad
     have hne:(qkd 2 s.2).2.2 ≠ 0:=qwg (by decide)
     refine bad (qkd 2 s.2) w hne ?_ (h.tail fun _ _ _ h=>h.drop)
     simp only
     rw [if_neg (by omega)]
   · have g2:(t11.len:Int) ≠ 0:=by simpa using g2
     have e:qjf (qi V (8 * N)) s.1 l s.2=((l.getD (l.length - 1) 0,3+(qse (qi V (8 * N)) 2 s.2).1),(qse (qi V (8 * N)) 2 s.2).2):=by
      unfold qjf
      rw [if_pos g,if_neg (by omega)]
     refine qn (qd (by omega) (by omega)) ?_
     refine h.lx (s:=t11) (l.length - 1) (by omega) (by omega) ?_
     refine qch.c h hN hle fun w _ h=>⟨_,rfl,?_⟩
     exact qn (qd (by omega) (by omega)) (j12 _ w e h)
 have g:s.1 ≠ 16:=by simpa using g
 refine qne (fun g3=>?_) (fun g3=>?_)
 · have g3:s.1=17:=by simpa using g3
   have e:qjf (qi V (8 * N)) s.1 l s.2=((0,3+(qse (qi V (8 * N)) 3 s.2).1),(qse (qi V (8 * N)) 3 s.2).2):=by
    unfold qjf
    rw [if_neg g,if_pos g3]
   refine qch.c h hN hle fun w _ h=>⟨_,rfl,?_⟩
   exact qn (qd (by omega) (by omega)) (j12 _ w e h)
 have g3:s.1 ≠ 17:=by simpa using g3
 refine qne (fun g4=>?_) (fun g4=>?_)
 · have g4:s.1=18:=by simpa using g4
   have e:qjf (qi V (8 * N)) s.1 l s.2=((0,11+(qse (qi V (8 * N)) 7 s.2).1),(qse (qi V (8 * N)) 7 s.2).2):=by
    unfold qjf
    rw [if_neg g,if_neg g3,if_pos g4]
   refine qch.c h hN hle fun w _ h=>⟨_,rfl,?_⟩
   exact qn (qd (by omega) (by omega)) (j12 _ w e h)
 have g4:s.1 ≠ 18:=by simpa using g4
 have e:qjf (qi V (8 * N)) s.1 l s.2=((s.1,1),s.2):=by
  unfold qjf
  rw [if_neg g,if_neg g3,if_neg g4]
 exact j12 _ w e h
theorem zclr_stop {B:List Bool} {z:Z} {k:Nat} (h:(qmj B z k).2.2.2 ≠ 0):∀ d,(qmj B z (k+d)).2=(qmj B z k).2:=by
 intro d
 induction d with
 | zero=>rfl
 | succ d ih =>
   rw [← Nat.add_assoc,qmj]
   simp only
   rw [ih,qaq h]
theorem qlm.c {K:Ending→World→Prop} (h:St F0 w0 w (dtA sb rb q most z :: ps)) [Rdb F0 w0 q ps 1 (u8s (byt V N))] (hN:N≤137438953472) (hp:z.1≤8 * N)
 (hk0:∀ (t11:Sl) (l:List Int) (nl:Nat) w',(qii (qi V (8 * N)) z).2.2.2=0→t11.len=l.length→nl≤t11.len→t11.len≤t11.cap→(qii (qi V (8 * N)) z).1=(l.take nl,l.drop nl)→St F0 w0 w' (dtA sb rb q most (qii (qi V (8 * N)) z).2 :: rdA 1 t11 (ivs .i64 l) :: ps)→K (.returned (.tuple ⟨[.slice (qgf t11.a t11.cap 0 1) (nl - 0) (t11.cap - 0),.slice (qgf t11.a t11.cap nl 1) (t11.len - nl) (t11.cap - nl)]⟩)) w')
 (hk1:∀ w',(qii (qi V (8 * N)) z).2.2.2 ≠ 0→St F0 w0 w' (dtA sb rb q most (qii (qi V (8 * N)) z).2 :: ps)→K (.returned (.tuple ⟨[.slice none 0 0,.slice none 0 0]⟩)) w') :
 Calls Tryz.prog 276 ⟨[.pointer (some ⟨sb,0,none⟩)]⟩ w K:=by
 have hBl:(qi (V:Int) (8 * N)).length=8 * N:=qk _ _
 refine qfc (qb.ok _ _ _ ?_)
 unfold qb qb.j1
 generalize hZ:qii (qi V (8 * N)) z=Zr at hk0 hk1
 unfold qii at hZ
 simp only at hZ
 refine qch.c h hN hp fun w hp1 h=>⟨_,rfl,?_⟩
 have hg1:=qcf (B:=qi V (8 * N)) (z:=z) 5 (by decide)
 generalize qse (qi V (8 * N)) 5 z=g1 at h hZ hp1 hg1 ⊢
 refine qn (qd (by omega) (by omega)) ?_
 have j2:∀ (y1:Z) w,y1=(if 286 < g1.1+257 then qkd 2 g1.2 else g1.2)→y1.1≤8 * N→St F0 w0 w (dtA sb rb q most y1 :: ps)→qb.j2 (some ⟨sb,0,none⟩) (g1.1+257) (fun v w'=>K (.returned v) w') w:=by
  intro y1 w e hp1 h
  rw [← e] at hZ
  unfold qb.j2
  refine qch.c h hN hp1 fun w hp2 h=>⟨_,rfl,?_⟩
  have hg2:=qcf (B:=qi V (8 * N)) (z:=y1) 5 (by decide)
  generalize qse (qi V (8 * N)) 5 y1=g2 at h hZ hp2 hg2 ⊢
  refine qn (qd (by omega) (by omega)) ?_
  have j3:∀ (y2:Z) w,y2=(if 30 < g2.1+1 then qkd 2 g2.2 else g2.2)→y2.1≤8 * N→St F0 w0 w (dtA sb rb q most y2 :: ps)→qb.j3 (some ⟨sb,0,none⟩) (g1.1+257) (g2.1+1) (fun v w'=>K (.returned v) w') w:=by
   intro y2 w e hp2 h
   rw [← e] at hZ
   unfold qb.j3
   refine qch.c h hN hp2 fun w hp3 h=>⟨_,rfl,?_⟩
   have hg3:=qkj (B:=qi V (8 * N)) (z:=y2) 4
   rw [show ((2:Int) ^ (4:Int).toNat)=16 by decide] at hg3
   generalize qse (qi V (8 * N)) 4 y2=g3 at h hZ hp3 hg3 ⊢
   refine qn (qd (by omega) (by omega)) ?_
   obtain ⟨nc,hnc⟩:∃ nc:Nat,g3.1+4=nc:=⟨(g3.1+4).toNat,by omega⟩
   rw [hnc] at hZ ⊢
   rw [Int.toNat_natCast] at hZ
   unfold qb.j4
   refine h.new fun ob w h=>?_
   have h:St F0 w0 w (qzc ob (ivs .i64 qmh) :: dtA sb rb q most g3.2 :: ps):=h
   have h:=(h.ownB (n:=19) rfl).ro
   refine h.makeI (n:=19) rfl rfl (by decide) fun cs w hcs hcc h=>?_
   have h:St F0 w0 w (dtA sb rb q most g3.2 :: qcc 1 cs (ivs .i64 (List.replicate 19 0)) :: rdA 1 ⟨some ⟨ob,0,none⟩,19,19⟩ (ivs .i64 qmh) :: ps):=h.sub
   unfold qb.j5 qb.j15
   refine qmg (fun (k:Nat) (k':Int) w'=>k'=k∧k≤nc∧(qmj (qi V (8 * N)) g3.2 k).2.1≤8 * N∧St F0 w0 w' (dtA sb rb q most (qmj (qi V (8 * N)) g3.2 k).2 :: qcc 1 cs (ivs .i64 (qmj (qi V (8 * N)) g3.2 k).1) :: rdA 1 ⟨some ⟨ob,0,none⟩,19,19⟩ (ivs .i64 qmh) :: ps)) (fun k=>nc - k) 0 ⟨rfl,by omega,hp3,h⟩ ?_
   clear h
   rintro k k' wL I μ ⟨rfl,hkn,hpk,h⟩ hin
   unfold qb.b3
   have hcl:=zclr_len (B:=qi V (8 * N)) (z:=g3.2) k
   have j6:(k=nc ∨ (qmj (qi V (8 * N)) g3.2 k).2.2.2 ≠ 0)→qb.j6 (some ⟨sb,0,none⟩) (g1.1+257) (g2.1+1) cs (fun v w'=>K (.returned v) w') wL:=by
    intro hc
    clear hin
    unfold qb.j6
    have h0:=h
    obtain ⟨o,h⟩:=qqs h
    refine qtd (h.fI ?_)
    refine qne (fun g=>?_) (fun g=>?_)
    · have g:(qmj (qi V (8 * N)) g3.2 k).2.2.2 ≠ 0:=by simpa using g
      have e1:(qmj (qi V (8 * N)) g3.2 nc).2=(qmj (qi V (8 * N)) g3.2 k).2:=by
       have:=zclr_stop g (nc - k)
       rwa [show k+(nc - k)=nc by omega] at this
      have e2:∀ cl,zcodeH cl false (qmj (qi V (8 * N)) g3.2 k).2=(qmj (qi V (8 * N)) g3.2 k).2:=fun cl=>by unfold zcodeH; rw [if_neg (fun e=>g e.1)]
      have e3:∀ cl M f,zll cl (qi V (8 * N)) M (f+1) [] (qmj (qi V (8 * N)) g3.2 k).2=([],(qmj (qi V (8 * N)) g3.2 k).2):=fun cl M f=>by rw [zll,if_pos (Or.inl g)]
      rw [e1,e2,e3,if_pos g] at hZ
      subst hZ
      exact hk1 wL g (h0.tail fun _ _ _ h=>h.drop.drop)
    have g:(qmj (qi V (8 * N)) g3.2 k).2.2.2=0:=by simpa using g
    have hkc:k=nc:=hc.resolve_right (fun e=>e g)
    subst hkc
    generalize qmj (qi V (8 * N)) g3.2 k=c at h0 hZ hpk hcl g
    refine qgb.c (s:=cs) (half:=false) h0 (fun hb w e1 h=>⟨_,_,rfl,?_⟩) (fun w e1 h=>⟨_,_,rfl,?_⟩)
    · have ec:zcodeH c.1 false c.2=c.2:=by unfold zcodeH; rw [if_neg (fun e=>e.2 e1)]
      rw [ec] at hZ
      unfold qb.j7
      refine qle rfl ?_
      obtain ⟨n1,hn1⟩:∃ n1:Nat,g1.1+257=n1:=⟨(g1.1+257).toNat,by omega⟩
      obtain ⟨n2,hn2⟩:∃ n2:Nat,g2.1+1=n2:=⟨(g2.1+1).toNat,by omega⟩
      rw [hn1,hn2] at hZ
      rw [hn1,hn2]
      have e12:((n1:Int)+(n2:Int)).toNat=n1+n2:=by omega
      rw [e12,Int.toNat_natCast] at hZ
      have h:St F0 w0 w (dtA sb rb q most c.2 :: hrA hb c.1 :: ps):=h.sub
      refine qlm.loop (nl:=n1) (nd:=n2) (cl:=c.1) (cb:=hb) h hN hpk (by omega) g (fun t11 w g ht hc h=>?_) (fun w g h=>?_)
      · rw [if_neg (fun e=>e g)] at hZ
        subst hZ
        have hzl:=qqq (cl:=c.1) (B:=qi V (8 * N)) (N:=n1+n2) (n1+n2+1) [] c.2 (by simp) (by simp) g
        exact hk0 t11 _ n1 w g (by omega) (by omega) hc rfl (h.tail fun _ _ _ h=>h.tail fun _ _ _ h=>h.drop)
      · rw [if_pos g] at hZ
        subst hZ
        exact hk1 w g (h.tail fun _ _ _ h=>h.drop)
    · have ec:zcodeH c.1 false c.2=qkd 2 c.2:=by unfold zcodeH; rw [if_pos ⟨g,e1⟩]
      have hne:(qkd 2 c.2).2.2 ≠ 0:=qwg (by decide)
      have e3:∀ M f,zll c.1 (qi V (8 * N)) M (f+1) [] (qkd 2 c.2)=([],qkd 2 c.2):=fun M f=>by rw [zll,if_pos (Or.inl hne)]
      rw [ec,e3,if_pos hne] at hZ
      subst hZ
      unfold qb.j7
      refine qde (by simpa using e1) ?_
      refine qaf.c h fun w h=>⟨rfl,?_⟩
      exact hk1 w hne (h.tail fun _ _ _ h=>h.drop.drop)
   refine qnc (fun g=>?_) (fun g=>j6 (Or.inl (by omega)))
   have h0:=h
   obtain ⟨o,h⟩:=qqs h
   refine qtd (h.fI ?_)
   refine qne (fun g0=>?_) (fun g0=>j6 (Or.inr (by simpa using g0)))
   clear h
   have hk19:k < 19:=by omega
   have hz:=zord_lt k hk19
   refine h0.drewK fun w h=>?_
   have hr:=h.rdb (⟨some ⟨ob,0,none⟩,19,19⟩:Sl)
   refine hr.ix (by decide) (by omega) (by show (k:Int) < 19; omega) fun a ha=>?_
   have hv:(ivs .i64 qmh)[((k:Int)).toNat * 1]?=some (.int .i64 (qmh.getD k 0)):=by
    rw [show ((k:Int)).toNat * 1=k by omega]
    exact qxn hk19
   have fin:∀ w,(qse (qi V (8 * N)) 3 (qmj (qi V (8 * N)) g3.2 k).2).2.1≤8 * N→St F0 w0 w (dtA sb rb q most (qse (qi V (8 * N)) 3 (qmj (qi V (8 * N)) g3.2 k).2).2 :: qcc 1 cs (ivs .i64 (qmj (qi V (8 * N)) g3.2 k).1) :: rdA 1 ⟨some ⟨ob,0,none⟩,19,19⟩ (ivs .i64 qmh) :: ps) →
    ixS cs.a cs.len (qmh.getD k 0) 1 fun a59=>Go.Proofs.YtejnemneenjliaaGreat.st w a59 (.int .i64 (qse (qi V (8 * N)) 3 (qmj (qi V (8 * N)) g3.2 k).2).1) fun w60=>lt (IntKind.i64.wrap ((k:Int)+1)) fun x61=>((some (⟨sb,0,none⟩:Addr)=some ⟨sb,0,none⟩∧g1.1+257=g1.1+257∧g2.1+1=g2.1+1∧(nc:Int)=nc∧(⟨some ⟨ob,0,none⟩,19,19⟩:Sl)=⟨some ⟨ob,0,none⟩,19,19⟩∧cs=cs)∧I x61 w60∧μ x61 w60 < μ (k:Int) wL):=by
    intro w hpk2 h
    refine h.sx (s:=cs) (qmh.getD k 0).toNat (by omega) (by omega) fun w h=>?_
    refine qn (qd (by omega) (by omega)) ?_
    refine ⟨⟨rfl,rfl,rfl,rfl,rfl,rfl⟩,hin (k+1) _ _ ⟨by omega,by omega,?_,?_⟩ (by omega)⟩
    · rw [qmj]; exact hpk2
    · rw [qmj]
      exact h.sub
   refine ⟨?_,?_⟩
   · refine hr.ldI ha hv ?_
     refine qch.c h hN hpk fun w hpk2 h=>⟨_,rfl,?_⟩
     exact fin w hpk2 h
   · refine qch.c h hN hpk fun w hpk2 h=>⟨_,rfl,?_⟩
     refine (h.rdb (⟨some ⟨ob,0,none⟩,19,19⟩:Sl)).ldI ha hv ?_
     exact fin w hpk2 h
  refine qnc (fun g=>?_) (fun g=>?_)
  · refine qaf.c h fun w h=>⟨rfl,?_⟩
    exact j3 (qkd 2 g2.2) w (by rw [if_pos (by omega)]) hp2 h
  · exact j3 g2.2 w (by rw [if_neg (by omega)]) hp2 h
 refine qnc (fun g=>?_) (fun g=>?_)
 · refine qaf.c h fun w h=>⟨rfl,?_⟩
   exact j2 (qkd 2 g1.2) w (by rw [if_pos (by omega)]) hp1 h
 · exact j2 g1.2 w (by rw [if_neg (by omega)]) hp1 h
theorem ref7_Block.c {K:Ending→World→Prop} (h:St F0 w0 w (dtA sb rb q most z :: ps)) [Rdb F0 w0 q ps 1 (u8s (byt V N))] (hN:N≤137438953472) (hp:z.1≤8 * N) (hm:most≤1000000) (hm0:0≤most) (hL:z.2.1.length≤1000000)
 (hk:∀ w',St F0 w0 w' (dtA sb rb q most (qsd (qi V (8 * N)) most z).2 :: ps)→K (.returned (.bool ((qsd (qi V (8 * N)) most z).1 && (qsd (qi V (8 * N)) most z).2.2.2 == 0))) w') :
 Calls Tryz.prog 234 ⟨[.pointer (some ⟨sb,0,none⟩)]⟩ w K:=by
 have hBl:(qi (V:Int) (8 * N)).length=8 * N:=qk _ _
 refine qfc (qsb.ok _ _ _ ?_)
 unfold qsb qsb.j1
 generalize hZ:qsd (qi V (8 * N)) most z=Zr at hk
 unfold qsd at hZ
 simp only at hZ
 refine qch.c h hN hp fun w hg h=>⟨_,rfl,?_⟩
 have go:=qmd (B:=qi V (8 * N)) (z:=z) 1
 generalize qse (qi V (8 * N)) 1 z=a at h hZ hg go ⊢
 refine qch.c h hN hg fun w hg2 h=>⟨_,rfl,?_⟩
 have go2:=qmd (B:=qi V (8 * N)) (z:=a.2) 2
 generalize qse (qi V (8 * N)) 2 a.2=k at h hZ hg2 go2 ⊢
 have hkL:k.2.2.1.length≤1000000:=by rw [go2,go]; exact hL
 unfold qsb.j2
 have h0:=h
 obtain ⟨o,h⟩:=qqs h
 refine qtd (h.fI ?_)
 refine qne (fun g=>?_) (fun g=>?_)
 · have g:k.2.2.2 ≠ 0:=by simpa using g
   rw [if_pos g] at hZ
   subst hZ
   exact hk w h0
 have g:k.2.2.2=0:=by simpa using g
 rw [if_neg (fun e=>e g)] at hZ
 have j3:∀ (y:Z) w,Zr=(a.1 == 1,y)→St F0 w0 w (dtA sb rb q most y :: ps)→qsb.j3 (some ⟨sb,0,none⟩) (a.1 == 1) (fun v w'=>K (.returned v) w') w:=by
  intro y w e h
  subst e
  simp only at hk
  unfold qsb.j3
  have h0:=h
  obtain ⟨o,h⟩:=qqs h
  refine qne (fun g=>?_) (fun g=>?_)
  · rw [g] at hk
    exact qtd (h.fI (hk w h0))
  · rw [g] at hk
    exact hk w h0
 refine qne (fun g1=>?_) (fun g1=>?_)
 · have g1:k.1=0:=by simpa using g1
   rw [if_pos g1] at hZ
   exact ref7_stored.c h0 hN hg2 hm hm0 hkL fun w h=>⟨rfl,j3 _ w hZ.symm h⟩
 have g1:¬ k.1=0:=by simpa using g1
 rw [if_neg g1] at hZ
 refine qne (fun g3=>?_) (fun g3=>?_)
 · have g3:k.1=1:=by simpa using g3
   rw [if_pos g3] at hZ
   refine qy.c h0 fun s t w hs ht h=>⟨s,t,rfl,?_⟩
   have h:St F0 w0 w (dtA sb rb q most k.2 :: qcc 1 t (ivs .i64 qve) :: qcc 1 s (ivs .i64 qzh) :: ps):=h.at2
   refine qvj.c (s:=s) (t:=t) (ll:=qzh) (dl:=qve) h (by rw [qeh]; decide) hN hg2 hm hkL fun w h=>⟨rfl,?_⟩
   exact j3 _ w hZ.symm (h.tail fun _ _ _ h=>h.drop.drop)
 have g3:¬ k.1=1:=by simpa using g3
 rw [if_neg g3] at hZ
 refine qne (fun g4=>?_) (fun g4=>?_)
 · have g4:k.1=2:=by simpa using g4
   rw [if_pos g4] at hZ
   have hlp:=zlens_p (B:=qi V (8 * N)) (z:=k.2) (by rw [hBl]; exact hg2)
   have hlo:=qao (B:=qi V (8 * N)) (z:=k.2)
   have hll:=zlens_len (B:=qi V (8 * N)) (z:=k.2)
   rw [hBl] at hlp
   refine qlm.c h0 hN hg2 (fun t11 l nl w e0 ht hnl hcap el h=>⟨⟨qgf t11.a t11.cap 0 1,nl - 0,t11.cap - 0⟩,⟨qgf t11.a t11.cap nl 1,t11.len - nl,t11.cap - nl⟩,rfl,?_⟩) (fun w e0 h=>⟨⟨none,0,0⟩,⟨none,0,0⟩,rfl,?_⟩)
   · have hll:=hll e0
     rw [if_neg (fun e=>e e0)] at hZ
     rw [el] at hZ hll
     simp only at hZ hll
     haveI:=h.drop.cutR t11 0 nl (t11.cap - 0) (ys:=l.take nl) hnl (by omega) hcap (by rw [List.drop_zero,Nat.sub_zero])
     haveI:=h.drop.cutR t11 nl t11.len (t11.cap - nl) (ys:=l.drop nl) (by omega) hnl hcap (by rw [List.take_of_length_le (by rw [List.length_drop]; omega)])
     refine qvj.c (s:=⟨qgf t11.a t11.cap 0 1,nl - 0,t11.cap - 0⟩) (t:=⟨qgf t11.a t11.cap nl 1,t11.len - nl,t11.cap - nl⟩) (ll:=l.take nl) (dl:=l.drop nl) h (by omega) hN hlp.2 hm (by rw [hlo]; exact hkL) fun w h=>⟨rfl,?_⟩
     exact j3 _ w hZ.symm (h.tail fun _ _ _ h=>h.drop)
   · rw [if_pos e0] at hZ
     refine qfc (qf.ok _ ⟨none,0,0⟩ ⟨none,0,0⟩ _ _ ?_)
     unfold qf
     have h0:=h
     obtain ⟨o,h⟩:=qqs h
     refine qtd (h.fI (qde (by simpa using e0) ⟨rfl,?_⟩))
     exact j3 _ w hZ.symm h0
 have g4:¬ k.1=2:=by simpa using g4
 rw [if_neg g4] at hZ
 exact qaf.c h0 fun w h=>⟨rfl,j3 _ w hZ.symm h⟩
theorem qob.c {s:Sl} {K:Ending→World→Prop} {z':Z} (h:St F0 w0 w ps) [Rdb F0 w0 s ps 1 (u8s (byt V N))] (hN:N≤137438953472) (hm:most≤262144) (hm0:0≤most) (hr:zinf V N most z')
 (hk:∀ t w',z'.2.2=0→t.len=z'.2.1.length→t.len≤t.cap→St F0 w0 w' (rdA 1 t (u8s z'.2.1) :: ps)→K (.returned (.tuple ⟨[.slice t.a t.len t.cap,.int .i64 (((z'.1+7) / 8:Nat):Int),.int .i64 0]⟩)) w')
 (hk2:∀ w',z'.2.2 ≠ 0→St F0 w0 w' ps→K (.returned (.tuple ⟨[.slice none 0 0,.int .i64 0,.int .i64 z'.2.2]⟩)) w') :
 Calls Tryz.prog 181 ⟨[.slice s.a s.len s.cap,.int .i64 most]⟩ w K:=by
 have hBl:(qi (V:Int) (8 * N)).length=8 * N:=qk _ _
 obtain ⟨n,hr⟩:=hr
 refine qfc (qob.ok _ _ _ _ ?_)
 unfold qob qob.j1
 refine qnc (fun g=>by omega) fun _=>?_
 refine qnc (fun g=>by omega) fun _=>?_
 refine h.new fun rb w h=>?_
 refine h.new fun sb w h=>?_
 have h:=(h.nil 1).at2.at2
 have h:St F0 w0 w (qzc sb [.pointer (some ⟨rb,0,none⟩),.slice none 0 0,.int .i64 most,.int .i64 0] :: bitR rb (s,0) :: qcc 1 ⟨none,0,0⟩ (u8s []) :: ps):=h
 have h:St F0 w0 w (dtA sb rb s most (0,[],0) :: ps):=dt_c (o:=⟨none,0,0⟩) (p:=0) (out:=[]) (err:=0) h
 unfold qob.j2
 refine loop0 (fun (a:Nat × Z) w'=>a.2.1≤8 * N∧a.2.2.1.length≤1000000∧ZAll (qi V (8 * N)) most a.1 a.2 z'∧St F0 w0 w' (dtA sb rb s most a.2 :: ps)) (fun a=>a.1) (n,(0,[],0)) ⟨Nat.zero_le _,by simp,hr,h⟩ ?_
 clear h hr
 rintro ⟨m,z⟩ wL I μ ⟨hp,hL,hr,h⟩ hin
 simp only at hp hL hr h hin ⊢
 unfold qob.b1
 refine ref7_Block.c h hN hp (by omega) hm0 hL fun w h=>⟨_,rfl,?_⟩
 have hL2:=qbk (B:=qi V (8 * N)) (most:=most) (by omega) hL
 have hle:=(qem (most:=most) hBl (by rw [hBl]; exact hp)).2.1
 rw [hBl] at hle
 have h0:=h
 obtain ⟨o,h⟩:=qqs h
 cases hr with
 | bad he =>
   refine qde (by simp [he]) ?_
   refine qtd (h.fI (qde (by simpa using he) ?_))
   refine h.drewK fun w h=>?_
   exact qtd (h.fI (hk2 w he h.drop.drop.drop))
 | last he hl =>
   refine qle (by simp [he,hl]) ?_
   unfold qob.j3
   refine h.drewK fun w h=>?_
   have hcap:=h.at2.cap (by decide)
   have hol:=h.at2.len
   rw [ql] at hol
   refine qtd (qtd (h.fP ?_))
   have h2:St F0 w0 w (rfA rb s (qsd (qi V (8 * N)) most z).2.1 :: qzc sb [.pointer (some ⟨rb,0,none⟩),.slice o.a o.len o.cap,.int .i64 most,.int .i64 (qsd (qi V (8 * N)) most z).2.2.2] :: qcc 1 o (u8s (qsd (qi V (8 * N)) most z).2.2.1) :: ps):=h.at1
   have fin:=hk o w he (by omega) hcap (h.at2.ro.tail fun _ _ _ h=>h.drop.drop)
   refine ⟨?_,?_⟩
   · refine h.fL ?_
     exact qae.c (at':=(qsd (qi V (8 * N)) most z).2.1) h2 (by omega) ⟨_,rfl,fin⟩
   · refine qae.c (at':=(qsd (qi V (8 * N)) most z).2.1) h2 (by omega) ⟨_,rfl,?_⟩
     exact h.fL fin
 | next he hl hr =>
   rename_i n2
   refine qde (by simp [hl]) ?_
   refine qtd (h.fI (qle (by simpa using he) ?_))
   exact ⟨rfl,hin (n2,(qsd (qi V (8 * N)) most z).2) _ ⟨hle,hL2,hr,h0⟩ (by simp only; omega)⟩
end
end Go.Proofs.YtejnemneenjliaaGreat
namespace Go.Proofs.YtejnemneenjliaaGreat
open Go Go.Proofs
set_option linter.unusedVariables false
set_option linter.unusedSimpArgs false
attribute [local irreducible] apK cpK mkK
section
variable {F0:List Nat} {w0 w:World} {ps rest:List As} {xs:List Int}
theorem qil.d {s:Sl} {v:Int} {K:Ending→World→Prop} (h:St F0 w0 w ps) [Rdb F0 w0 s ps 1 (u8s xs)] (hL:xs.length≤1099511627776)
 (hk:∀ s' w',s'.len=xs.length+4→s'.cap=s'.len→St F0 w0 w' (rdA 1 s' (u8s (xs ++ beJ 4 4 v)) :: ps)→K (.returned (.slice s'.a s'.len s'.cap)) w'):Calls Tryz.prog 63 ⟨[.slice s.a s.len s.cap,.int .i64 v]⟩ w K:=by
 refine qfc (qil.ok _ _ _ _ ?_)
 unfold qil
 exact qlg.c (n:=4) h (h.rdb s) hL (by decide) fun s' w h1 h2 h=>⟨s',rfl,hk s' w h1 h2 h⟩
end
end Go.Proofs.YtejnemneenjliaaGreat
namespace Go.Proofs.YtejnemneenjliaaGreat
open Go Go.Proofs
set_option linter.unusedVariables false
set_option linter.unusedSimpArgs false
attribute [local irreducible] apK cpK mkK hs sumB rounds growW
theorem or32 {a b t m:Nat} (hm:m=2 ^ t) (ha:a < m) (hs:a+b * m < 4294967296):orV .u32 ((b * m:Nat):Int) (a:Int)=((a+b * m:Nat):Int):=by
 subst hm
 have h:=orV_uadd (k:=.u32) (a:=a) (b:=b) (t:=t) rfl ha hs
 rw [orV_comm]
 have e:((b * 2 ^ t:Nat):Int)=(b:Int) * 2 ^ t:=by simp
 rw [e,h,Int.natCast_add,e]
theorem shl32 {a t m:Nat} (hm:m=2 ^ t) (ht:t≤32) (hs:a * m < 4294967296):qqi .u32 (a:Int) (t:Int)=((a * m:Nat):Int):=by
 subst hm
 rw [shlV_u (k:=.u32) rfl ht hs]
 simp
theorem word_of {a b c d:Int} (ha:0≤a∧a < 256) (hb:0≤b∧b < 256) (hc:0≤c∧c < 256) (hd:0≤d∧d < 256) :
 orV .u32 (orV .u32 (orV .u32 (qqi .u32 a 24) (qqi .u32 b 16)) (qqi .u32 c 8)) d=be [a,b,c,d]:=by
 obtain ⟨a,rfl⟩:∃ n:Nat,a=n:=⟨a.toNat,by omega⟩
 obtain ⟨b,rfl⟩:∃ n:Nat,b=n:=⟨b.toNat,by omega⟩
 obtain ⟨c,rfl⟩:∃ n:Nat,c=n:=⟨c.toNat,by omega⟩
 obtain ⟨d,rfl⟩:∃ n:Nat,d=n:=⟨d.toNat,by omega⟩
 have h1:qqi .u32 (a:Int) 24=((a * 16777216:Nat):Int):=shl32 (t:=24) (by decide) (by decide) (by omega)
 have h2:qqi .u32 (b:Int) 16=((b * 65536:Nat):Int):=shl32 (t:=16) (by decide) (by decide) (by omega)
 have h3:qqi .u32 (c:Int) 8=((c * 256:Nat):Int):=shl32 (t:=8) (by decide) (by decide) (by omega)
 have u1:=or32 (a:=b * 65536) (b:=a) (t:=24) (m:=16777216) (by decide) (by omega) (by omega)
 have u2:=or32 (a:=c * 256) (b:=b+a * 256) (t:=16) (m:=65536) (by decide) (by omega) (by omega)
 have u3:=or32 (a:=d) (b:=c+(b+a * 256) * 256) (t:=8) (m:=256) (by decide) (by omega) (by omega)
 rw [show (b+a * 256) * 65536=b * 65536+a * 16777216 by omega] at u2
 rw [show (c+(b+a * 256) * 256) * 256=c * 256+(b * 65536+a * 16777216) by omega] at u3
 rw [h1,h2,h3,u1,u2,u3]
 simp only [be,List.foldl_cons,List.foldl_nil]
 omega
section
variable {F0:List Nat} {w0 w:World} {ps:List As}
end
end Go.Proofs.YtejnemneenjliaaGreat
namespace Go.Proofs.YtejnemneenjliaaGreat
open Go Go.Proofs
set_option linter.unusedVariables false
set_option maxRecDepth 100000
def qwc.j2 (x_5 y_6:Int) (Q:VWP) (w:World):Prop :=
 (0:Int)≤16 ∧
 lt (qqi .u32 y_6 16) fun x1 =>
 lt (orV .u32 x1 x_5) fun x2 =>
 Q (.int .u32 x2) w
def qwc.b1 (t13:Sl) (t14:Int) (x_5 y_6 t15:Int) (Q:VWP) (nx1:Sl→Int→Int→Int→Int→WP) (w:World):Prop :=
 br (decide (t15 < t14)) (
 ixS t13.a t13.len t15 1 fun a3 =>
 ldI .u8 w a3 fun x4 =>
 lt (IntKind.u32.wrap x4) fun x5 =>
 lt (IntKind.u32.wrap (x_5+x5)) fun x6 =>
 (65521:Int) ≠ 0 ∧
 lt (Int.tmod x6 65521) fun x7 =>
 lt (IntKind.u32.wrap (y_6+x7)) fun x8 =>
 (65521:Int) ≠ 0 ∧
 lt (Int.tmod x8 65521) fun x9 =>
 lt (IntKind.i64.wrap (t15+1)) fun x10 =>
 nx1 t13 t14 x7 x9 x10 w) (
 qwc.j2 x_5 y_6 Q w)
def qwc.l1 (t13:Sl) (t14:Int) (x_5 y_6 t15:Int) (Q:VWP) (w:World):Prop :=
 ∃ (I:Int→Int→Int→WP) (μ:Int→Int→Int→World→Nat),I x_5 y_6 t15 w∧∀ x_5:Int,∀ y_6:Int,∀ t15:Int,∀ w:World,I x_5 y_6 t15 w→qwc.b1 t13 t14 x_5 y_6 t15 Q (fun t13' t14' x_5' y_6' t15' w'=>(t13'=t13∧t14'=t14)∧I x_5' y_6' t15' w'∧μ x_5' y_6' t15' w' < μ x_5 y_6 t15 w) w
def qwc.j3 (x_5 y_6:Int) (t13:Sl) (t14 t15:Int) (Q:VWP) (w:World):Prop :=
 qwc.l1 t13 t14 x_5 y_6 t15 Q w
def qwc.j1 (b_1:Sl) (x_5:Int) (y_6:Int) (Q:VWP) (w:World):Prop :=
 qwc.j3 x_5 y_6 b_1 (b_1.len:Int) 0 Q w
def qwc (adler_0:Int) (b_1:Sl) (Q:VWP) (w:World):Prop :=
 lt (qli .u32 adler_0 65535) fun x11 =>
 (0:Int)≤16 ∧
 lt (qbj .u32 adler_0 16) fun x12 =>
 qwc.j1 b_1 x11 x12 Q w
theorem qwc.ok (adler_0:Int) (b_1:Sl) (Q:VWP) (w:World) (h:qwc adler_0 b_1 Q w):Calls Tryz.prog 229 ⟨[.int .u32 adler_0,sV b_1]⟩ w (Ret Q) :=
 qqc [.tmp 4] qbe Tryz.func229 rfl rfl rfl rfl (.pr 1 [sL 1,(5,.I .u32),(6,.I .u32)] (fun a b c w=>qwc.j1 a b c Q w) (.sq [(5,.I .u32),(6,.I .u32)] (fun a b w=>qwc.j2 a b Q w) (.sq [(5,.I .u32),(6,.I .u32),sL 13,sI 14,sI 15] (fun a b c d e w=>qwc.j3 a b c d e Q w) .lf (.bk (.lo [sL 13,sI 14] [(5,.I .u32),(6,.I .u32),sI 15] (fun a b c d e w=>qwc.l1 a b c d e Q w) (fun nx1 a b c d e w=>qwc.b1 a b c d e Q nx1 w) fun nx1=>.lf))) .lf)) (by kernel_rfl) h
def qdk (b_0:Sl) (Q:VWP) (w:World):Prop :=
 qum 229 [.int .u32 1,sV b_0] w fun r3 w2 =>
 Q (.int .u32 r3) w2
theorem qdk.ok (b_0:Sl) (Q:VWP) (w:World) (h:qdk b_0 Q w):Calls Tryz.prog 175 ⟨[sV b_0]⟩ w (Ret Q) :=
 qqc [.tmp 2] qbe Tryz.func175 rfl rfl rfl rfl .lf (by kernel_rfl) h
def qkb.j3 (s1_5 s2_6:Int) (Q:VWP) (w:World):Prop :=
 (0:Int)≤16 ∧
 lt (qqi .u32 s2_6 16) fun x1 =>
 lt (orV .u32 x1 s1_5) fun x2 =>
 Q (.int .u32 x2) w
def qkb.b1 (b_1:Sl) (s1_5:Int) (s2_6 i_7:Int) (Q:VWP) (nx1:Sl→Int→Int→Int→WP) (w:World):Prop :=
 br (decide (i_7 < (b_1.len:Int))) (
 ixS b_1.a b_1.len i_7 1 fun a3 =>
 ldI .u8 w a3 fun x4 =>
 lt (IntKind.u32.wrap x4) fun x5 =>
 lt (IntKind.u32.wrap (s1_5+x5)) fun x6 =>
 (65521:Int) ≠ 0 ∧
 lt (Int.tmod x6 65521) fun x7 =>
 lt (IntKind.u32.wrap (s2_6+x7)) fun x8 =>
 (65521:Int) ≠ 0 ∧
 lt (Int.tmod x8 65521) fun x9 =>
 lt (IntKind.i64.wrap (i_7+1)) fun x10 =>
 nx1 b_1 x7 x9 x10 w) (
 qkb.j3 s1_5 s2_6 Q w)
def qkb.l1 (b_1:Sl) (s1_5:Int) (s2_6 i_7:Int) (Q:VWP) (w:World):Prop :=
 ∃ (I:Int→Int→Int→WP) (μ:Int→Int→Int→World→Nat),I s1_5 s2_6 i_7 w∧∀ s1_5:Int,∀ s2_6:Int,∀ i_7:Int,∀ w:World,I s1_5 s2_6 i_7 w→qkb.b1 b_1 s1_5 s2_6 i_7 Q (fun b_1' s1_5' s2_6' i_7' w'=>(b_1'=b_1)∧I s1_5' s2_6' i_7' w'∧μ s1_5' s2_6' i_7' w' < μ s1_5 s2_6 i_7 w) w
def qkb.j4 (b_1:Sl) (s1_5:Int) (s2_6 i_7:Int) (Q:VWP) (w:World):Prop :=
 qkb.l1 b_1 s1_5 s2_6 i_7 Q w
def qkb.j2 (b_1:Sl) (s1_5:Int) (s2_6:Int) (Q:VWP) (w:World):Prop :=
 qkb.j4 b_1 s1_5 s2_6 0 Q w
def qkb.j1 (a_0:Int) (b_1:Sl) (Q:VWP) (w:World):Prop :=
 lt (qli .u32 a_0 65535) fun x11 =>
 (0:Int)≤16 ∧
 lt (qbj .u32 a_0 16) fun x12 =>
 qkb.j2 b_1 x11 x12 Q w
def qkb (a_0:Int) (b_1:Sl) (Q:VWP) (w:World):Prop :=
 qkb.j1 a_0 b_1 Q w
theorem qkb.ok (a_0:Int) (b_1:Sl) (Q:VWP) (w:World) (h:qkb a_0 b_1 Q w):Calls Tryz.prog 230 ⟨[.int .u32 a_0,sV b_1]⟩ w (Ret Q) :=
 qqc [.tmp 4] qbe Tryz.func230 rfl rfl rfl rfl (.sq [(0,.I .u32),sL 1] (fun a b w=>qkb.j1 a b Q w) .lf (.pr 1 [sL 1,(5,.I .u32),(6,.I .u32)] (fun a b c w=>qkb.j2 a b c Q w) (.sq [(5,.I .u32),(6,.I .u32)] (fun a b w=>qkb.j3 a b Q w) (.sq [sL 1,(5,.I .u32),(6,.I .u32),sI 7] (fun a b c d w=>qkb.j4 a b c d Q w) .lf (.bk (.lo [sL 1] [(5,.I .u32),(6,.I .u32),sI 7] (fun a b c d w=>qkb.l1 a b c d Q w) (fun nx1 a b c d w=>qkb.b1 a b c d Q nx1 w) fun nx1=>.lf))) .lf))) (by kernel_rfl) h
def qzf (b_0:Sl) (Q:VWP) (w:World):Prop :=
 qum 230 [.int .u32 1,sV b_0] w fun r3 w2 =>
 Q (.int .u32 r3) w2
theorem qzf.ok (b_0:Sl) (Q:VWP) (w:World) (h:qzf b_0 Q w):Calls Tryz.prog 177 ⟨[sV b_0]⟩ w (Ret Q) :=
 qqc [.tmp 2] qbe Tryz.func177 rfl rfl rfl rfl .lf (by kernel_rfl) h
end Go.Proofs.YtejnemneenjliaaGreat
namespace Go.Proofs.YtejnemneenjliaaGreat
open Go Go.Proofs
set_option linter.unusedVariables false
set_option maxRecDepth 100000
def qcb.j3 (w_3:OAd) (Q:VWP) (w:World):Prop :=
 qij 257 [.pointer w_3] w fun r3 w2 =>
 Q (sV r3) w2
def qcb.j10 (b_0:Sl) (w_3:OAd) (more_4:Bool) (k_5:Int) (Q:VWP) (nx1:OAd→Sl→Bool→WP) (w:World):Prop :=
 bd k_5 b_0.len fun n4 =>
 lt (⟨qgf b_0.a b_0.cap n4 1,b_0.len - n4,b_0.cap - n4⟩:Sl) fun s5 =>
 nx1 w_3 s5 more_4 w
def qcb.b2 (b_0:Sl) (w_3:OAd) (more_4:Bool) (k_5:Int) (t36:Sl) (t37:Int) (t38:Int) (Q:VWP) (nx1:OAd→Sl→Bool→WP) (nx2:Sl→OAd→Bool→Int→Sl→Int→Int→WP) (w:World):Prop :=
 br (decide (t38 < t37)) (
 ixS t36.a t36.len t38 1 fun a6 =>
 ldI .u8 w a6 fun x7 =>
 ct_ 256 [.pointer w_3,.int .u8 x7] w fun w9 =>
 lt (IntKind.i64.wrap (t38+1)) fun x10 =>
 nx2 b_0 w_3 more_4 k_5 t36 t37 x10 w9) (
 qcb.j10 b_0 w_3 more_4 k_5 Q nx1 w)
def qcb.l2 (b_0:Sl) (w_3:OAd) (more_4:Bool) (k_5:Int) (t36:Sl) (t37:Int) (t38:Int) (Q:VWP) (nx1:OAd→Sl→Bool→WP) (w:World):Prop :=
 ∃ (I:Int→WP) (μ:Int→World→Nat),I t38 w∧∀ t38:Int,∀ w:World,I t38 w→qcb.b2 b_0 w_3 more_4 k_5 t36 t37 t38 Q nx1 (fun b_0' w_3' more_4' k_5' t36' t37' t38' w'=>(b_0'=b_0∧w_3'=w_3∧more_4'=more_4∧k_5'=k_5∧t36'=t36∧t37'=t37)∧I t38' w'∧μ t38' w' < μ t38 w) w
def qcb.j11 (b_0:Sl) (w_3:OAd) (more_4:Bool) (k_5:Int) (t36:Sl) (t37:Int) (t38:Int) (Q:VWP) (nx1:OAd→Sl→Bool→WP) (w:World):Prop :=
 qcb.l2 b_0 w_3 more_4 k_5 t36 t37 t38 Q nx1 w
def qcb.j9 (b_0:Sl) (w_3:OAd) (more_4:Bool) (k_5:Int) (Q:VWP) (nx1:OAd→Sl→Bool→WP) (w:World):Prop :=
 bd k_5 b_0.cap fun n11 =>
 lt (⟨qgf b_0.a b_0.cap 0 1,n11 - 0,b_0.cap - 0⟩:Sl) fun s12 =>
 qcb.j11 b_0 w_3 more_4 k_5 s12 (s12.len:Int) 0 Q nx1 w
def qcb.j8 (b_0:Sl) (w_3:OAd) (more_4:Bool) (k_5:Int) (Q:VWP) (nx1:OAd→Sl→Bool→WP) (w:World):Prop :=
 ct_ 254 [.pointer w_3,.int .i64 k_5,.int .i64 16] w fun w14 =>
 lt (qyl .i64 (if IntKind.signed .i64 then -1 else IntKind.max .i64) k_5) fun x15 =>
 ct_ 254 [.pointer w_3,.int .i64 x15,.int .i64 16] w14 fun w17 =>
 qcb.j9 b_0 w_3 more_4 k_5 Q nx1 w17
def qcb.j7 (b_0:Sl) (w_3:OAd) (more_4:Bool) (k_5:Int) (last_6:Int) (Q:VWP) (nx1:OAd→Sl→Bool→WP) (w:World):Prop :=
 ct_ 254 [.pointer w_3,.int .i64 last_6,.int .i64 3] w fun w19 =>
 ct_ 255 [.pointer w_3] w19 fun w21 =>
 qcb.j8 b_0 w_3 more_4 k_5 Q nx1 w21
def qcb.j6 (b_0:Sl) (w_3:OAd) (more_4:Bool) (k_5:Int) (Q:VWP) (nx1:OAd→Sl→Bool→WP) (w:World):Prop :=
 br more_4 (
 qcb.j7 b_0 w_3 more_4 k_5 0 Q nx1 w) (
 qcb.j7 b_0 w_3 more_4 k_5 1 Q nx1 w)
def qcb.j5 (b_0:Sl) (w_3:OAd) (Q:VWP) (nx1:OAd→Sl→Bool→WP) (w:World):Prop :=
 lt (if (65535:Int) < (b_0.len:Int) then 65535 else (b_0.len:Int)) fun x22 =>
 qcb.j6 b_0 w_3 (decide (x22 < (b_0.len:Int))) x22 Q nx1 w
def qcb.b1 (w_3:OAd) (b_0:Sl) (more_4:Bool) (Q:VWP) (nx1:OAd→Sl→Bool→WP) (w:World):Prop :=
 br more_4 (
 qcb.j5 b_0 w_3 Q nx1 w) (
 qcb.j3 w_3 Q w)
def qcb.l1 (w_3:OAd) (b_0:Sl) (more_4:Bool) (Q:VWP) (w:World):Prop :=
 ∃ (I:Sl→Bool→WP) (μ:Sl→Bool→World→Nat),I b_0 more_4 w∧∀ b_0:Sl,∀ more_4:Bool,∀ w:World,I b_0 more_4 w→qcb.b1 w_3 b_0 more_4 Q (fun w_3' b_0' more_4' w'=>(w_3'=w_3)∧I b_0' more_4' w'∧μ b_0' more_4' w' < μ b_0 more_4 w) w
def qcb.j4 (b_0:Sl) (w_3:OAd) (more_4:Bool) (Q:VWP) (w:World):Prop :=
 qcb.l1 w_3 b_0 more_4 Q w
def qcb.j2 (b_0:Sl) (w_3:OAd) (Q:VWP) (w:World):Prop :=
 qcb.j4 b_0 w_3 true Q w
def qcb.j1 (b_0:Sl) (Q:VWP) (w:World):Prop :=
 br (decide ((b_0.len:Int) > 262144)) (
 Q (.slice none 0 0) w) (
 cr_P 253 [] w fun r25 w24 =>
 qcb.j2 b_0 r25 Q w24)
def qcb (b_0:Sl) (Q:VWP) (w:World):Prop :=
 qcb.j1 b_0 Q w
theorem qcb.ok (b_0:Sl) (Q:VWP) (w:World) (h:qcb b_0 Q w):Calls Tryz.prog 226 ⟨[sV b_0]⟩ w (Ret Q) :=
 qqc [.tmp 2] qbe Tryz.func226 rfl rfl rfl rfl (.sq [sL 0] (fun a w=>qcb.j1 a Q w) .lf (.pr 1 [sL 0,sP 3] (fun a b w=>qcb.j2 a b Q w) (.sq [sP 3] (fun a w=>qcb.j3 a Q w) (.sq [sL 0,sP 3,sB 4] (fun a b c w=>qcb.j4 a b c Q w) .lf (.bk (.lo [sP 3] [sL 0,sB 4] (fun a b c w=>qcb.l1 a b c Q w) (fun nx1 a b c w=>qcb.b1 a b c Q nx1 w) fun nx1=>(.sq [sL 0,sP 3] (fun a b w=>qcb.j5 a b Q nx1 w) .lf (.bk (.pr 1 [sL 0,sP 3,sB 4,sI 5] (fun a b c d w=>qcb.j6 a b c d Q nx1 w) (.pr 1 [sL 0,sP 3,sB 4,sI 5,sI 6] (fun a b c d e w=>qcb.j7 a b c d e Q nx1 w) (.pr 1 [sL 0,sP 3,sB 4,sI 5] (fun a b c d w=>qcb.j8 a b c d Q nx1 w) (.pr 1 [sL 0,sP 3,sB 4,sI 5] (fun a b c d w=>qcb.j9 a b c d Q nx1 w) (.sq [sL 0,sP 3,sB 4,sI 5] (fun a b c d w=>qcb.j10 a b c d Q nx1 w) (.sq [sL 0,sP 3,sB 4,sI 5,sL 36,sI 37,sI 38] (fun a b c d e f g w=>qcb.j11 a b c d e f g Q nx1 w) .lf (.bk (.lo [sL 0,sP 3,sB 4,sI 5,sL 36,sI 37] [sI 38] (fun a b c d e f g w=>qcb.l2 a b c d e f g Q nx1 w) (fun nx2 a b c d e f g w=>qcb.b2 a b c d e f g Q nx1 nx2 w) fun nx2=>.lf))) .lf)))))))))) .lf))) (by kernel_rfl) h
def qye.b1 (v_0:Int) (t6:Addr) (p_7:Addr) (k_8:Int) (Q:VWP) (nx1:Int→Addr→Addr→Int→WP) (w:World):Prop :=
 qmt 286 [.int .i64 k_8] w fun r3 r4 r5 w2 =>
 br (!r5) (
 ldA w2 p_7 3 fun c6 =>
 (c6).size=3 ∧
 stA w2 t6 c6 fun w7 =>
 ldA w7 t6 3 fun c8 =>
 Q (.agg c8) w7) (
 br (decide (r3 > v_0)) (
 ldA w2 p_7 3 fun c9 =>
 (c9).size=3 ∧
 stA w2 t6 c9 fun w10 =>
 ldA w10 t6 3 fun c11 =>
 Q (.agg c11) w10) (
 lt (IntKind.i64.wrap (v_0 - r3)) fun x12 =>
 ((⟨[.int .i64 k_8,.int .i64 x12,.int .i64 r4]⟩:Array Value)).size=3 ∧
 stA w2 p_7 (⟨[.int .i64 k_8,.int .i64 x12,.int .i64 r4]⟩:Array Value) fun w13 =>
 lt (IntKind.i64.wrap (k_8+1)) fun x14 =>
 nx1 v_0 t6 p_7 x14 w13))
def qye.l1 (v_0:Int) (t6:Addr) (p_7:Addr) (k_8:Int) (Q:VWP) (w:World):Prop :=
 ∃ (I:Int→WP) (μ:Int→World→Nat),I k_8 w∧∀ k_8:Int,∀ w:World,I k_8 w→qye.b1 v_0 t6 p_7 k_8 Q (fun v_0' t6' p_7' k_8' w'=>(v_0'=v_0∧t6'=t6∧p_7'=p_7)∧I k_8' w'∧μ k_8' w' < μ k_8 w) w
def qye.j2 (v_0:Int) (t6:Addr) (p_7:Addr) (k_8:Int) (Q:VWP) (w:World):Prop :=
 qye.l1 v_0 t6 p_7 k_8 Q w
def qye.j1 (v_0 from_1:Int) (t6:Addr) (Q:VWP) (w:World):Prop :=
 nw w (zc Tryz.prog 353) 353 fun a15 w16 =>
 ((⟨[.int .i64 0,.int .i64 0,.int .i64 0]⟩:Array Value)).size=3 ∧
 stA w16 a15 (⟨[.int .i64 0,.int .i64 0,.int .i64 0]⟩:Array Value) fun w17 =>
 qye.j2 v_0 t6 a15 from_1 Q w17
def qye (v_0 from_1:Int) (Q:VWP) (w:World):Prop :=
 nw w (zc Tryz.prog 353) 353 fun a18 w19 =>
 qye.j1 v_0 from_1 a18 Q w19
theorem qye.ok (v_0:Int) (from_1:Int) (Q:VWP) (w:World) (h:qye v_0 from_1 Q w):Calls Tryz.prog 285 ⟨[.int .i64 v_0,.int .i64 from_1,.func (.func 286) ⟨[]⟩ ⟨[]⟩]⟩ w (Ret Q) :=
 qqc [.cell 6 353] qbe Tryz.func285 rfl rfl rfl rfl (.sq [sI 0,sI 1,(2,.c0 286),sA 6] (fun a b _ c w=>qye.j1 a b c Q w) .lf (.pr 1 [sI 0,(2,.c0 286),sA 6,sA 7,sI 8] (fun a _ b c d w=>qye.j2 a b c d Q w) (.bk (.lo [sI 0,(2,.c0 286),sA 6,sA 7] [sI 8] (fun a _ b c d w=>qye.l1 a b c d Q w) (fun nx1 a _ b c d w=>qye.b1 a b c d Q (fun x0 x6 x7 x8 w=>nx1 x0 () x6 x7 x8 w) w) fun nx1=>.lf)))) (by kernel_rfl) h
def qze.b1 (v_0:Int) (t6:Addr) (p_7:Addr) (k_8:Int) (Q:VWP) (nx1:Int→Addr→Addr→Int→WP) (w:World):Prop :=
 qmt 287 [.int .i64 k_8] w fun r3 r4 r5 w2 =>
 br (!r5) (
 ldA w2 p_7 3 fun c6 =>
 (c6).size=3 ∧
 stA w2 t6 c6 fun w7 =>
 ldA w7 t6 3 fun c8 =>
 Q (.agg c8) w7) (
 br (decide (r3 > v_0)) (
 ldA w2 p_7 3 fun c9 =>
 (c9).size=3 ∧
 stA w2 t6 c9 fun w10 =>
 ldA w10 t6 3 fun c11 =>
 Q (.agg c11) w10) (
 lt (IntKind.i64.wrap (v_0 - r3)) fun x12 =>
 ((⟨[.int .i64 k_8,.int .i64 x12,.int .i64 r4]⟩:Array Value)).size=3 ∧
 stA w2 p_7 (⟨[.int .i64 k_8,.int .i64 x12,.int .i64 r4]⟩:Array Value) fun w13 =>
 lt (IntKind.i64.wrap (k_8+1)) fun x14 =>
 nx1 v_0 t6 p_7 x14 w13))
def qze.l1 (v_0:Int) (t6:Addr) (p_7:Addr) (k_8:Int) (Q:VWP) (w:World):Prop :=
 ∃ (I:Int→WP) (μ:Int→World→Nat),I k_8 w∧∀ k_8:Int,∀ w:World,I k_8 w→qze.b1 v_0 t6 p_7 k_8 Q (fun v_0' t6' p_7' k_8' w'=>(v_0'=v_0∧t6'=t6∧p_7'=p_7)∧I k_8' w'∧μ k_8' w' < μ k_8 w) w
def qze.j2 (v_0:Int) (t6:Addr) (p_7:Addr) (k_8:Int) (Q:VWP) (w:World):Prop :=
 qze.l1 v_0 t6 p_7 k_8 Q w
def qze.j1 (v_0 from_1:Int) (t6:Addr) (Q:VWP) (w:World):Prop :=
 nw w (zc Tryz.prog 353) 353 fun a15 w16 =>
 ((⟨[.int .i64 0,.int .i64 0,.int .i64 0]⟩:Array Value)).size=3 ∧
 stA w16 a15 (⟨[.int .i64 0,.int .i64 0,.int .i64 0]⟩:Array Value) fun w17 =>
 qze.j2 v_0 t6 a15 from_1 Q w17
def qze (v_0 from_1:Int) (Q:VWP) (w:World):Prop :=
 nw w (zc Tryz.prog 353) 353 fun a18 w19 =>
 qze.j1 v_0 from_1 a18 Q w19
theorem qze.ok (v_0:Int) (from_1:Int) (Q:VWP) (w:World) (h:qze v_0 from_1 Q w):Calls Tryz.prog 285 ⟨[.int .i64 v_0,.int .i64 from_1,.func (.func 287) ⟨[]⟩ ⟨[]⟩]⟩ w (Ret Q) :=
 qqc [.cell 6 353] qbe Tryz.func285 rfl rfl rfl rfl (.sq [sI 0,sI 1,(2,.c0 287),sA 6] (fun a b _ c w=>qze.j1 a b c Q w) .lf (.pr 1 [sI 0,(2,.c0 287),sA 6,sA 7,sI 8] (fun a _ b c d w=>qze.j2 a b c d Q w) (.bk (.lo [sI 0,(2,.c0 287),sA 6,sA 7] [sI 8] (fun a _ b c d w=>qze.l1 a b c d Q w) (fun nx1 a _ b c d w=>qze.b1 a b c d Q (fun x0 x6 x7 x8 w=>nx1 x0 () x6 x7 x8 w) w) fun nx1=>.lf)))) (by kernel_rfl) h
def qzi (t_0:(Array Value)) (Q:VWP) (w:World):Prop :=
 nw w t_0 351 fun a1 w2 =>
 nw w2 (zc Tryz.prog 353) 353 fun a3 w4 =>
 nw w4 (zc Tryz.prog 353) 353 fun a5 w6 =>
 ldI .i64 w6 (Addr.add a1 1) fun x7 =>
 br (x7 == 0) (
 ldI .u8 w6 (Addr.add a1 0) fun x8 =>
 lt (IntKind.i64.wrap x8) fun x9 =>
 ((⟨[.int .i64 x9,.int .i64 0,.int .i64 0]⟩:Array Value)).size=3 ∧
 stA w6 a3 (⟨[.int .i64 x9,.int .i64 0,.int .i64 0]⟩:Array Value) fun w10 =>
 ((⟨[.int .i64 0,.int .i64 0,.int .i64 0]⟩:Array Value)).size=3 ∧
 stA w10 a5 (⟨[.int .i64 0,.int .i64 0,.int .i64 0]⟩:Array Value) fun w11 =>
 ldA w11 a3 3 fun c12 =>
 ldA w11 a5 3 fun c13 =>
 Q (.tuple ⟨[.agg c12,.agg c13,.bool false]⟩) w11) (
 lt (World.drew w6) fun w14 =>
 ldI .i64 w14 (Addr.add a1 1) fun x15 =>
 (cr_G 285 [.int .i64 x15,.int .i64 257,.func (.func 286) ⟨[]⟩ ⟨[]⟩] w14 fun r18 w17 =>
 ldI .i64 w17 (Addr.add a1 2) fun x19 =>
 cr_G 285 [.int .i64 x19,.int .i64 0,.func (.func 287) ⟨[]⟩ ⟨[]⟩] w17 fun r22 w21 =>
 (r18).size=3 ∧
 stA w21 a3 r18 fun w23 =>
 (r22).size=3 ∧
 stA w23 a5 r22 fun w24 =>
 ldA w24 a3 3 fun c25 =>
 ldA w24 a5 3 fun c26 =>
 Q (.tuple ⟨[.agg c25,.agg c26,.bool true]⟩) w24)∧(
 ldI .i64 w14 (Addr.add a1 2) fun x27 =>
 cr_G 285 [.int .i64 x15,.int .i64 257,.func (.func 286) ⟨[]⟩ ⟨[]⟩] w14 fun r30 w29 =>
 cr_G 285 [.int .i64 x27,.int .i64 0,.func (.func 287) ⟨[]⟩ ⟨[]⟩] w29 fun r33 w32 =>
 (r30).size=3 ∧
 stA w32 a3 r30 fun w34 =>
 (r33).size=3 ∧
 stA w34 a5 r33 fun w35 =>
 ldA w35 a3 3 fun c36 =>
 ldA w35 a5 3 fun c37 =>
 Q (.tuple ⟨[.agg c36,.agg c37,.bool true]⟩) w35))
theorem qzi.ok (t_0:(Array Value)) (Q:VWP) (w:World) (h:qzi t_0 Q w):Calls Tryz.prog 249 ⟨[.agg t_0]⟩ w (Ret Q) :=
 qqc [.cell 2 353,.cell 3 353,.tmp 4] qbe Tryz.func249 rfl rfl rfl rfl .lf (by kernel_rfl) h
def qnd.j2 (k_3:OAd) (Q:VWP) (w:World):Prop :=
 nz k_3 fun a1 =>
 ldL w (Addr.add a1 1) fun x2 =>
 ixS x2.a x2.len 256 1 fun a3 =>
 ldI .i64 w a3 fun x4 =>
 lt (IntKind.i64.wrap (x4+1)) fun x5 =>
 ixS x2.a x2.len 256 1 fun a6 =>
 st w a6 (.int .i64 x5) fun w7 =>
 Q (.pointer k_3) w7
def qnd.b1 (k_3:OAd) (t14:Sl) (t15 t16:Int) (Q:VWP) (nx1:OAd→Sl→Int→Int→WP) (w:World):Prop :=
 br (decide (t16 < t15)) (
 ixS t14.a t14.len t16 3 fun a8 =>
 ldA w a8 3 fun c9 =>
 nw w (zc Tryz.prog 351) 351 fun a10 w11 =>
 (c9).size=3 ∧
 stA w11 a10 c9 fun w12 =>
 ldA w12 a10 3 fun c13 =>
 Calls Tryz.prog 249 ⟨[.agg c13]⟩ w12 fun e14 w15 =>
 ∃ r16:(Array Value),∃ r17:(Array Value),∃ r18:Bool,e14=.returned (.tuple ⟨[.agg r16,.agg r17,.bool r18]⟩) ∧
 nw w15 (zc Tryz.prog 353) 353 fun a19 w20 =>
 nw w20 (zc Tryz.prog 353) 353 fun a21 w22 =>
 (r16).size=3 ∧
 stA w22 a19 r16 fun w23 =>
 (r17).size=3 ∧
 stA w23 a21 r17 fun w24 =>
 lt (World.drew w24) fun w25 =>
 nz k_3 fun a26 =>
 ldL w25 (Addr.add a26 1) fun x27 =>
 ldI .i64 w25 (Addr.add a19 0) fun x28 =>
 ixS x27.a x27.len x28 1 fun a29 =>
 ldI .i64 w25 a29 fun x30 =>
 lt (IntKind.i64.wrap (x30+1)) fun x31 =>
 ixS x27.a x27.len x28 1 fun a32 =>
 st w25 a32 (.int .i64 x31) fun w33 =>
 br r18 (
 lt (World.drew w33) fun w34 =>
 nz k_3 fun a35 =>
 ldL w34 (Addr.add a35 2) fun x36 =>
 ldI .i64 w34 (Addr.add a21 0) fun x37 =>
 ixS x36.a x36.len x37 1 fun a38 =>
 ldI .i64 w34 a38 fun x39 =>
 lt (IntKind.i64.wrap (x39+1)) fun x40 =>
 ixS x36.a x36.len x37 1 fun a41 =>
 st w34 a41 (.int .i64 x40) fun w42 =>
 lt (IntKind.i64.wrap (t16+1)) fun x43 =>
 nx1 k_3 t14 t15 x43 w42) (
 lt (IntKind.i64.wrap (t16+1)) fun x44 =>
 nx1 k_3 t14 t15 x44 w33)) (
 qnd.j2 k_3 Q w)
def qnd.l1 (k_3:OAd) (t14:Sl) (t15 t16:Int) (Q:VWP) (w:World):Prop :=
 ∃ (I:Int→WP) (μ:Int→World→Nat),I t16 w∧∀ t16:Int,∀ w:World,I t16 w→qnd.b1 k_3 t14 t15 t16 Q (fun k_3' t14' t15' t16' w'=>(k_3'=k_3∧t14'=t14∧t15'=t15)∧I t16' w'∧μ t16' w' < μ t16 w) w
def qnd.j3 (k_3:OAd) (t14:Sl) (t15 t16:Int) (Q:VWP) (w:World):Prop :=
 qnd.l1 k_3 t14 t15 t16 Q w
def qnd.j1 (l_0:Sl) (k_3:OAd) (Q:VWP) (w:World):Prop :=
 qnd.j3 k_3 l_0 (l_0.len:Int) 0 Q w
def qnd (l_0:Sl) (Q:VWP) (w:World):Prop :=
 lt (World.drew w) fun w45 =>
 (mkK Tryz.prog 3 w45 286 286 fun s46 w47 =>
 mkK Tryz.prog 3 w47 30 30 fun s48 w49 =>
 nw w49 (⟨[sV l_0,sV s46,sV s48]⟩:Array Value) 349 fun a50 w51 =>
 qnd.j1 l_0 (some a50) Q w51)∧(
 mkK Tryz.prog 3 w45 30 30 fun s52 w53 =>
 mkK Tryz.prog 3 w53 286 286 fun s54 w55 =>
 nw w55 (⟨[sV l_0,sV s54,sV s52]⟩:Array Value) 349 fun a56 w57 =>
 qnd.j1 l_0 (some a56) Q w57)
theorem qnd.ok (l_0:Sl) (Q:VWP) (w:World) (h:qnd l_0 Q w):Calls Tryz.prog 224 ⟨[sV l_0]⟩ w (Ret Q) :=
 qqc [.tmp 2] qbe Tryz.func224 rfl rfl rfl rfl (.pr 1 [sL 0,sP 3] (fun a b w=>qnd.j1 a b Q w) (.sq [sP 3] (fun a w=>qnd.j2 a Q w) (.sq [sP 3,sL 14,sI 15,sI 16] (fun a b c d w=>qnd.j3 a b c d Q w) .lf (.bk (.lo [sP 3,sL 14,sI 15] [sI 16] (fun a b c d w=>qnd.l1 a b c d Q w) (fun nx1 a b c d w=>qnd.b1 a b c d Q nx1 w) fun nx1=>.lf))) .lf)) (by kernel_rfl) h
def qkc.j1 (w_1 lit_2:OAd) (Q:VWP) (w:World):Prop :=
 cr_B 266 [.pointer lit_2,.pointer w_1,.int .i64 256] w fun r3 w2 =>
 Q (.tuple ⟨[]⟩) w2
def qkc.b1 (w_1 lit_2 dist_3:OAd) (t16:Sl) (t17 t18:Int) (Q:VWP) (nx1:OAd→OAd→OAd→Sl→Int→Int→WP) (w:World):Prop :=
 br (decide (t18 < t17)) (
 ixS t16.a t16.len t18 3 fun a4 =>
 ldA w a4 3 fun c5 =>
 nw w (zc Tryz.prog 351) 351 fun a6 w7 =>
 (c5).size=3 ∧
 stA w7 a6 c5 fun w8 =>
 ldA w8 a6 3 fun c9 =>
 Calls Tryz.prog 249 ⟨[.agg c9]⟩ w8 fun e10 w11 =>
 ∃ r12:(Array Value),∃ r13:(Array Value),∃ r14:Bool,e10=.returned (.tuple ⟨[.agg r12,.agg r13,.bool r14]⟩) ∧
 nw w11 (zc Tryz.prog 353) 353 fun a15 w16 =>
 nw w16 (zc Tryz.prog 353) 353 fun a17 w18 =>
 (r12).size=3 ∧
 stA w18 a15 r12 fun w19 =>
 (r13).size=3 ∧
 stA w19 a17 r13 fun w20 =>
 ldI .i64 w20 (Addr.add a15 0) fun x21 =>
 cr_B 266 [.pointer lit_2,.pointer w_1,.int .i64 x21] w20 fun r24 w23 =>
 br r14 (
 ldI .i64 w23 (Addr.add a15 1) fun x25 =>
 ldI .i64 w23 (Addr.add a15 2) fun x26 =>
 ct_ 254 [.pointer w_1,.int .i64 x25,.int .i64 x26] w23 fun w28 =>
 ldI .i64 w28 (Addr.add a17 0) fun x29 =>
 cr_B 266 [.pointer dist_3,.pointer w_1,.int .i64 x29] w28 fun r32 w31 =>
 ldI .i64 w31 (Addr.add a17 1) fun x33 =>
 ldI .i64 w31 (Addr.add a17 2) fun x34 =>
 ct_ 254 [.pointer w_1,.int .i64 x33,.int .i64 x34] w31 fun w36 =>
 lt (IntKind.i64.wrap (t18+1)) fun x37 =>
 nx1 w_1 lit_2 dist_3 t16 t17 x37 w36) (
 lt (IntKind.i64.wrap (t18+1)) fun x38 =>
 nx1 w_1 lit_2 dist_3 t16 t17 x38 w23)) (
 qkc.j1 w_1 lit_2 Q w)
def qkc.l1 (w_1 lit_2 dist_3:OAd) (t16:Sl) (t17 t18:Int) (Q:VWP) (w:World):Prop :=
 ∃ (I:Int→WP) (μ:Int→World→Nat),I t18 w∧∀ t18:Int,∀ w:World,I t18 w→qkc.b1 w_1 lit_2 dist_3 t16 t17 t18 Q (fun w_1' lit_2' dist_3' t16' t17' t18' w'=>(w_1'=w_1∧lit_2'=lit_2∧dist_3'=dist_3∧t16'=t16∧t17'=t17)∧I t18' w'∧μ t18' w' < μ t18 w) w
def qkc.j2 (w_1 lit_2 dist_3:OAd) (t16:Sl) (t17 t18:Int) (Q:VWP) (w:World):Prop :=
 qkc.l1 w_1 lit_2 dist_3 t16 t17 t18 Q w
def qkc (k_0 w_1 lit_2 dist_3:OAd) (Q:VWP) (w:World):Prop :=
 nz k_0 fun a39 =>
 ldL w (Addr.add a39 0) fun x40 =>
 qkc.j2 w_1 lit_2 dist_3 x40 (x40.len:Int) 0 Q w
theorem qkc.ok (k_0:OAd) (w_1:OAd) (lit_2:OAd) (dist_3:OAd) (Q:VWP) (w:World) (h:qkc k_0 w_1 lit_2 dist_3 Q w):Calls Tryz.prog 260 ⟨[.pointer k_0,.pointer w_1,.pointer lit_2,.pointer dist_3]⟩ w (Ret Q) :=
 qqc [] qbe Tryz.func260 rfl rfl rfl rfl (.sq [sP 1,sP 2] (fun a b w=>qkc.j1 a b Q w) (.sq [sP 1,sP 2,sP 3,sL 16,sI 17,sI 18] (fun a b c d e f w=>qkc.j2 a b c d e f Q w) .lf (.bk (.lo [sP 1,sP 2,sP 3,sL 16,sI 17] [sI 18] (fun a b c d e f w=>qkc.l1 a b c d e f Q w) (fun nx1 a b c d e f w=>qkc.b1 a b c d e f Q nx1 w) fun nx1=>.lf))) .lf) (by kernel_rfl) h
def qcg (k_0:OAd) (Q:VWP) (w:World):Prop :=
 cr_P 253 [] w fun r3 w2 =>
 ct_ 254 [.pointer r3,.int .i64 3,.int .i64 3] w2 fun w5 =>
 ct_LL 258 [] w5 fun r8 r9 w7 =>
 ct_PI 259 [sV r8,.bool true] w7 fun r12 r13 w11 =>
 ct_PI 259 [sV r9,.bool true] w11 fun r16 r17 w15 =>
 ct_ 260 [.pointer k_0,.pointer r3,.pointer r12,.pointer r16] w15 fun w19 =>
 qij 257 [.pointer r3] w19 fun r22 w21 =>
 Q (sV r22) w21
theorem qcg.ok (k_0:OAd) (Q:VWP) (w:World) (h:qcg k_0 Q w):Calls Tryz.prog 227 ⟨[.pointer k_0]⟩ w (Ret Q) :=
 qqc [.tmp 2] qbe Tryz.func227 rfl rfl rfl rfl .lf (by kernel_rfl) h
def qjb.j2 (t3:Sl) (Q:VWP) (w:World):Prop :=
 Q (sV t3) w
def qjb.j7 (d_0 t3:Sl) (t4:Int) (t5:Int) (Q:VWP) (nx1:Sl→Sl→Int→WP) (w:World):Prop :=
 lt (IntKind.i64.wrap (t4+t5)) fun x1 =>
 nx1 d_0 t3 x1 w
def qjb.j10 (d_0 t3:Sl) (t4:Int) (t5:Int) (t73:Bool) (Q:VWP) (nx1:Sl→Sl→Int→WP) (w:World):Prop :=
 br t73 (
 lt (if (6:Int) < t5 then 6 else t5) fun x15 =>
 lt (IntKind.i64.wrap (x15 - 3)) fun x16 =>
 ((⟨[.int .i64 16,.int .i64 x16,.int .i64 2]⟩:Array Value)).size=3 ∧
 nw w ⟨(spl [.int .i64 0,.int .i64 0,.int .i64 0] 0 (⟨[.int .i64 16,.int .i64 x16,.int .i64 2]⟩:Array Value))⟩ 353 fun a17 w18 =>
 rdO w18 (some a17) (1 * 3) fun c19 =>
 apK Tryz.prog 353 w18 t3.a t3.len t3.cap 1 c19 fun s20 w21 =>
 qjb.j7 d_0 s20 t4 x15 Q nx1 w21) (
 ixS d_0.a d_0.len t4 1 fun a22 =>
 ldI .i64 w a22 fun x23 =>
 ((⟨[.int .i64 x23,.int .i64 0,.int .i64 0]⟩:Array Value)).size=3 ∧
 nw w ⟨(spl [.int .i64 0,.int .i64 0,.int .i64 0] 0 (⟨[.int .i64 x23,.int .i64 0,.int .i64 0]⟩:Array Value))⟩ 353 fun a24 w25 =>
 rdO w25 (some a24) (1 * 3) fun c26 =>
 apK Tryz.prog 353 w25 t3.a t3.len t3.cap 1 c26 fun s27 w28 =>
 qjb.j7 d_0 s27 t4 1 Q nx1 w28)
def qjb.j9 (d_0 t3:Sl) (t4:Int) (t5:Int) (t57:Bool) (Q:VWP) (nx1:Sl→Sl→Int→WP) (w:World):Prop :=
 br t57 (
 lt (IntKind.i64.wrap (t5 - 3)) fun x9 =>
 ((⟨[.int .i64 17,.int .i64 x9,.int .i64 3]⟩:Array Value)).size=3 ∧
 nw w ⟨(spl [.int .i64 0,.int .i64 0,.int .i64 0] 0 (⟨[.int .i64 17,.int .i64 x9,.int .i64 3]⟩:Array Value))⟩ 353 fun a10 w11 =>
 rdO w11 (some a10) (1 * 3) fun c12 =>
 apK Tryz.prog 353 w11 t3.a t3.len t3.cap 1 c12 fun s13 w14 =>
 qjb.j7 d_0 s13 t4 t5 Q nx1 w14) (
 lt (World.drew w) fun w29 =>
 br (decide (t4 > 0)) (
 ixS d_0.a d_0.len t4 1 fun a30 =>
 ldI .i64 w29 a30 fun x31 =>
 lt (IntKind.i64.wrap (t4 - 1)) fun x32 =>
 ixS d_0.a d_0.len x32 1 fun a33 =>
 ldI .i64 w29 a33 fun x34 =>
 br (x31 == x34) (
 qjb.j10 d_0 t3 t4 t5 (decide (t5 ≥ 3)) Q nx1 w29) (
 qjb.j10 d_0 t3 t4 t5 false Q nx1 w29)) (
 qjb.j10 d_0 t3 t4 t5 false Q nx1 w29))
def qjb.j8 (d_0 t3:Sl) (t4:Int) (t5:Int) (t39:Bool) (Q:VWP) (nx1:Sl→Sl→Int→WP) (w:World):Prop :=
 br t39 (
 lt (if (138:Int) < t5 then 138 else t5) fun x2 =>
 lt (IntKind.i64.wrap (x2 - 11)) fun x3 =>
 ((⟨[.int .i64 18,.int .i64 x3,.int .i64 7]⟩:Array Value)).size=3 ∧
 nw w ⟨(spl [.int .i64 0,.int .i64 0,.int .i64 0] 0 (⟨[.int .i64 18,.int .i64 x3,.int .i64 7]⟩:Array Value))⟩ 353 fun a4 w5 =>
 rdO w5 (some a4) (1 * 3) fun c6 =>
 apK Tryz.prog 353 w5 t3.a t3.len t3.cap 1 c6 fun s7 w8 =>
 qjb.j7 d_0 s7 t4 x2 Q nx1 w8) (
 ixS d_0.a d_0.len t4 1 fun a35 =>
 ldI .i64 w a35 fun x36 =>
 br (x36 == 0) (
 qjb.j9 d_0 t3 t4 t5 (decide (t5 ≥ 3)) Q nx1 w) (
 qjb.j9 d_0 t3 t4 t5 false Q nx1 w))
def qjb.j6 (d_0 t3:Sl) (t4:Int) (t5:Int) (Q:VWP) (nx1:Sl→Sl→Int→WP) (w:World):Prop :=
 ixS d_0.a d_0.len t4 1 fun a37 =>
 ldI .i64 w a37 fun x38 =>
 br (x38 == 0) (
 qjb.j8 d_0 t3 t4 t5 (decide (t5 ≥ 11)) Q nx1 w) (
 qjb.j8 d_0 t3 t4 t5 false Q nx1 w)
def qjb.b2 (d_0 t3:Sl) (t4:Int) (t5:Int) (Q:VWP) (nx1:Sl→Sl→Int→WP) (nx2:Sl→Sl→Int→Int→WP) (w:World):Prop :=
 lt (World.drew w) fun w39 =>
 lt (IntKind.i64.wrap (t4+t5)) fun x40 =>
 br (decide (x40 < (d_0.len:Int))) (
 lt (IntKind.i64.wrap (t4+t5)) fun x41 =>
 ixS d_0.a d_0.len x41 1 fun a42 =>
 ldI .i64 w39 a42 fun x43 =>
 ixS d_0.a d_0.len t4 1 fun a44 =>
 ldI .i64 w39 a44 fun x45 =>
 br (x43 == x45) (
 lt (IntKind.i64.wrap (t5+1)) fun x46 =>
 nx2 d_0 t3 t4 x46 w39) (
 qjb.j6 d_0 t3 t4 t5 Q nx1 w39)) (
 qjb.j6 d_0 t3 t4 t5 Q nx1 w39)
def qjb.l2 (d_0 t3:Sl) (t4:Int) (t5:Int) (Q:VWP) (nx1:Sl→Sl→Int→WP) (w:World):Prop :=
 ∃ (I:Int→WP) (μ:Int→World→Nat),I t5 w∧∀ t5:Int,∀ w:World,I t5 w→qjb.b2 d_0 t3 t4 t5 Q nx1 (fun d_0' t3' t4' t5' w'=>(d_0'=d_0∧t3'=t3∧t4'=t4)∧I t5' w'∧μ t5' w' < μ t5 w) w
def qjb.j5 (d_0 t3:Sl) (t4:Int) (t5:Int) (Q:VWP) (nx1:Sl→Sl→Int→WP) (w:World):Prop :=
 qjb.l2 d_0 t3 t4 t5 Q nx1 w
def qjb.j4 (d_0 t3:Sl) (t4:Int) (Q:VWP) (nx1:Sl→Sl→Int→WP) (w:World):Prop :=
 qjb.j5 d_0 t3 t4 1 Q nx1 w
def qjb.b1 (d_0 t3:Sl) (t4:Int) (Q:VWP) (nx1:Sl→Sl→Int→WP) (w:World):Prop :=
 br (decide (t4 < (d_0.len:Int))) (
 qjb.j4 d_0 t3 t4 Q nx1 w) (
 qjb.j2 t3 Q w)
def qjb.l1 (d_0 t3:Sl) (t4:Int) (Q:VWP) (w:World):Prop :=
 ∃ (I:Sl→Int→WP) (μ:Sl→Int→World→Nat),I t3 t4 w∧∀ t3:Sl,∀ t4:Int,∀ w:World,I t3 t4 w→qjb.b1 d_0 t3 t4 Q (fun d_0' t3' t4' w'=>(d_0'=d_0)∧I t3' t4' w'∧μ t3' t4' w' < μ t3 t4 w) w
def qjb.j3 (d_0 t3:Sl) (t4:Int) (Q:VWP) (w:World):Prop :=
 qjb.l1 d_0 t3 t4 Q w
def qjb.j1 (d_0 t3:Sl) (Q:VWP) (w:World):Prop :=
 qjb.j3 d_0 t3 0 Q w
def qjb (d_0:Sl) (Q:VWP) (w:World):Prop :=
 qjb.j1 d_0 ⟨none,0,0⟩ Q w
theorem qjb.ok (d_0:Sl) (Q:VWP) (w:World) (h:qjb d_0 Q w):Calls Tryz.prog 263 ⟨[sV d_0]⟩ w (Ret Q) :=
 qqc [.tmp 2] qbe Tryz.func263 rfl rfl rfl rfl (.pr 1 [sL 0,sL 3] (fun a b w=>qjb.j1 a b Q w) (.sq [sL 3] (fun a w=>qjb.j2 a Q w) (.sq [sL 0,sL 3,sI 4] (fun a b c w=>qjb.j3 a b c Q w) .lf (.bk (.lo [sL 0] [sL 3,sI 4] (fun a b c w=>qjb.l1 a b c Q w) (fun nx1 a b c w=>qjb.b1 a b c Q nx1 w) fun nx1=>(.sq [sL 0,sL 3,sI 4] (fun a b c w=>qjb.j4 a b c Q nx1 w) .lf (.bk (.sq [sL 0,sL 3,sI 4,sI 5] (fun a b c d w=>qjb.j5 a b c d Q nx1 w) .lf (.sq [sL 0,sL 3,sI 4,sI 5] (fun a b c d w=>qjb.j6 a b c d Q nx1 w) (.bk (.lo [sL 0,sL 3,sI 4] [sI 5] (fun a b c d w=>qjb.l2 a b c d Q nx1 w) (fun nx2 a b c d w=>qjb.b2 a b c d Q nx1 nx2 w) fun nx2=>.lf)) (.sq [sL 0,sL 3,sI 4,sI 5] (fun a b c d w=>qjb.j7 a b c d Q nx1 w) (.bk (.sq [sL 0,sL 3,sI 4,sI 5,sB 39] (fun a b c d e w=>qjb.j8 a b c d e Q nx1 w) .lf (.cd .lf (.sq [sL 0,sL 3,sI 4,sI 5,sB 57] (fun a b c d e w=>qjb.j9 a b c d e Q nx1 w) .lf (.cd .lf (.sq [sL 0,sL 3,sI 4,sI 5,sB 73] (fun a b c d e w=>qjb.j10 a b c d e Q nx1 w) .lf .lf)))))) .lf)))))))) .lf)) (by kernel_rfl) h
def qxd.j2 (l_0:Sl) (Q:VWP) (w:World):Prop :=
 Q (sV l_0) w
def qxd.b1 (least_1:Int) (l_0:Sl) (Q:VWP) (nx1:Int→Sl→WP) (w:World):Prop :=
 br (decide ((l_0.len:Int) > least_1)) (
 lt (IntKind.i64.wrap ((l_0.len:Int) - 1)) fun x1 =>
 ixS l_0.a l_0.len x1 1 fun a2 =>
 ldI .i64 w a2 fun x3 =>
 br (x3 == 0) (
 lt (IntKind.i64.wrap ((l_0.len:Int) - 1)) fun x4 =>
 bd x4 l_0.cap fun n5 =>
 lt (⟨qgf l_0.a l_0.cap 0 1,n5 - 0,l_0.cap - 0⟩:Sl) fun s6 =>
 nx1 least_1 s6 w) (
 qxd.j2 l_0 Q w)) (
 qxd.j2 l_0 Q w)
def qxd.l1 (least_1:Int) (l_0:Sl) (Q:VWP) (w:World):Prop :=
 ∃ (I:Sl→WP) (μ:Sl→World→Nat),I l_0 w∧∀ l_0:Sl,∀ w:World,I l_0 w→qxd.b1 least_1 l_0 Q (fun least_1' l_0' w'=>(least_1'=least_1)∧I l_0' w'∧μ l_0' w' < μ l_0 w) w
def qxd.j1 (l_0:Sl) (least_1:Int) (Q:VWP) (w:World):Prop :=
 qxd.l1 least_1 l_0 Q w
def qxd (l_0:Sl) (least_1:Int) (Q:VWP) (w:World):Prop :=
 qxd.j1 l_0 least_1 Q w
theorem qxd.ok (l_0:Sl) (least_1:Int) (Q:VWP) (w:World) (h:qxd l_0 least_1 Q w):Calls Tryz.prog 262 ⟨[sV l_0,.int .i64 least_1]⟩ w (Ret Q) :=
 qqc [.tmp 4] qbe Tryz.func262 rfl rfl rfl rfl (.sq [sL 0,sI 1] (fun a b w=>qxd.j1 a b Q w) .lf (.sq [sL 0] (fun a w=>qxd.j2 a Q w) (.bk (.lo [sI 1] [sL 0] (fun a b w=>qxd.l1 a b Q w) (fun nx1 a b w=>qxd.b1 a b Q nx1 w) fun nx1=>.lf)) .lf)) (by kernel_rfl) h
def qac.j3 (m_3:Int) (Q:VWP) (w:World):Prop :=
 Q (.int .i64 m_3) w
def qac.b1 (x_0:Sl) (m_3:Int) (i_4:Int) (Q:VWP) (nx1:Sl→Int→Int→WP) (w:World):Prop :=
 br (decide (i_4 < (x_0.len:Int))) (
 ixS x_0.a x_0.len i_4 1 fun a1 =>
 ldI .i64 w a1 fun x2 =>
 lt (if (x2:Int) > m_3 then x2 else m_3) fun x3 =>
 lt (IntKind.i64.wrap (i_4+1)) fun x4 =>
 nx1 x_0 x3 x4 w) (
 qac.j3 m_3 Q w)
def qac.l1 (x_0:Sl) (m_3:Int) (i_4:Int) (Q:VWP) (w:World):Prop :=
 ∃ (I:Int→Int→WP) (μ:Int→Int→World→Nat),I m_3 i_4 w∧∀ m_3:Int,∀ i_4:Int,∀ w:World,I m_3 i_4 w→qac.b1 x_0 m_3 i_4 Q (fun x_0' m_3' i_4' w'=>(x_0'=x_0)∧I m_3' i_4' w'∧μ m_3' i_4' w' < μ m_3 i_4 w) w
def qac.j4 (x_0:Sl) (m_3:Int) (i_4:Int) (Q:VWP) (w:World):Prop :=
 qac.l1 x_0 m_3 i_4 Q w
def qac.j2 (x_0:Sl) (m_3:Int) (Q:VWP) (w:World):Prop :=
 qac.j4 x_0 m_3 1 Q w
def qac.j1 (x_0:Sl) (Q:VWP) (w:World):Prop :=
 br (decide ((x_0.len:Int) < 1)) (
 False) (
 ixS x_0.a x_0.len 0 1 fun a5 =>
 ldI .i64 w a5 fun x6 =>
 qac.j2 x_0 x6 Q w)
def qac (x_0:Sl) (Q:VWP) (w:World):Prop :=
 qac.j1 x_0 Q w
theorem qac.ok (x_0:Sl) (Q:VWP) (w:World) (h:qac x_0 Q w):Calls Tryz.prog 265 ⟨[sV x_0]⟩ w (Ret Q) :=
 qqc [.tmp 2] qbe Tryz.func265 rfl rfl rfl rfl (.sq [sL 0] (fun a w=>qac.j1 a Q w) .lf (.pr 1 [sL 0,sI 3] (fun a b w=>qac.j2 a b Q w) (.sq [sI 3] (fun a w=>qac.j3 a Q w) (.sq [sL 0,sI 3,sI 4] (fun a b c w=>qac.j4 a b c Q w) .lf (.bk (.lo [sL 0] [sI 3,sI 4] (fun a b c w=>qac.l1 a b c Q w) (fun nx1 a b c w=>qac.b1 a b c Q nx1 w) fun nx1=>.lf))) .lf))) (by kernel_rfl) h
def qc.j14 (d_0 t7 t9 t21:OAd) (Q:VWP) (w:World):Prop :=
 ct_ 260 [.pointer d_0,.pointer t21,.pointer t7,.pointer t9] w fun w2 =>
 qij 257 [.pointer t21] w2 fun r5 w4 =>
 Q (sV r5) w4
def qc.b1 (d_0 t7 t9 t17 t21:OAd) (t153:Sl) (t154 t155:Int) (Q:VWP) (nx1:OAd→OAd→OAd→OAd→OAd→Sl→Int→Int→WP) (w:World):Prop :=
 br (decide (t155 < t154)) (
 ixS t153.a t153.len t155 3 fun a6 =>
 ldA w a6 3 fun c7 =>
 nw w (zc Tryz.prog 353) 353 fun a8 w9 =>
 (c7).size=3 ∧
 stA w9 a8 c7 fun w10 =>
 ldI .i64 w10 (Addr.add a8 0) fun x11 =>
 cr_B 266 [.pointer t17,.pointer t21,.int .i64 x11] w10 fun r14 w13 =>
 ldI .i64 w13 (Addr.add a8 1) fun x15 =>
 ldI .i64 w13 (Addr.add a8 2) fun x16 =>
 ct_ 254 [.pointer t21,.int .i64 x15,.int .i64 x16] w13 fun w18 =>
 lt (IntKind.i64.wrap (t155+1)) fun x19 =>
 nx1 d_0 t7 t9 t17 t21 t153 t154 x19 w18) (
 qc.j14 d_0 t7 t9 t21 Q w)
def qc.l1 (d_0 t7 t9 t17 t21:OAd) (t153:Sl) (t154 t155:Int) (Q:VWP) (w:World):Prop :=
 ∃ (I:Int→WP) (μ:Int→World→Nat),I t155 w∧∀ t155:Int,∀ w:World,I t155 w→qc.b1 d_0 t7 t9 t17 t21 t153 t154 t155 Q (fun d_0' t7' t9' t17' t21' t153' t154' t155' w'=>(d_0'=d_0∧t7'=t7∧t9'=t9∧t17'=t17∧t21'=t21∧t153'=t153∧t154'=t154)∧I t155' w'∧μ t155' w' < μ t155 w) w
def qc.j15 (d_0 t7 t9 t17 t21:OAd) (t153:Sl) (t154 t155:Int) (Q:VWP) (w:World):Prop :=
 qc.l1 d_0 t7 t9 t17 t21 t153 t154 t155 Q w
def qc.j13 (d_0 t7 t9:OAd) (t11:Sl) (t17 t21:OAd) (Q:VWP) (w:World):Prop :=
 qc.j15 d_0 t7 t9 t17 t21 t11 (t11.len:Int) 0 Q w
def qc.b2 (d_0 t7 t9:OAd) (t11:Sl) (t15:Sl) (t17:OAd) (t21:OAd) (t140:Sl) (t141 t142:Int) (Q:VWP) (nx2:OAd→OAd→OAd→Sl→Sl→OAd→OAd→Sl→Int→Int→WP) (w:World):Prop :=
 br (decide (t142 < t141)) (
 ixS t140.a t140.len t142 1 fun a20 =>
 ldI .i64 w a20 fun x21 =>
 ixS t15.a t15.len x21 1 fun a22 =>
 ldI .i64 w a22 fun x23 =>
 ct_ 254 [.pointer t21,.int .i64 x23,.int .i64 3] w fun w25 =>
 lt (IntKind.i64.wrap (t142+1)) fun x26 =>
 nx2 d_0 t7 t9 t11 t15 t17 t21 t140 t141 x26 w25) (
 qc.j13 d_0 t7 t9 t11 t17 t21 Q w)
def qc.l2 (d_0 t7 t9:OAd) (t11:Sl) (t15:Sl) (t17:OAd) (t21:OAd) (t140:Sl) (t141 t142:Int) (Q:VWP) (w:World):Prop :=
 ∃ (I:Int→WP) (μ:Int→World→Nat),I t142 w∧∀ t142:Int,∀ w:World,I t142 w→qc.b2 d_0 t7 t9 t11 t15 t17 t21 t140 t141 t142 Q (fun d_0' t7' t9' t11' t15' t17' t21' t140' t141' t142' w'=>(d_0'=d_0∧t7'=t7∧t9'=t9∧t11'=t11∧t15'=t15∧t17'=t17∧t21'=t21∧t140'=t140∧t141'=t141)∧I t142' w'∧μ t142' w' < μ t142 w) w
def qc.j16 (d_0 t7 t9:OAd) (t11:Sl) (t15:Sl) (t17:OAd) (t21:OAd) (t140:Sl) (t141 t142:Int) (Q:VWP) (w:World):Prop :=
 qc.l2 d_0 t7 t9 t11 t15 t17 t21 t140 t141 t142 Q w
def qc.j12 (d_0 t7 t9:OAd) (t11:Sl) (t15:Sl) (t17:OAd) (t19:Sl) (t20:Int) (t21:OAd) (Q:VWP) (w:World):Prop :=
 bd t20 t19.cap fun n27 =>
 lt (⟨qgf t19.a t19.cap 0 1,n27 - 0,t19.cap - 0⟩:Sl) fun s28 =>
 qc.j16 d_0 t7 t9 t11 t15 t17 t21 s28 (s28.len:Int) 0 Q w
def qc.j11 (d_0:OAd) (t5:Sl) (t7 t9:OAd) (t11:Sl) (t15:Sl) (t17:OAd) (t19:Sl) (t20:Int) (t21:OAd) (Q:VWP) (w:World):Prop :=
 lt (IntKind.i64.wrap ((t5.len:Int) - 1)) fun x29 =>
 ct_ 254 [.pointer t21,.int .i64 x29,.int .i64 5] w fun w31 =>
 lt (IntKind.i64.wrap (t20 - 4)) fun x32 =>
 ct_ 254 [.pointer t21,.int .i64 x32,.int .i64 4] w31 fun w34 =>
 qc.j12 d_0 t7 t9 t11 t15 t17 t19 t20 t21 Q w34
def qc.j10 (d_0:OAd) (t3:Sl) (t5:Sl) (t7:OAd) (t9:OAd) (t11:Sl) (t15:Sl) (t17:OAd) (t19:Sl) (t20:Int) (t21:OAd) (Q:VWP) (w:World):Prop :=
 ct_ 254 [.pointer t21,.int .i64 5,.int .i64 3] w fun w36 =>
 lt (IntKind.i64.wrap ((t3.len:Int) - 256)) fun x37 =>
 lt (IntKind.i64.wrap (x37 - 1)) fun x38 =>
 ct_ 254 [.pointer t21,.int .i64 x38,.int .i64 5] w36 fun w40 =>
 qc.j11 d_0 t5 t7 t9 t11 t15 t17 t19 t20 t21 Q w40
def qc.j9 (d_0:OAd) (t3:Sl) (t5:Sl) (t7:OAd) (t9:OAd) (t11:Sl) (t15:Sl) (t17:OAd) (t19:Sl) (t20:Int) (Q:VWP) (w:World):Prop :=
 cr_P 253 [] w fun r43 w42 =>
 qc.j10 d_0 t3 t5 t7 t9 t11 t15 t17 t19 t20 r43 Q w42
def qc.b3 (d_0:OAd) (t3:Sl) (t5:Sl) (t7:OAd) (t9:OAd) (t11:Sl) (t15:Sl) (t17:OAd) (t19:Sl) (t20:Int) (Q:VWP) (nx3:OAd→Sl→Sl→OAd→OAd→Sl→Sl→OAd→Sl→Int→WP) (w:World):Prop :=
 br (decide (t20 > 4)) (
 lt (IntKind.i64.wrap (t20 - 1)) fun x44 =>
 ixS t19.a t19.len x44 1 fun a45 =>
 ldI .i64 w a45 fun x46 =>
 ixS t15.a t15.len x46 1 fun a47 =>
 ldI .i64 w a47 fun x48 =>
 br (x48 == 0) (
 lt (IntKind.i64.wrap (t20 - 1)) fun x49 =>
 nx3 d_0 t3 t5 t7 t9 t11 t15 t17 t19 x49 w) (
 qc.j9 d_0 t3 t5 t7 t9 t11 t15 t17 t19 t20 Q w)) (
 qc.j9 d_0 t3 t5 t7 t9 t11 t15 t17 t19 t20 Q w)
def qc.l3 (d_0:OAd) (t3:Sl) (t5:Sl) (t7:OAd) (t9:OAd) (t11:Sl) (t15:Sl) (t17:OAd) (t19:Sl) (t20:Int) (Q:VWP) (w:World):Prop :=
 ∃ (I:Int→WP) (μ:Int→World→Nat),I t20 w∧∀ t20:Int,∀ w:World,I t20 w→qc.b3 d_0 t3 t5 t7 t9 t11 t15 t17 t19 t20 Q (fun d_0' t3' t5' t7' t9' t11' t15' t17' t19' t20' w'=>(d_0'=d_0∧t3'=t3∧t5'=t5∧t7'=t7∧t9'=t9∧t11'=t11∧t15'=t15∧t17'=t17∧t19'=t19)∧I t20' w'∧μ t20' w' < μ t20 w) w
def qc.j8 (d_0:OAd) (t3:Sl) (t5:Sl) (t7:OAd) (t9:OAd) (t11:Sl) (t15:Sl) (t17:OAd) (t19:Sl) (t20:Int) (Q:VWP) (w:World):Prop :=
 qc.l3 d_0 t3 t5 t7 t9 t11 t15 t17 t19 t20 Q w
def qc.j7 (d_0:OAd) (t3:Sl) (t5:Sl) (t7:OAd) (t9:OAd) (t11:Sl) (t15:Sl) (t17:OAd) (Q:VWP) (w:World):Prop :=
 nw w ⟨[.int .i64 16,.int .i64 17,.int .i64 18,.int .i64 0,.int .i64 8,.int .i64 7,.int .i64 9,.int .i64 6,.int .i64 10,.int .i64 5,.int .i64 11,.int .i64 4,.int .i64 12,.int .i64 3,.int .i64 13,.int .i64 2,.int .i64 14,.int .i64 1,.int .i64 15]⟩ 3 fun a50 w51 =>
 qc.j8 d_0 t3 t5 t7 t9 t11 t15 t17 ⟨(some a50),19,19⟩ ((19:Nat):Int) Q w51
def qc.j6 (d_0:OAd) (t3:Sl) (t5:Sl) (t7:OAd) (t9:OAd) (t11:Sl) (t12:Sl) (Q:VWP) (w:World):Prop :=
 qwo 261 [sV t12,.int .i64 7] w fun r54 r55 w53 =>
 ct_PI 259 [sV r54,.bool false] w53 fun r58 r59 w57 =>
 qc.j7 d_0 t3 t5 t7 t9 t11 r54 r58 Q w57
def qc.j5 (d_0:OAd) (t3:Sl) (t5:Sl) (t7:OAd) (t9:OAd) (t11:Sl) (t12:Sl) (Q:VWP) (w:World):Prop :=
 qxi 265 [sV t12] w fun r62 w61 =>
 br (r62 == (t11.len:Int)) (
 ixS t11.a t11.len 0 3 fun a63 =>
 ldI .i64 w61 (Addr.add a63 0) fun x64 =>
 lt (IntKind.i64.wrap (x64+1)) fun x65 =>
 (2:Int) ≠ 0 ∧
 lt (Int.tmod x65 2) fun x66 =>
 ixS t12.a t12.len x66 1 fun a67 =>
 ldI .i64 w61 a67 fun x68 =>
 lt (IntKind.i64.wrap (x68+1)) fun x69 =>
 ixS t12.a t12.len x66 1 fun a70 =>
 st w61 a70 (.int .i64 x69) fun w71 =>
 qc.j6 d_0 t3 t5 t7 t9 t11 t12 Q w71) (
 qc.j6 d_0 t3 t5 t7 t9 t11 t12 Q w61)
def qc.b4 (d_0:OAd) (t3:Sl) (t5:Sl) (t7:OAd) (t9:OAd) (t11:Sl) (t12 t62:Sl) (t63:Int) (t64:Int) (Q:VWP) (nx4:OAd→Sl→Sl→OAd→OAd→Sl→Sl→Sl→Int→Int→WP) (w:World):Prop :=
 br (decide (t64 < t63)) (
 ixS t62.a t62.len t64 3 fun a72 =>
 ldA w a72 3 fun c73 =>
 nw w (zc Tryz.prog 353) 353 fun a74 w75 =>
 (c73).size=3 ∧
 stA w75 a74 c73 fun w76 =>
 ldI .i64 w76 (Addr.add a74 0) fun x77 =>
 ixS t12.a t12.len x77 1 fun a78 =>
 ldI .i64 w76 a78 fun x79 =>
 lt (IntKind.i64.wrap (x79+1)) fun x80 =>
 ixS t12.a t12.len x77 1 fun a81 =>
 st w76 a81 (.int .i64 x80) fun w82 =>
 lt (IntKind.i64.wrap (t64+1)) fun x83 =>
 nx4 d_0 t3 t5 t7 t9 t11 t12 t62 t63 x83 w82) (
 qc.j5 d_0 t3 t5 t7 t9 t11 t12 Q w)
def qc.l4 (d_0:OAd) (t3:Sl) (t5:Sl) (t7:OAd) (t9:OAd) (t11:Sl) (t12 t62:Sl) (t63:Int) (t64:Int) (Q:VWP) (w:World):Prop :=
 ∃ (I:Int→WP) (μ:Int→World→Nat),I t64 w∧∀ t64:Int,∀ w:World,I t64 w→qc.b4 d_0 t3 t5 t7 t9 t11 t12 t62 t63 t64 Q (fun d_0' t3' t5' t7' t9' t11' t12' t62' t63' t64' w'=>(d_0'=d_0∧t3'=t3∧t5'=t5∧t7'=t7∧t9'=t9∧t11'=t11∧t12'=t12∧t62'=t62∧t63'=t63)∧I t64' w'∧μ t64' w' < μ t64 w) w
def qc.j17 (d_0:OAd) (t3:Sl) (t5:Sl) (t7:OAd) (t9:OAd) (t11:Sl) (t12 t62:Sl) (t63:Int) (t64:Int) (Q:VWP) (w:World):Prop :=
 qc.l4 d_0 t3 t5 t7 t9 t11 t12 t62 t63 t64 Q w
def qc.j4 (d_0:OAd) (t3:Sl) (t5:Sl) (t7:OAd) (t9:OAd) (t11:Sl) (t12:Sl) (Q:VWP) (w:World):Prop :=
 qc.j17 d_0 t3 t5 t7 t9 t11 t12 t11 (t11.len:Int) 0 Q w
def qc.j3 (d_0:OAd) (t3:Sl) (t5:Sl) (t7:OAd) (t9:OAd) (Q:VWP) (w:World):Prop :=
 nw w ⟨[sV t3,sV t5]⟩ 88 fun a84 w85 =>
 qij 264 [.slice (some a84) 2 2] w85 fun r88 w87 =>
 qij 263 [sV r88] w87 fun r91 w90 =>
 mkK Tryz.prog 3 w90 19 19 fun s92 w93 =>
 qc.j4 d_0 t3 t5 t7 t9 r91 s92 Q w93
def qc.j2 (d_0:OAd) (t3:Sl) (t5:Sl) (t7:OAd) (Q:VWP) (w:World):Prop :=
 ct_PI 259 [sV t5,.bool true] w fun r96 r97 w95 =>
 qij 262 [sV t3,.int .i64 257] w95 fun r100 w99 =>
 qij 262 [sV t5,.int .i64 1] w99 fun r103 w102 =>
 qc.j3 d_0 r100 r103 t7 r96 Q w102
def qc.j1 (d_0:OAd) (t3:Sl) (Q:VWP) (w:World):Prop :=
 nz d_0 fun a104 =>
 ldL w (Addr.add a104 2) fun x105 =>
 qwo 261 [sV x105,.int .i64 15] w fun r108 r109 w107 =>
 ct_PI 259 [sV t3,.bool true] w107 fun r112 r113 w111 =>
 qc.j2 d_0 t3 r108 r112 Q w111
def qc (d_0:OAd) (Q:VWP) (w:World):Prop :=
 nz d_0 fun a114 =>
 ldL w (Addr.add a114 1) fun x115 =>
 qwo 261 [sV x115,.int .i64 15] w fun r118 r119 w117 =>
 qc.j1 d_0 r118 Q w117
theorem qc.ok (d_0:OAd) (Q:VWP) (w:World) (h:qc d_0 Q w):Calls Tryz.prog 228 ⟨[.pointer d_0]⟩ w (Ret Q) :=
 qqc [.tmp 2] qbe Tryz.func228 rfl rfl rfl rfl (.pr 1 [sP 0,sL 3] (fun a b w=>qc.j1 a b Q w) (.pr 1 [sP 0,sL 3,sL 5,sP 7] (fun a b c d w=>qc.j2 a b c d Q w) (.pr 1 [sP 0,sL 3,sL 5,sP 7,sP 9] (fun a b c d e w=>qc.j3 a b c d e Q w) (.pr 1 [sP 0,sL 3,sL 5,sP 7,sP 9,sL 11,sL 12] (fun a b c d e f g w=>qc.j4 a b c d e f g Q w) (.sq [sP 0,sL 3,sL 5,sP 7,sP 9,sL 11,sL 12] (fun a b c d e f g w=>qc.j5 a b c d e f g Q w) (.sq [sP 0,sL 3,sL 5,sP 7,sP 9,sL 11,sL 12,sL 62,sI 63,sI 64] (fun a b c d e f g h i j w=>qc.j17 a b c d e f g h i j Q w) .lf (.bk (.lo [sP 0,sL 3,sL 5,sP 7,sP 9,sL 11,sL 12,sL 62,sI 63] [sI 64] (fun a b c d e f g h i j w=>qc.l4 a b c d e f g h i j Q w) (fun nx4 a b c d e f g h i j w=>qc.b4 a b c d e f g h i j Q nx4 w) fun nx4=>.lf))) (.sq [sP 0,sL 3,sL 5,sP 7,sP 9,sL 11,sL 12] (fun a b c d e f g w=>qc.j6 a b c d e f g Q w) .lf (.pr 1 [sP 0,sL 3,sL 5,sP 7,sP 9,sL 11,sL 15,sP 17] (fun a b c d e f g h w=>qc.j7 a b c d e f g h Q w) (.pr 1 [sP 0,sL 3,sL 5,sP 7,sP 9,sL 11,sL 15,sP 17,sL 19,sI 20] (fun a b c d e f g h i j w=>qc.j8 a b c d e f g h i j Q w) (.sq [sP 0,sL 3,sL 5,sP 7,sP 9,sL 11,sL 15,sP 17,sL 19,sI 20] (fun a b c d e f g h i j w=>qc.j9 a b c d e f g h i j Q w) (.bk (.lo [sP 0,sL 3,sL 5,sP 7,sP 9,sL 11,sL 15,sP 17,sL 19] [sI 20] (fun a b c d e f g h i j w=>qc.l3 a b c d e f g h i j Q w) (fun nx3 a b c d e f g h i j w=>qc.b3 a b c d e f g h i j Q nx3 w) fun nx3=>.lf)) (.sq [sP 0,sL 3,sL 5,sP 7,sP 9,sL 11,sL 15,sP 17,sL 19,sI 20,sP 21] (fun a b c d e f g h i j k w=>qc.j10 a b c d e f g h i j k Q w) .lf (.pr 1 [sP 0,sL 5,sP 7,sP 9,sL 11,sL 15,sP 17,sL 19,sI 20,sP 21] (fun a b c d e f g h i j w=>qc.j11 a b c d e f g h i j Q w) (.pr 1 [sP 0,sP 7,sP 9,sL 11,sL 15,sP 17,sL 19,sI 20,sP 21] (fun a b c d e f g h i w=>qc.j12 a b c d e f g h i Q w) (.sq [sP 0,sP 7,sP 9,sL 11,sP 17,sP 21] (fun a b c d e f w=>qc.j13 a b c d e f Q w) (.sq [sP 0,sP 7,sP 9,sL 11,sL 15,sP 17,sP 21,sL 140,sI 141,sI 142] (fun a b c d e f g h i j w=>qc.j16 a b c d e f g h i j Q w) .lf (.bk (.lo [sP 0,sP 7,sP 9,sL 11,sL 15,sP 17,sP 21,sL 140,sI 141] [sI 142] (fun a b c d e f g h i j w=>qc.l2 a b c d e f g h i j Q w) (fun nx2 a b c d e f g h i j w=>qc.b2 a b c d e f g h i j Q nx2 w) fun nx2=>.lf))) (.sq [sP 0,sP 7,sP 9,sP 21] (fun a b c d w=>qc.j14 a b c d Q w) (.sq [sP 0,sP 7,sP 9,sP 17,sP 21,sL 153,sI 154,sI 155] (fun a b c d e f g h w=>qc.j15 a b c d e f g h Q w) .lf (.bk (.lo [sP 0,sP 7,sP 9,sP 17,sP 21,sL 153,sI 154] [sI 155] (fun a b c d e f g h w=>qc.l1 a b c d e f g h Q w) (fun nx1 a b c d e f g h w=>qc.b1 a b c d e f g h Q nx1 w) fun nx1=>.lf))) .lf)))))))))))))) (by kernel_rfl) h
def qmc.j3 (out_6:Sl) (Q:VWP) (w:World):Prop :=
 Q (sV out_6) w
def qmc.b1 (k_5:OAd) (t19:Sl) (t20:Int) (out_6:Sl) (t21:Int) (Q:VWP) (nx1:OAd→Sl→Int→Sl→Int→WP) (w:World):Prop :=
 br (decide (t21 < t20)) (
 ixS t19.a t19.len t21 1 fun a1 =>
 ldV w a1 fun x2 =>
 asFn x2 fun f3 b4 b5 =>
 whenB (plainF Tryz.prog f3) (
 qij f3 ((b4.toList ++ [.pointer k_5]) ++ b5.toList) w fun r8 w7 =>
 br (decide ((r8.len:Int) < (out_6.len:Int))) (
 lt (IntKind.i64.wrap (t21+1)) fun x9 =>
 nx1 k_5 t19 t20 r8 x9 w7) (
 lt (IntKind.i64.wrap (t21+1)) fun x10 =>
 nx1 k_5 t19 t20 out_6 x10 w7))) (
 qmc.j3 out_6 Q w)
def qmc.l1 (k_5:OAd) (t19:Sl) (t20:Int) (out_6:Sl) (t21:Int) (Q:VWP) (w:World):Prop :=
 ∃ (I:Sl→Int→WP) (μ:Sl→Int→World→Nat),I out_6 t21 w∧∀ out_6:Sl,∀ t21:Int,∀ w:World,I out_6 t21 w→qmc.b1 k_5 t19 t20 out_6 t21 Q (fun k_5' t19' t20' out_6' t21' w'=>(k_5'=k_5∧t19'=t19∧t20'=t20)∧I out_6' t21' w'∧μ out_6' t21' w' < μ out_6 t21 w) w
def qmc.j4 (k_5:OAd) (out_6:Sl) (t19:Sl) (t20:Int) (t21:Int) (Q:VWP) (w:World):Prop :=
 qmc.l1 k_5 t19 t20 out_6 t21 Q w
def qmc.j2 (k_5:OAd) (out_6:Sl) (Q:VWP) (w:World):Prop :=
 nw w ⟨[.func (.func 227) ⟨[]⟩ ⟨[]⟩,.func (.func 228) ⟨[]⟩ ⟨[]⟩]⟩ 325 fun a11 w12 =>
 qmc.j4 k_5 out_6 ⟨(some a11),2,2⟩ ((2:Nat):Int) 0 Q w12
def qmc.j1 (b_0:Sl) (effort_1:Int) (Q:VWP) (w:World):Prop :=
 qij 225 [sV b_0,.int .i64 effort_1] w fun r15 w14 =>
 cr_P 224 [sV r15] w14 fun r18 w17 =>
 qij 226 [sV b_0] w17 fun r21 w20 =>
 qmc.j2 r18 r21 Q w20
def qmc (b_0:Sl) (effort_1:Int) (Q:VWP) (w:World):Prop :=
 br (decide ((b_0.len:Int) > 262144)) (
 Q (.slice none 0 0) w) (
 qmc.j1 b_0 effort_1 Q w)
theorem qmc.ok (b_0:Sl) (effort_1:Int) (Q:VWP) (w:World) (h:qmc b_0 effort_1 Q w):Calls Tryz.prog 174 ⟨[sV b_0,.int .i64 effort_1]⟩ w (Ret Q) :=
 qqc [.tmp 4] qbe Tryz.func174 rfl rfl rfl rfl (.pr 1 [sL 0,sI 1] (fun a b w=>qmc.j1 a b Q w) (.pr 1 [sP 5,sL 6] (fun a b w=>qmc.j2 a b Q w) (.sq [sL 6] (fun a w=>qmc.j3 a Q w) (.sq [sP 5,sL 6,sL 19,sI 20,sI 21] (fun a b c d e w=>qmc.j4 a b c d e Q w) .lf (.bk (.lo [sP 5,sL 19,sI 20] [sL 6,sI 21] (fun a b c d e w=>qmc.l1 a b c d e Q w) (fun nx1 a b c d e w=>qmc.b1 a b c d e Q nx1 w) fun nx1=>.lf))) .lf))) (by kernel_rfl) h
def qak (b_0:Sl) (effort_1:Int) (Q:VWP) (w:World):Prop :=
 br (decide ((b_0.len:Int) > 262144)) (
 Q (.slice none 0 0) w) (
 nw w ⟨[.int .u8 120,.int .u8 156]⟩ 5 fun a1 w2 =>
 qij 174 [sV b_0,.int .i64 effort_1] w2 fun r5 w4 =>
 rdO w4 r5.a (r5.len * 1) fun c6 =>
 apK Tryz.prog 5 w4 (some a1) 2 2 r5.len c6 fun s7 w8 =>
 qum 175 [sV b_0] w8 fun r11 w10 =>
 lt (IntKind.i64.wrap r11) fun x12 =>
 qij 63 [sV s7,.int .i64 x12] w10 fun r15 w14 =>
 Q (sV r15) w14)
theorem qak.ok (b_0:Sl) (effort_1:Int) (Q:VWP) (w:World) (h:qak b_0 effort_1 Q w):Calls Tryz.prog 114 ⟨[sV b_0,.int .i64 effort_1]⟩ w (Ret Q) :=
 qqc [.tmp 4] qbe Tryz.func114 rfl rfl rfl rfl .lf (by kernel_rfl) h
def qhi (d_0:Sl) (i_1:Int) (Q:VWP) (w:World):Prop :=
 br (decide ((d_0.len:Int) < 2)) (
 Q (.tuple ⟨[.slice none 0 0,.int .i64 0,.int .i64 3]⟩) w) (
 lt (World.drew w) fun w1 =>
 ixS d_0.a d_0.len 0 1 fun a2 =>
 ldI .u8 w1 a2 fun x3 =>
 lt (qli .u8 x3 15) fun x4 =>
 br (x4 != 8) (
 Q (.tuple ⟨[.slice none 0 0,.int .i64 0,.int .i64 2]⟩) w1) (
 ixS d_0.a d_0.len 0 1 fun a5 =>
 ldI .u8 w1 a5 fun x6 =>
 (0:Int)≤4 ∧
 lt (qbj .u8 x6 4) fun x7 =>
 br (decide (x7 > 7)) (
 Q (.tuple ⟨[.slice none 0 0,.int .i64 0,.int .i64 2]⟩) w1) (
 ixS d_0.a d_0.len 0 1 fun a8 =>
 ldI .u8 w1 a8 fun x9 =>
 lt (IntKind.i64.wrap x9) fun x10 =>
 (0:Int)≤8 ∧
 lt (qqi .i64 x10 8) fun x11 =>
 ixS d_0.a d_0.len 1 1 fun a12 =>
 ldI .u8 w1 a12 fun x13 =>
 lt (IntKind.i64.wrap x13) fun x14 =>
 lt (orV .i64 x11 x14) fun x15 =>
 (31:Int) ≠ 0 ∧
 lt (Int.tmod x15 31) fun x16 =>
 br (x16 != 0) (
 Q (.tuple ⟨[.slice none 0 0,.int .i64 0,.int .i64 2]⟩) w1) (
 ixS d_0.a d_0.len 1 1 fun a17 =>
 ldI .u8 w1 a17 fun x18 =>
 lt (qli .u8 x18 32) fun x19 =>
 br (x19 != 0) (
 Q (.tuple ⟨[.slice none 0 0,.int .i64 0,.int .i64 2]⟩) w1) (
 bd 2 d_0.len fun n20 =>
 lt (⟨qgf d_0.a d_0.cap n20 1,d_0.len - n20,d_0.cap - n20⟩:Sl) fun s21 =>
 ct_LII 232 [sV s21,.int .i64 i_1] w1 fun r24 r25 r26 w23 =>
 br (r26 != 0) (
 Q (.tuple ⟨[.slice none 0 0,.int .i64 0,.int .i64 r26]⟩) w23) (
 lt (IntKind.i64.wrap (2+r25)) fun x27 =>
 bd x27 d_0.len fun n28 =>
 lt (⟨qgf d_0.a d_0.cap n28 1,d_0.len - n28,d_0.cap - n28⟩:Sl) fun s29 =>
 cr_P 149 [sV s29] w23 fun r32 w31 =>
 qxi 150 [.pointer r32] w31 fun r35 w34 =>
 qxi 154 [.pointer r32] w34 fun r38 w37 =>
 br (r38 != 0) (
 Q (.tuple ⟨[.slice none 0 0,.int .i64 0,.int .i64 3]⟩) w37) (
 lt (IntKind.u32.wrap r35) fun x39 =>
 qum 175 [sV r24] w37 fun r42 w41 =>
 br (x39 != r42) (
 Q (.tuple ⟨[.slice none 0 0,.int .i64 0,.int .i64 4]⟩) w41) (
 lt (IntKind.i64.wrap (2+r25)) fun x43 =>
 lt (IntKind.i64.wrap (x43+4)) fun x44 =>
 Q (.tuple ⟨[sV r24,.int .i64 x44,.int .i64 0]⟩) w41))))))))
theorem qhi.ok (d_0:Sl) (i_1:Int) (Q:VWP) (w:World) (h:qhi d_0 i_1 Q w):Calls Tryz.prog 179 ⟨[sV d_0,.int .i64 i_1]⟩ w (Ret Q) :=
 qqc [.tmp 4,.tmp 5,.tmp 6] qbe Tryz.func179 rfl rfl rfl rfl .lf (by kernel_rfl) h
end Go.Proofs.YtejnemneenjliaaGreat
namespace Go.Proofs.YtejnemneenjliaaGreat
open Go Go.Proofs
set_option linter.unusedVariables false
set_option linter.unusedSimpArgs false
attribute [local irreducible] apK cpK mkK br
def adS (p:Int × Int) (b:Int):Int × Int:=((p.1+b) % 65521,(p.2+(p.1+b) % 65521) % 65521)
def adP (xs:List Int):Int × Int:=xs.foldl adS (1,0)
def adV (xs:List Int):Int:=(adP xs).2 * 65536+(adP xs).1
theorem qyo (xs:List Int) (x:Int):adP (xs ++ [x])=adS (adP xs) x:=by simp [adP]
theorem adP_b:∀ xs:List Int,0≤(adP xs).1∧(adP xs).1 < 65521∧0≤(adP xs).2∧(adP xs).2 < 65521:=by
 refine qnl ?_ ?_
 · simp [adP]
 · intro xs x ih
   rw [qyo]
   unfold adS
   simp only
   omega
theorem adV_b (xs:List Int):0≤adV xs∧adV xs < 4294967296:=by
 have:=adP_b xs
 unfold adV
 omega
theorem adV_or (xs:List Int):orV .u32 (qqi .u32 (adP xs).2 16) (adP xs).1=adV xs:=by
 have hb:=adP_b xs
 unfold adV
 obtain ⟨x,hx⟩:∃ x:Nat,(adP xs).1=x:=⟨(adP xs).1.toNat,by omega⟩
 obtain ⟨y,hy⟩:∃ y:Nat,(adP xs).2=y:=⟨(adP xs).2.toNat,by omega⟩
 rw [hx,hy] at hb ⊢
 have h1:=shlV_u (k:=.u32) rfl (x:=y) (t:=16) (by decide) (by show y * 65536 < 4294967296; omega)
 have e16:(2:Int) ^ 16=65536:=by decide
 rw [e16] at h1
 rw [show ((16:Nat):Int)=16 from rfl] at h1
 rw [h1]
 have h2:=orV_uadd (k:=.u32) rfl (a:=x) (b:=y) (t:=16) (by show x < 65536; omega) (by show x+y * 65536 < 4294967296; omega)
 rw [e16] at h2
 have hc:orV .u32 ((y:Int) * 65536) (x:Int)=orV .u32 (x:Int) ((y:Int) * 65536):=by
  unfold orV
  rw [BitVec.or_comm]
 rw [hc,h2]
 omega
section
variable {F0:List Nat} {w0 w:World} {ps rest:List As} {s:Sl} {xs:List Int}
theorem qdk.c {K:Ending→World→Prop} (h:St F0 w0 w ps) [Rdb F0 w0 s ps 1 (u8s xs)] (hx:∀ x ∈ xs,0≤x∧x < 256) (hL:xs.length≤1000000000)
 (hk:∀ w',St F0 w0 w' ps→K (.returned (.int .u32 (adV xs))) w'):Calls Tryz.prog 175 ⟨[.slice s.a s.len s.cap]⟩ w K:=by
 have hl:=(h.rdb s).1
 rw [ql] at hl
 refine qfc (qdk.ok _ _ _ ?_)
 unfold qdk
 refine qfc (qwc.ok _ _ _ _ ?_)
 unfold qwc
 refine qn (show _=(1:Int) by decide) ⟨by decide,qn (show _=(0:Int) by decide) ?_⟩
 unfold qwc.j1 qwc.j3
 refine loop3 (fun (i:Nat) (x y i':Int) w'=>i'=i∧i≤xs.length∧x=(adP (xs.take i)).1∧y=(adP (xs.take i)).2∧St F0 w0 w' ps) (fun i=>xs.length - i) 0 ⟨rfl,by omega,rfl,rfl,h⟩ ?_
 clear h
 rintro i x y i' wL I μ ⟨rfl,hi,rfl,rfl,h⟩ hin
 have hb:=adP_b (xs.take i)
 unfold qwc.b1
 refine qnc (fun g=>?_) (fun g=>?_)
 · have hix:i < xs.length:=by omega
   have hxi:=hx _ (qee hix)
   refine h.lx (s:=s) i rfl hix ?_
   refine qn (show IntKind.u32.wrap (xs.getD i 0)=xs.getD i 0 by rw [qei]; omega) ?_
   refine qn (show IntKind.u32.wrap _=(adP (xs.take i)).1+xs.getD i 0 by rw [qei]; omega) ⟨by decide,?_⟩
   refine qn (qvn (by omega)) ?_
   refine qn (show IntKind.u32.wrap _=(adP (xs.take i)).2+((adP (xs.take i)).1+xs.getD i 0) % 65521 by rw [qei]; omega) ⟨by decide,?_⟩
   refine qn (qvn (by omega)) ?_
   refine qn (qd (by omega) (by omega)) ?_
   refine ⟨⟨rfl,rfl⟩,hin (i+1) _ _ _ _ ⟨by omega,by omega,?_,?_,h⟩ (by omega)⟩
   · rw [qji hix,qyo]; rfl
   · rw [qji hix,qyo]; rfl
 · have:i=xs.length:=by omega
   subst this
   rw [List.take_length]
   unfold qwc.j2
   refine ⟨by decide,que (qn (adV_or xs) ⟨_,rfl,hk wL h⟩)⟩
theorem qzf.c {K:Ending→World→Prop} (h:St F0 w0 w ps) [Rdb F0 w0 s ps 1 (u8s xs)] (hx:∀ x ∈ xs,0≤x∧x < 256) (hL:xs.length≤1000000000)
 (hk:∀ w',St F0 w0 w' ps→K (.returned (.int .u32 (adV xs))) w'):Calls Tryz.prog 177 ⟨[.slice s.a s.len s.cap]⟩ w K:=by
 have hl:=(h.rdb s).1
 rw [ql] at hl
 refine qfc (qzf.ok _ _ _ ?_)
 unfold qzf
 refine qfc (qkb.ok _ _ _ _ ?_)
 unfold qkb qkb.j1
 refine qn (show _=(1:Int) by decide) ⟨by decide,qn (show _=(0:Int) by decide) ?_⟩
 unfold qkb.j2 qkb.j4
 refine loop3 (fun (i:Nat) (x y i':Int) w'=>i'=i∧i≤xs.length∧x=(adP (xs.take i)).1∧y=(adP (xs.take i)).2∧St F0 w0 w' ps) (fun i=>xs.length - i) 0 ⟨rfl,by omega,rfl,rfl,h⟩ ?_
 clear h
 rintro i x y i' wL I μ ⟨rfl,hi,rfl,rfl,h⟩ hin
 have hb:=adP_b (xs.take i)
 unfold qkb.b1
 refine qnc (fun g=>?_) (fun g=>?_)
 · have hix:i < xs.length:=by omega
   have hxi:=hx _ (qee hix)
   refine h.lx (s:=s) i rfl hix ?_
   refine qn (show IntKind.u32.wrap (xs.getD i 0)=xs.getD i 0 by rw [qei]; omega) ?_
   refine qn (show IntKind.u32.wrap _=(adP (xs.take i)).1+xs.getD i 0 by rw [qei]; omega) ⟨by decide,?_⟩
   refine qn (qvn (by omega)) ?_
   refine qn (show IntKind.u32.wrap _=(adP (xs.take i)).2+((adP (xs.take i)).1+xs.getD i 0) % 65521 by rw [qei]; omega) ⟨by decide,?_⟩
   refine qn (qvn (by omega)) ?_
   refine qn (qd (by omega) (by omega)) ?_
   refine ⟨rfl,hin (i+1) _ _ _ _ ⟨by omega,by omega,?_,?_,h⟩ (by omega)⟩
   · rw [qji hix,qyo]; rfl
   · rw [qji hix,qyo]; rfl
 · have:i=xs.length:=by omega
   subst this
   rw [List.take_length]
   unfold qkb.j3
   refine ⟨by decide,que (qn (adV_or xs) ⟨_,rfl,hk wL h⟩)⟩
end
def allZ (z:Z):Prop:=∀ x ∈ z.2.1,0≤x∧x < 256
section
variable {B:List Bool} {most:Int} {z:Z}
theorem qpq {b:Int} (hb:0≤b∧b < 256) (h:allZ z):allZ (qqn most b z):=by
 unfold qqn
 split
 · exact h
 · split
   · exact h
   · intro x hx
     rcases List.mem_append.1 hx with hx | hx
     · exact h x hx
     · rw [List.mem_singleton] at hx
       subst hx
       exact hb
theorem qwk {z':Z} (e:z'.2.1=z.2.1) (h:allZ z):allZ z':=fun x hx=>h x (by rw [← e]; exact hx)
theorem zcp_allZ (d:Int):∀ (n:Nat) (z:Z),allZ z→allZ (zcp most d n z):=by
 intro n
 induction n with
 | zero=>intro z h; exact h
 | succ n ih =>
   intro z h
   rw [zcp]
   split
   · exact h
   · refine ih _ (qpq ?_ h)
     rcases Nat.lt_or_ge (z.2.1.length - d.toNat) z.2.1.length with h1 | h1
     · exact h _ (qee h1)
     · rw [List.getD,List.getElem?_eq_none h1]; decide
theorem zbehind_allZ (dl:List Int) (v:Int) (h:allZ z):allZ (zbehind dl B most v z):=by
 unfold zbehind
 simp only
 refine zcp_allZ _ _ _ ?_
 have e:(qse B (qyi (quj dl B (qse B (qlj v).2.1 (zok (qlj v).2.2 z)).2).1).2.1 (zok (qyi (quj dl B (qse B (qlj v).2.1 (zok (qlj v).2.2 z)).2).1).2.2 (quj dl B (qse B (qlj v).2.1 (zok (qlj v).2.2 z)).2).2)).2.2.1=z.2.1:=by
  rw [qmd,qkl,quh,qmd,qkl]
 split
 · exact qwk (z:=z) e h
 · exact qwk (z:=z) e h
theorem zcoded_allZ {ll dl:List Int}:∀ (f:Nat) (z:Z),allZ z→allZ (qie ll dl B most f z):=by
 intro f
 induction f with
 | zero=>intro z h; exact h
 | succ f ih =>
   intro z h
   rw [qie]
   split
   · exact h
   · simp only
     have hs:allZ (quj ll B z).2:=qwk (quh ll) h
     have hn:=zsym_nn (B:=B) (z:=z) ll
     generalize quj ll B z=s at hs hn ⊢
     split
     · exact hs
     · split
       · rename_i h2
         exact ih _ (qpq ⟨hn,h2⟩ hs)
       · exact ih _ (zbehind_allZ dl s.1 hs)
theorem zst_allZ:∀ (n:Nat) (z:Z),allZ z→allZ (zst B most n z):=by
 intro n
 induction n with
 | zero=>intro z h; exact h
 | succ n ih =>
   intro z h
   rw [zst]
   have hl:=qkj (B:=B) (z:=z) 8
   rw [show ((2:Int) ^ (8:Int).toNat)=256 by decide] at hl
   exact ih _ (qpq hl (qwk (qmd 8) h))
theorem zblk_allZ {ll dl:List Int} (h:allZ z):allZ (zblk ll dl B most z):=by
 unfold zblk
 simp only
 have e1:allZ (qxg dl (qxg ll (if z.2.2=0∧ll.getD 256 0=0 then qkd 2 z else z))):=by
  refine qwk (z:=z) ?_ h
  rw [qdo,qdo]
  split <;> rfl
 generalize qxg dl (qxg ll (if z.2.2=0∧ll.getD 256 0=0 then qkd 2 z else z))=z3 at e1 ⊢
 split
 · exact e1
 · exact zcoded_allZ _ _ e1
theorem qfm (h:allZ z):allZ (qsd B most z).2:=by
 unfold qsd
 simp only
 have h1:allZ (qse B 1 z).2:=qwk (qmd 1) h
 generalize qse B 1 z=a at h1 ⊢
 have h2:allZ (qse B 2 a.2).2:=qwk (qmd 2) h1
 generalize qse B 2 a.2=k at h2 ⊢
 split
 · exact h2
 · split
   · unfold zstored
     simp only
     have h3:allZ (qse B 16 (8 * ((k.2.1+7) / 8),k.2.2.1,k.2.2.2)).2:=qwk (z:=k.2) (qmd 16) h2
     generalize qse B 16 (8 * ((k.2.1+7) / 8),k.2.2.1,k.2.2.2)=g at h3 ⊢
     have h4:allZ (qse B 16 g.2).2:=qwk (qmd 16) h3
     generalize qse B 16 g.2=g2 at h4 ⊢
     split
     · exact h4
     · split
       · exact h4
       · split
         · exact h4
         · exact zst_allZ _ _ h4
   · split
     · exact zblk_allZ h2
     · split
       · have h5:allZ (qii B k.2).2:=qwk qao h2
         generalize qii B k.2=q at h5 ⊢
         split
         · exact h5
         · exact zblk_allZ h5
       · exact h2
theorem ZAll.allZ {n:Nat} {z z':Z} (h:ZAll B most n z z') (hz:Go.Proofs.YtejnemneenjliaaGreat.allZ z):Go.Proofs.YtejnemneenjliaaGreat.allZ z':=by
 induction h with
 | bad he=>exact qfm hz
 | last he hl=>exact qfm hz
 | next he hl hr ih=>exact ih (qfm hz)
end
theorem zinf_allZ {V N:Nat} {most:Int} {z':Z} (h:zinf V N most z'):allZ z':=by
 obtain ⟨n,h⟩:=h
 exact h.allZ (fun x hx=>by cases hx)
theorem zinf_len {V N:Nat} {most:Int} {z':Z} (h:zinf V N most z') (hm:most≤1000000):z'.2.1.length≤1000000:=by
 obtain ⟨n,h⟩:=h
 exact h.out hm (by simp)
theorem zinf_p {V N:Nat} {most:Int} {z':Z} (h:zinf V N most z'):z'.1≤8 * N:=by
 obtain ⟨n,h⟩:=h
 have hB:(qi (V:Int) (8 * N)).length=8 * N:=qk _ _
 have:∀ {n:Nat} {z z':Z},ZAll (qi (V:Int) (8 * N)) most n z z'→z.1≤8 * N→z'.1≤8 * N:=by
  intro n z z' h
  induction h with
  | bad he=>intro hz; have:=(qem (most:=most) hB (by rw [hB]; exact hz)).2.1; omega
  | last he hl=>intro hz; have:=(qem (most:=most) hB (by rw [hB]; exact hz)).2.1; omega
  | next he hl hr ih=>intro hz; have:=(qem (most:=most) hB (by rw [hB]; exact hz)).2.1; exact ih (by omega)
 exact this h (Nat.zero_le _)
def hdBad (a b:Int):Prop:=qli .u8 a 15 ≠ 8 ∨ 7 < qbj .u8 a 4 ∨ Int.tmod (orV .i64 (qqi .i64 a 8) b) 31 ≠ 0 ∨ qli .u8 b 32 ≠ 0
instance (a b:Int):Decidable (hdBad a b):=inferInstanceAs (Decidable (_ ∨ _))
def unpR (xs:List Int) (z':Z):List Int × Int × Int :=
 if z'.2.2 ≠ 0 then ([],0,z'.2.2) else if xs.length < 2+(z'.1+7) / 8+4 then ([],0,3)
 else if be ((xs.drop (2+(z'.1+7) / 8)).take 4) ≠ adV z'.2.1 then ([],0,4) else (z'.2.1,((2+(z'.1+7) / 8+4:Nat):Int),0)
def Unp (xs:List Int) (most:Int) (r:List Int × Int × Int):Prop :=
 if xs.length < 2 then r=([],0,3) else if hdBad (xs.getD 0 0) (xs.getD 1 0) then r=([],0,2) else if most < 0 ∨ 262144 < most then r=([],0,1)
 else ∃ V z',xs.drop 2=byt V (xs.length - 2)∧zinf V (xs.length - 2) most z'∧r=unpR xs z'
section
variable {F0:List Nat} {w0 w:World} {ps rest:List As} {s:Sl} {xs:List Int} {most:Int} {r:List Int × Int × Int}
theorem qhi.c {K:Ending→World→Prop} (h:St F0 w0 w ps) [Rdb F0 w0 s ps 1 (u8s xs)] (hx:∀ x ∈ xs,0≤x∧x < 256) (hL:xs.length≤1000000) (hc:s.len≤s.cap) (hr:Unp xs most r)
 (hk:∀ t w',t.len=r.1.length→(∀ x ∈ r.1,0≤x∧x < 256)→St F0 w0 w' (rdA 1 t (u8s r.1) :: ps)→K (.returned (.tuple ⟨[.slice t.a t.len t.cap,.int .i64 r.2.1,.int .i64 r.2.2]⟩)) w'):Calls Tryz.prog 179 ⟨[.slice s.a s.len s.cap,.int .i64 most]⟩ w K:=by
 have hl:=(h.rdb s).1
 rw [ql] at hl
 refine qfc (qhi.ok _ _ _ _ ?_)
 unfold qhi
 have no:∀ w (e:Int),St F0 w0 w ps→r=([],0,e)→K (.returned (.tuple ⟨[.slice none 0 0,.int .i64 0,.int .i64 e]⟩)) w:=by
  intro w e h er
  subst er
  exact hk ⟨none,0,0⟩ w rfl (fun x hx=>by cases hx) (h.nil 1).ro
 unfold Unp at hr
 refine qnc (fun g=>?_) (fun g=>?_)
 · rw [if_pos (by omega)] at hr
   exact no w 3 h hr
 rw [if_neg (by omega)] at hr
 have b0:=hx _ (qee (xs:=xs) (i:=0) (by omega))
 have b1:=hx _ (qee (xs:=xs) (i:=1) (by omega))
 have bad:∀ w,St F0 w0 w ps→hdBad (xs.getD 0 0) (xs.getD 1 0)→K (.returned (.tuple ⟨[.slice none 0 0,.int .i64 0,.int .i64 2]⟩)) w:=by
  intro w h hb
  rw [if_pos hb] at hr
  exact no w 2 h hr
 refine h.drewK fun w h=>?_
 refine h.lx (s:=s) 0 rfl (by omega) (que ?_)
 refine qne (fun g1=>bad w h (Or.inl (by simpa using g1))) (fun g1=>?_)
 refine h.lx (s:=s) 0 rfl (by omega) ⟨by decide,que ?_⟩
 refine qnc (fun g2=>bad w h (Or.inr (Or.inl g2))) (fun g2=>?_)
 refine h.lx (s:=s) 0 rfl (by omega) (qn (qd (by omega) (by omega)) ⟨by decide,que ?_⟩)
 refine h.lx (s:=s) 1 rfl (by omega) (qn (qd (by omega) (by omega)) (que ⟨by decide,que ?_⟩))
 refine qne (fun g3=>bad w h (Or.inr (Or.inr (Or.inl (by simpa using g3))))) (fun g3=>?_)
 refine h.lx (s:=s) 1 rfl (by omega) (que ?_)
 refine qne (fun g4=>bad w h (Or.inr (Or.inr (Or.inr (by simpa using g4))))) (fun g4=>?_)
 rw [if_neg (fun e=>by
  rcases e with e | e | e | e
  · exact e (by simpa using g1)
  · exact g2 e
  · exact e (by simpa using g3)
  · exact e (by simpa using g4))] at hr
 refine qvk (n:=2) rfl (by omega) (que ?_)
 have hm:0≤most→¬ 262144 < most→St F0 w0 w ps→True:=fun _ _ _=>trivial
 by_cases hmo:most < 0 ∨ 262144 < most
 · rw [if_pos hmo] at hr
   refine qfc (qrb.ok _ _ _ _ ?_)
   unfold qrb
   refine qnc (fun g=>⟨⟨none,0,0⟩,_,_,rfl,qde rfl (no w 1 h hr)⟩) (fun g=>?_)
   refine qnc (fun g=>⟨⟨none,0,0⟩,_,_,rfl,qde rfl (no w 1 h hr)⟩) (fun g=>by omega)
 rw [if_neg hmo] at hr
 obtain ⟨V,z',hV,hz,hr⟩:=hr
 haveI:=h.cutR s 2 s.len (s.cap - 2) (ys:=xs.drop 2) (by omega) (by omega) hc (by rw [List.take_of_length_le (by rw [List.length_drop]; omega)])
 rw [hV] at this
 have hzp:=zinf_p hz
 have hzl:=zinf_len hz (by omega)
 have hzb:=zinf_allZ hz
 refine qrb.a (s:=⟨qgf s.a s.cap 2 1,s.len - 2,s.cap - 2⟩) (V:=V) (N:=xs.length - 2) h (by omega) (by omega) (by omega) hz (fun t w e0 ht h=>⟨t,_,_,rfl,qle rfl ?_⟩) (fun w e0 h=>⟨⟨none,0,0⟩,_,_,rfl,qde (by simpa using e0) ?_⟩)
 rotate_left
 · refine no w _ h ?_
   rw [hr]
   unfold unpR
   rw [if_pos e0]
 unfold unpR at hr
 rw [if_neg (fun e=>e e0)] at hr
 refine qn (qd (by omega) (by omega)) ?_
 refine qvk (n:=2+(z'.1+7) / 8) (by omega) (by omega) (que ?_)
 have hdl:(xs.drop (2+(z'.1+7) / 8)).length=xs.length - (2+(z'.1+7) / 8):=List.length_drop
 have hdb:allB (xs.drop (2+(z'.1+7) / 8)):=fun x hx'=>hx x (List.mem_of_mem_drop hx')
 haveI:=h.cutR s (2+(z'.1+7) / 8) s.len (s.cap - (2+(z'.1+7) / 8)) (ys:=xs.drop (2+(z'.1+7) / 8)) (by omega) (by omega) hc (by rw [List.take_of_length_le (by omega)])
 refine qpp.c (s:=⟨qgf s.a s.cap (2+(z'.1+7) / 8) 1,s.len - (2+(z'.1+7) / 8),s.cap - (2+(z'.1+7) / 8)⟩) h hdb (by omega) fun nb w h=>⟨_,rfl,?_⟩
 refine qkh.c (rb:=nb) h hdb fun w h=>⟨_,rfl,?_⟩
 refine qlh.c (rb:=nb) h ⟨_,rfl,?_⟩
 have ht4:((xs.drop (2+(z'.1+7) / 8)).take 4).length≤4:=by rw [List.length_take]; omega
 have hbe:=be_lt8 (n:=4) (l:=(xs.drop (2+(z'.1+7) / 8)).take 4) (fun x hx'=>hdb x (List.mem_of_mem_take hx')) ht4
 rw [show ((2:Int) ^ (8 * 4))=4294967296 by decide] at hbe
 by_cases h4:xs.length < 2+(z'.1+7) / 8+4
 · rw [if_pos h4] at hr
   have e:nuS (xs.drop (2+(z'.1+7) / 8)) 0 0 4=(0,0,3):=by
    have et:tkS (xs.drop (2+(z'.1+7) / 8)) 0 0 ((4:Nat):Int)=([],0,3):=by
     unfold tkS
     rw [if_neg (fun e=>by have:=e.2.2; omega)]
     rfl
    unfold nuS
    rw [et]
    rfl
   rw [e]
   refine qde rfl ?_
   exact no w 3 h.drop.drop hr
 · rw [if_neg h4] at hr
   have e:nuS (xs.drop (2+(z'.1+7) / 8)) 0 0 4=(be ((xs.drop (2+(z'.1+7) / 8)).take 4),4,0):=by
    have et:tkS (xs.drop (2+(z'.1+7) / 8)) 0 0 ((4:Nat):Int)=((xs.drop (2+(z'.1+7) / 8)).take 4,4,0):=by
     unfold tkS
     rw [if_pos ⟨rfl,by decide,by omega⟩]
     rfl
    unfold nuS
    rw [et]
    simp only
    rw [if_neg (by omega)]
   rw [e]
   refine qle rfl ?_
   simp only
   refine qn (show IntKind.u32.wrap _=be ((xs.drop (2+(z'.1+7) / 8)).take 4) by rw [qei]; omega) ?_
   refine qdk.c (s:=t) h hzb (by omega) fun w h=>⟨_,rfl,?_⟩
   refine qne (fun g=>?_) (fun g=>?_)
   · rw [if_pos (by simpa using g)] at hr
     exact no w 4 h.drop.drop hr
   · rw [if_neg (by simpa using g)] at hr
     refine qn (qd (by omega) (by omega)) ?_
     refine qn (qd (by omega) (by omega)) ?_
     subst hr
     have:=hk t w ht hzb h.drop
     simp only at this
     rw [show 2+(((z'.1+7) / 8:Nat):Int)+4=((2+(z'.1+7) / 8+4:Nat):Int) by omega]
     exact this
theorem qdg.c {K:Ending→World→Prop} (h:St F0 w0 w ps) [Rdb F0 w0 s ps 1 (u8s xs)] (hx:∀ x ∈ xs,0≤x∧x < 256) (hL:xs.length≤1000000) (hc:s.len≤s.cap) (hr:Unp xs most r)
 (hk:∀ t w',t.len=r.1.length→(∀ x ∈ r.1,0≤x∧x < 256)→St F0 w0 w' (rdA 1 t (u8s r.1) :: ps)→K (.returned (.tuple ⟨[.slice t.a t.len t.cap,.int .i64 r.2.1,.int .i64 r.2.2]⟩)) w'):Calls Tryz.prog 120 ⟨[.slice s.a s.len s.cap,.int .i64 most]⟩ w K:=by
 have hl:=(h.rdb s).1
 rw [ql] at hl
 refine qfc (qdg.ok _ _ _ _ ?_)
 unfold qdg
 have no:∀ w (e:Int),St F0 w0 w ps→r=([],0,e)→K (.returned (.tuple ⟨[.slice none 0 0,.int .i64 0,.int .i64 e]⟩)) w:=by
  intro w e h er
  subst er
  exact hk ⟨none,0,0⟩ w rfl (fun x hx=>by cases hx) (h.nil 1).ro
 unfold Unp at hr
 refine qnc (fun g=>?_) (fun g=>?_)
 · rw [if_pos (by omega)] at hr
   exact no w 3 h hr
 rw [if_neg (by omega)] at hr
 have b0:=hx _ (qee (xs:=xs) (i:=0) (by omega))
 have b1:=hx _ (qee (xs:=xs) (i:=1) (by omega))
 have bad:∀ w,St F0 w0 w ps→hdBad (xs.getD 0 0) (xs.getD 1 0)→K (.returned (.tuple ⟨[.slice none 0 0,.int .i64 0,.int .i64 2]⟩)) w:=by
  intro w h hb
  rw [if_pos hb] at hr
  exact no w 2 h hr
 refine h.drewK fun w h=>?_
 refine h.lx (s:=s) 0 rfl (by omega) (que ?_)
 refine qne (fun g1=>bad w h (Or.inl (by simpa using g1))) (fun g1=>?_)
 refine h.lx (s:=s) 0 rfl (by omega) ⟨by decide,que ?_⟩
 refine qnc (fun g2=>bad w h (Or.inr (Or.inl g2))) (fun g2=>?_)
 refine h.lx (s:=s) 0 rfl (by omega) (qn (qd (by omega) (by omega)) ⟨by decide,que ?_⟩)
 refine h.lx (s:=s) 1 rfl (by omega) (qn (qd (by omega) (by omega)) (que ⟨by decide,que ?_⟩))
 refine qne (fun g3=>bad w h (Or.inr (Or.inr (Or.inl (by simpa using g3))))) (fun g3=>?_)
 refine h.lx (s:=s) 1 rfl (by omega) (que ?_)
 refine qne (fun g4=>bad w h (Or.inr (Or.inr (Or.inr (by simpa using g4))))) (fun g4=>?_)
 rw [if_neg (fun e=>by
  rcases e with e | e | e | e
  · exact e (by simpa using g1)
  · exact g2 e
  · exact e (by simpa using g3)
  · exact e (by simpa using g4))] at hr
 refine qvk (n:=2) rfl (by omega) (que ?_)
 by_cases hmo:most < 0 ∨ 262144 < most
 · rw [if_pos hmo] at hr
   refine qfc (qob.ok _ _ _ _ ?_)
   unfold qob qob.j1
   refine qnc (fun g=>⟨⟨none,0,0⟩,_,_,rfl,qde rfl (no w 1 h hr)⟩) (fun g=>?_)
   refine qnc (fun g=>⟨⟨none,0,0⟩,_,_,rfl,qde rfl (no w 1 h hr)⟩) (fun g=>by omega)
 rw [if_neg hmo] at hr
 obtain ⟨V,z',hV,hz,hr⟩:=hr
 haveI:=h.cutR s 2 s.len (s.cap - 2) (ys:=xs.drop 2) (by omega) (by omega) hc (by rw [List.take_of_length_le (by rw [List.length_drop]; omega)])
 rw [hV] at this
 have hzp:=zinf_p hz
 have hzl:=zinf_len hz (by omega)
 have hzb:=zinf_allZ hz
 refine qob.c (s:=⟨qgf s.a s.cap 2 1,s.len - 2,s.cap - 2⟩) (V:=V) (N:=xs.length - 2) h (by omega) (by omega) (by omega) hz (fun t w e0 ht _ h=>⟨t,_,_,rfl,qle rfl ?_⟩) (fun w e0 h=>⟨⟨none,0,0⟩,_,_,rfl,qde (by simpa using e0) ?_⟩)
 rotate_left
 · refine no w _ h ?_
   rw [hr]
   unfold unpR
   rw [if_pos e0]
 unfold unpR at hr
 rw [if_neg (fun e=>e e0)] at hr
 refine qn (qd (by omega) (by omega)) ?_
 rw [show (((z'.1+7) / 8:Nat):Int)+2=((2+(z'.1+7) / 8:Nat):Int) by omega]
 generalize hn:2+(z'.1+7) / 8=n at hr ⊢
 refine qn (qd (by omega) (by omega)) ?_
 refine qnc (fun g=>?_) (fun g=>?_)
 · rw [if_pos (by omega)] at hr
   exact no w 3 h.drop hr
 rw [if_neg (by omega)] at hr
 have hd:(xs.drop n).take 4=[xs.getD n 0,xs.getD (n+1) 0,xs.getD (n+2) 0,xs.getD (n+3) 0]:=by
  rw [qes (show n < xs.length by omega),qes (show n+1 < xs.length by omega),qes (show n+1+1 < xs.length by omega),qes (show n+1+1+1 < xs.length by omega)]
  rfl
 rw [hd] at hr
 have c0:=hx _ (qee (xs:=xs) (i:=n) (by omega))
 have c1:=hx _ (qee (xs:=xs) (i:=n+1) (by omega))
 have c2:=hx _ (qee (xs:=xs) (i:=n+2) (by omega))
 have c3:=hx _ (qee (xs:=xs) (i:=n+3) (by omega))
 have wu:∀ x:Int,0≤x∧x < 256→IntKind.u32.wrap x=x:=fun x hx=>by rw [qei]; omega
 refine h.drewK fun w h=>?_
 refine h.lx (s:=s) n rfl (by omega) (qn (wu _ c0) ⟨by decide,que ?_⟩)
 refine qn (qd (by omega) (by omega)) ?_
 refine h.lx (s:=s) (n+1) (by omega) (by omega) (qn (wu _ c1) ⟨by decide,que (que ?_)⟩)
 refine qn (qd (by omega) (by omega)) ?_
 refine h.lx (s:=s) (n+2) (by omega) (by omega) (qn (wu _ c2) ⟨by decide,que (que ?_)⟩)
 refine qn (qd (by omega) (by omega)) ?_
 refine h.lx (s:=s) (n+3) (by omega) (by omega) (qn (wu _ c3) (qn (word_of c0 c1 c2 c3) ?_))
 refine qzf.c (s:=t) h hzb (by omega) fun w h=>⟨_,rfl,?_⟩
 refine qne (fun g=>?_) (fun g=>?_)
 · rw [if_pos (by simpa using g)] at hr
   exact no w 4 h.drop hr
 · rw [if_neg (by simpa using g)] at hr
   refine qn (qd (by omega) (by omega)) ?_
   subst hr
   have:=hk t w ht hzb h
   simp only at this
   rw [show (n:Int)+4=((n+4:Nat):Int) by omega]
   exact this
end
end Go.Proofs.YtejnemneenjliaaGreat
namespace Go.Proofs.YtejnemneenjliaaGreat
open Go Go.Proofs
set_option linter.unusedVariables false
set_option linter.unusedSimpArgs false
attribute [local irreducible] apK cpK mkK br
theorem St.new5 {F0:List Nat} {w0 w:World} {ps:List As} {s:Sl} {a b c d e:Int} (h:St F0 w0 w (qcc 1 s (⟨[.int .u8 a,.int .u8 b,.int .u8 c,.int .u8 d,.int .u8 e]⟩:Array Value).toList :: ps)):St F0 w0 w (qcc 1 s (u8s [a,b,c,d,e]) :: ps):=h
theorem St.new4 {F0:List Nat} {w0 w:World} {ps:List As} {s:Sl} {a b c d:Int} (h:St F0 w0 w (qcc 1 s (⟨[.int .u8 a,.int .u8 b,.int .u8 c,.int .u8 d]⟩:Array Value).toList :: ps)):St F0 w0 w (qcc 1 s (u8s [a,b,c,d]) :: ps):=h
section
variable {F0:List Nat} {w0 w:World} {ps rest:List As} {s:Sl} {xs:List Int} {K:Ending→World→Prop}
theorem qab.c (h:St F0 w0 w ps) [Rdb F0 w0 s ps 1 (u8s xs)] (hx:allB xs) (hL:xs.length≤1000000000)
 (hk:∀ w',St F0 w0 w' ps→K (.returned (.tuple ⟨[.int .i64 (ofsDec 0 0 xs).1,.int .i64 (ofsDec 0 0 xs).2.1,.int .i64 (ofsDec 0 0 xs).2.2]⟩)) w') :
 Calls Tryz.prog 119 ⟨[.slice s.a s.len s.cap]⟩ w K:=by
 refine qfc (qab.ok _ _ _ ?_)
 unfold qab qab.j1 qab.j3
 have hl:=(h.rdb s).1
 rw [ql] at hl
 refine qkg (fun (i:Nat) (v i':Int) w'=>i'=i∧i≤xs.length∧i≤8∧0≤v∧(i=0→v=0)∧(0 < i→v * 128+384≤130 * 128 ^ i)∧ofsDec i v (xs.drop i)=ofsDec 0 0 xs∧St F0 w0 w' ps) (fun i=>xs.length - i) 0 ⟨rfl,by omega,by omega,by omega,fun _=>rfl,fun g=>by omega,rfl,h⟩ ?_
 clear h
 rintro i v i' w I μ ⟨rfl,hi,hi9,hv0,hz,hv1,hd,h⟩ hin
 unfold qab.b1
 refine qnc (fun g=>?_) (fun g=>?_)
 · unfold qab.j4
   refine qne (fun g2=>?_) (fun g2=>?_)
   · have:i=xs.length:=by have:(i:Int)=s.len:=by simpa using g2
                          omega
     subst this
     rw [List.drop_length,ofsDec,if_neg (by omega)] at hd
     rw [← hd] at hk
     exact hk w h
   · have hix:i < xs.length:=by have:¬ (i:Int)=s.len:=by simpa using g2
                                omega
     have hc:=qms hx hix
     have ed:xs.drop i=xs.getD i 0 :: xs.drop (i+1):=by
      rw [List.drop_eq_getElem_cons hix]
      simp [List.getD,List.getElem?_eq_getElem hix]
     rw [ed] at hd
     have hlx:∀ (K:Int→Prop),K (xs.getD i 0)→ixS s.a s.len (i:Int) 1 fun a=>ldI .u8 w a K:=fun K hk=>h.lx i rfl hix hk
     generalize xs.getD i 0=c at hc hd hlx
     rw [ofsDec,if_neg (by omega)] at hd
     have hP:(128:Int) ^ i≤128 ^ 7:=by exact_mod_cast Nat.pow_le_pow_right (by decide) (show i≤7 by omega)
     rw [show (128:Int) ^ 7=562949953421312 by decide] at hP
     have hP0:(0:Int) < 128 ^ i:=Int.pow_pos (by decide)
     have hP1:(128:Int) ^ (i+1)=128 * 128 ^ i:=by rw [Int.pow_succ,Int.mul_comm]
     have end7:∀ u:Int,0≤u→u≤1000000000000000→(if 0 < i then (v+1) * 128 else v)=u * 128→(0 < i→u=v+1)→qab.j6 s u (i:Int) (fun v w'=>K (.returned v) w') (fun b_0' v_5' i_6' w'=>(b_0'=s)∧I v_5' i_6' w'∧μ v_5' i_6' w' < μ v i w) w:=by
      intro u hu0 hu1 hu2 hu3
      rw [hu2] at hd
      obtain ⟨u,rfl⟩:∃ t:Nat,u=t:=⟨u.toNat,by omega⟩
      obtain ⟨m,hm⟩:∃ m:Nat,c % 128=m:=⟨(c % 128).toNat,by omega⟩
      rw [hm] at hd
      unfold qab.j6
      refine ⟨by decide,?_⟩
      have es:=qfi .i64 (x:=(u:Int)) (t:=7) (by decide) (by omega) (by rw [show (2:Int) ^ (IntKind.i64.bits - 1)=9223372036854775808 by decide,show (2:Int) ^ 7=128 by decide]; omega)
      rw [show (2:Int) ^ 7=128 by decide] at es
      refine qn es ?_
      refine hlx _ ?_
      refine qn (and127 (by decide) _) ?_
      refine qn (qd (by omega) (by omega)) ?_
      rw [hm]
      have eo:=qlo .i64 (a:=m) (b:=u) (t:=7) (by omega) (by show m+u * 2 ^ 7 < 2 ^ 63; omega)
      rw [show (2:Int) ^ 7=128 by decide] at eo
      refine qn eo ?_
      rw [Int.add_comm (m:Int)]
      refine hlx _ ?_
      refine qnc (fun g3=>?_) (fun g3=>?_)
      · rw [if_pos g3] at hd
        refine qn (qd (by omega) (by omega)) ?_
        rw [← hd] at hk
        exact hk w h
      · rw [if_neg g3] at hd
        unfold qab.j5
        refine qn (qd (by omega) (by omega)) ?_
        refine ⟨rfl,hin (i+1) _ _ _ ⟨by omega,by omega,by omega,by omega,by omega,fun _=>?_,hd,h⟩ (by omega)⟩
        by_cases h0:0 < i
        · have h5:=hv1 h0
          have h6:=hu3 h0
          omega
        · have h1:i=0:=by omega
          have h2:=hz h1
          rw [if_neg h0] at hu2
          subst h1
          rw [hP1]
          simp only [Int.pow_zero] at hP ⊢
          omega
     refine qnc (fun g3=>?_) (fun g3=>?_)
     · have h0:0 < i:=by omega
       have h5:=hv1 h0
       refine qn (qd (by omega) (by omega)) ?_
       exact end7 (v+1) (by omega) (by omega) (by rw [if_pos h0]) (fun _=>rfl)
     · have h0:i=0:=by omega
       exact end7 v hv0 (by rw [hz h0]; decide) (by rw [if_neg (by omega),hz h0]; rfl) (fun g=>by omega)
 · have:i=8:=by omega
   subst this
   have e8:ofsDec 8 v (xs.drop 8)=(0,0,5):=by
    cases xs.drop 8 with
    | nil=>rfl
    | cons c r=>rfl
   rw [e8] at hd
   unfold qab.j2
   rw [← hd] at hk
   exact hk w h
theorem qmb.c {n:Nat} (h:St F0 w0 w ps) [PkO s ps 1 (u8s xs) rest] (hL:xs.length≤1000000000) (hn:n < 9223372036854775808)
 (hk:∀ t (ys:List Int) w',ys.length≤xs.length+11→St F0 w0 w' (qcc 1 t (u8s ys) :: rest)→K (.returned (.slice t.a t.len t.cap)) w') :
 Calls Tryz.prog 115 ⟨[.slice s.a s.len s.cap,.int .i64 (n:Int)]⟩ w K:=by
 refine qfc (qmb.ok _ _ _ _ ?_)
 unfold qmb
 refine qnc (fun g=>by omega) fun _=>?_
 unfold qmb.j1
 refine que (que ?_)
 have h:=h.toO s
 refine h.new fun nb w h=>?_
 refine ⟨by decide,qn (shr7 n) ?_⟩
 unfold qmb.j2
 refine qkg (fun (a:Nat × Nat × List Int) (v:Int) (o:Sl) w'=>v=a.1∧a.1≤n∧a.1 < 128 ^ a.2.1∧a.2.1+a.2.2.length≤11∧St F0 w0 w' (qcc 1 o (u8s a.2.2) :: qcc 1 s (u8s xs) :: rest)) (fun a=>a.2.1) (n / 128,10,[IntKind.u8.wrap (qli .i64 (n:Int) 127)]) ⟨rfl,by simp only; omega,by simp only; omega,by simp,h.ownB (n:=1) rfl⟩ ?_
 clear h
 rintro ⟨v,k,ys⟩ v' o w I μ ⟨rfl,hvn,hv,hl,h⟩ hin
 simp only at hvn hv hl h hin ⊢
 unfold qmb.b1
 refine qnc (fun g=>?_) (fun g=>?_)
 · refine qn (show IntKind.i64.wrap ((v:Int) - 1)=((v - 1:Nat):Int) by rw [qd (by omega) (by omega)]; omega) ?_
   refine que (que (que ?_))
   refine h.new fun nb w h=>?_
   have h:=h.ownB (n:=1) rfl
   have h:St F0 w0 w (qcc 1 ⟨some ⟨nb,0,none⟩,1,1⟩ (u8s [IntKind.u8.wrap (orV .i64 (qli .i64 ((v - 1:Nat):Int) 127) 128)]) :: qcc 1 o (u8s ys) :: qcc 1 s (u8s xs) :: rest):=h
   refine h.appI (s:=⟨some ⟨nb,0,none⟩,1,1⟩) (s2:=o) (by rw [List.length_singleton]; omega) fun o2 w h=>?_
   refine ⟨by decide,qn (shr7 (v - 1)) ?_⟩
   have hk1:1≤k:=by
    rcases Nat.eq_zero_or_pos k with e | e
    · subst e; simp at hv; omega
    · exact e
   refine ⟨rfl,hin ((v - 1) / 128,k - 1,[IntKind.u8.wrap (orV .i64 (qli .i64 ((v - 1:Nat):Int) 127) 128)] ++ ys) _ _ _ ⟨rfl,by simp only; omega,?_,by simp only [List.length_append,List.length_singleton]; omega,h.sub⟩ (by simp only; omega)⟩
   simp only
   have e:128 ^ k=128 * 128 ^ (k - 1):=by rw [show k=(k - 1)+1 by omega,Nat.pow_succ,Nat.mul_comm]; rfl
   rw [e] at hv
   generalize 128 ^ (k - 1)=P at hv ⊢
   omega
 · unfold qmb.j3
   refine h.appI (s:=s) (s2:=o) (by omega) fun t w h=>?_
   exact hk t (xs ++ ys) w (by rw [List.length_append]; omega) h.sub
theorem qxb.c (h:St F0 w0 w ps) [Rdb F0 w0 s ps 1 (u8s xs)] (hL:xs.length≤65535) (hc:s.len≤s.cap)
 (hk:∀ t (ys:List Int) w',ys.length≤xs.length+5→St F0 w0 w' (qcc 1 t (u8s ys) :: ps)→K (.returned (.slice t.a t.len t.cap)) w') :
 Calls Tryz.prog 176 ⟨[.slice s.a s.len s.cap]⟩ w K:=by
 have hl:=(h.rdb s).1
 rw [ql] at hl
 refine qfc (qxb.ok _ _ _ ?_)
 unfold qxb qxb.j1
 have h:St F0 w0 w (qcc 1 ⟨none,0,0⟩ (u8s []) :: ps):=h.nil 1
 refine qkg (fun (_:Unit) (b o:Sl) w'=>b=s∧o=⟨none,0,0⟩∧St F0 w0 w' (qcc 1 ⟨none,0,0⟩ (u8s []) :: ps)) (fun _=>0) () ⟨rfl,rfl,h⟩ ?_
 clear h
 rintro _ b o w I μ ⟨rfl,rfl,h⟩ _
 unfold qxb.b1 qxb.j2
 refine qnc (fun g=>by omega) fun _=>?_
 unfold qxb.j3
 refine que ⟨by decide,que (que (que (que ⟨by decide,que (que (que ?_))⟩)))⟩
 refine h.new fun nb w h=>?_
 have h:=h.ownB (n:=5) rfl
 obtain ⟨L,hL5,h⟩:∃ L:List Int,L.length=5∧St F0 w0 w (qcc 1 ⟨some ⟨nb,0,none⟩,5,5⟩ (u8s L) :: qcc 1 ⟨none,0,0⟩ (u8s []) :: ps):=⟨_,rfl,St.new5 h⟩
 refine h.appI (s:=⟨none,0,0⟩) (s2:=⟨some ⟨nb,0,none⟩,5,5⟩) (by simp; omega) fun o2 w h=>?_
 rw [List.nil_append] at h
 refine qvk (n:=b.len) rfl hc (que ?_)
 haveI:=h.cutR b 0 b.len (b.cap - 0) (Nat.le_refl _) (Nat.zero_le _) hc (show (xs.drop 0).take (b.len - 0)=xs by rw [List.drop_zero,List.take_of_length_le (by omega)])
 refine h.appI (s:=o2) (s2:=⟨qgf b.a b.cap 0 1,b.len - 0,b.cap - 0⟩) (by omega) fun t w h=>?_
 refine qvk (n:=b.len) rfl (Nat.le_refl _) (que ?_)
 refine qde (by simp) ?_
 exact hk t (L ++ xs) w (by rw [List.length_append]; omega) h.sub
theorem qjg.c (h:St F0 w0 w ps) [Rdb F0 w0 s ps 1 (u8s xs)] (hb:∀ x ∈ xs,0≤x∧x < 256) (hL:xs.length≤65535) (hc:s.len≤s.cap)
 (hk:∀ t (ys:List Int) w',ys.length≤xs.length+11→St F0 w0 w' (qcc 1 t (u8s ys) :: ps)→K (.returned (.slice t.a t.len t.cap)) w') :
 Calls Tryz.prog 116 ⟨[.slice s.a s.len s.cap]⟩ w K:=by
 refine qfc (qjg.ok _ _ _ ?_)
 unfold qjg
 refine h.new fun nb w h=>?_
 have h:=h.ownB (n:=2) rfl
 have h:St F0 w0 w (qcc 1 ⟨some ⟨nb,0,none⟩,2,2⟩ (u8s [120,1]) :: ps):=h
 refine qxb.c (s:=s) (xs:=xs) h hL hc fun r ys w hy h=>⟨r,rfl,?_⟩
 refine h.appI (s:=⟨some ⟨nb,0,none⟩,2,2⟩) (s2:=r) (by simp; omega) fun t w h=>?_
 refine qzf.c (s:=s) (xs:=xs) h hb (by omega) fun w h=>⟨_,rfl,?_⟩
 refine ⟨by decide,que (que ⟨by decide,que (que ⟨by decide,que (que (que ?_))⟩)⟩)⟩
 refine h.new fun nb2 w h=>?_
 have h:=h.ownB (n:=4) rfl
 obtain ⟨L,hL4,h⟩:∃ L:List Int,L.length=4∧St F0 w0 w (qcc 1 ⟨some ⟨nb2,0,none⟩,4,4⟩ (u8s L) :: qcc 1 t (u8s ([120,1] ++ ys)) :: qcc 1 r (u8s ys) :: ps):=⟨_,rfl,St.new4 h⟩
 refine h.appI (s:=t) (s2:=⟨some ⟨nb2,0,none⟩,4,4⟩) (by rw [List.length_append,hL4]; show 2+ys.length+4≤_; omega) fun t2 w h=>?_
 exact hk t2 ([120,1] ++ ys ++ L) w (by rw [List.length_append,List.length_append,hL4]; show 2+ys.length+4≤_; omega) h.sub
end
end Go.Proofs.YtejnemneenjliaaGreat
namespace Go.Proofs.YtejnemneenjliaaGreat
open Go Go.Proofs
set_option linter.unusedVariables false
set_option linter.unusedSimpArgs false
def ofG (tab:Int→Int × Int × Bool) (v:Int):Nat→Int→Int × Int × Int→Int × Int × Int
 | 0,_,p=>p
 | f+1,k,p=>if (tab k).2.2=false ∨ v < (tab k).1 then p else ofG tab v f (k+1) (k,v - (tab k).1,(tab k).2.1)
def ofLen (v:Int):Int × Int × Int:=ofG qlj v 40 257 (0,0,0)
def ofDis (v:Int):Int × Int × Int:=ofG qyi v 40 0 (0,0,0)
theorem ofG_row {tab:Int→Int × Int × Bool} {Bs Xs:Nat→Int} {fr:Int} {m:Nat} {v:Int} (hrow:∀ j:Nat,j < m→tab (fr+j)=(Bs j,Xs j,true)) (hend:(tab (fr+m)).2.2=false) (h0:Bs 0≤v) (hm:0 < m) :
 ∀ (f j:Nat) (p:Int × Int × Int),j≤m→m < f+j→(0 < j→p=(fr+((j - 1:Nat):Int),v - Bs (j - 1),Xs (j - 1))∧Bs (j - 1)≤v) →
 ∃ i,i < m∧ofG tab v f (fr+j) p=(fr+(i:Int),v - Bs i,Xs i)∧Bs i≤v∧(i+1=m ∨ v < Bs (i+1)):=by
 intro f
 induction f with
 | zero=>intro j p h1 h2; omega
 | succ f ih =>
   intro j p h1 h2 h3
   rw [ofG]
   by_cases hj:j=m
   · subst hj
     rw [if_pos (Or.inl hend)]
     obtain ⟨h4,h5⟩:=h3 hm
     exact ⟨j - 1,by omega,h4,h5,Or.inl (by omega)⟩
   · have hr:=hrow j (by omega)
     rw [hr]
     simp only
     by_cases hv:v < Bs j
     · rw [if_pos (Or.inr hv)]
       have hj0:0 < j:=by
        rcases Nat.eq_zero_or_pos j with e | e
        · subst e; omega
        · exact e
       obtain ⟨h4,h5⟩:=h3 hj0
       exact ⟨j - 1,by omega,h4,h5,Or.inr (by rw [show j - 1+1=j by omega]; exact hv)⟩
     · rw [if_neg (by rintro (e | e); cases e; exact hv e)]
       have:=ih (j+1) (fr+(j:Int),v - Bs j,Xs j) (by omega) (by omega) (fun _=>⟨by simp,by simp; omega⟩)
       rw [show fr+((j+1:Nat):Int)=fr+(j:Int)+1 by omega] at this
       exact this
theorem qen {v:Int} (h1:3≤v) (h2:v≤258):symP v false (ofLen v).1 (ofLen v).2.1 (ofLen v).2.2:=by
 have ch:∀ j:Nat,j < 28→tLenB.getD (j+1) 0≤tLenB.getD j 0+2 ^ (tLenX.getD j 0).toNat:=by decide
 have nn:∀ j:Nat,j < 29→0≤tLenX.getD j 0:=by decide
 obtain ⟨i,hi,he,hb,hn⟩:=ofG_row (tab:=qlj) (Bs:=fun j=>tLenB.getD j 0) (Xs:=fun j=>tLenX.getD j 0) (fr:=257) (m:=29) (v:=v) (fun j hj=>by
  rw [zlen_t (by omega) (by omega),show (257+(j:Int) - 257).toNat=j by omega]) (by decide) h1 (by decide) 40 0 (0,0,0) (by decide) (by decide) (fun h=>by omega)
 have he:ofLen v=(257+(i:Int),v - tLenB.getD i 0,tLenX.getD i 0):=he
 rw [he]
 refine Or.inr ⟨rfl,by simp only; omega,by simp only; omega,tLenB.getD i 0,?_,rfl,hb,?_,nn i hi⟩
 · simp only
   rw [zlen_t (by omega) (by omega),show (257+(i:Int) - 257).toNat=i by omega]
 · show v < tLenB.getD i 0+2 ^ (tLenX.getD i 0).toNat
   rcases hn with hn | hn
   · have:i=28:=by omega
     subst this
     have e:tLenB.getD 28 0+2 ^ (tLenX.getD 28 0).toNat=259:=by decide
     omega
   · have:=ch i (by
      rcases Nat.lt_or_ge i 28 with h | h
      · exact h
      · have:i=28:=by omega
        subst this
        have e:tLenB.getD (28+1) 0=0:=by decide
        omega)
     omega
theorem qdl {v:Int} (h1:1≤v) (h2:v≤32768):symP v true (ofDis v).1 (ofDis v).2.1 (ofDis v).2.2:=by
 have ch:∀ j:Nat,j < 29→tDisB.getD (j+1) 0≤tDisB.getD j 0+2 ^ (tDisX.getD j 0).toNat:=by decide
 have nn:∀ j:Nat,j < 30→0≤tDisX.getD j 0:=by decide
 obtain ⟨i,hi,he,hb,hn⟩:=ofG_row (tab:=qyi) (Bs:=fun j=>tDisB.getD j 0) (Xs:=fun j=>tDisX.getD j 0) (fr:=0) (m:=30) (v:=v) (fun j hj=>by
  rw [zdis_t (by omega) (by omega),show (0+(j:Int)).toNat=j by omega]) (by decide) h1 (by decide) 40 0 (0,0,0) (by decide) (by decide) (fun h=>by omega)
 have he:ofDis v=(0+(i:Int),v - tDisB.getD i 0,tDisX.getD i 0):=he
 rw [he]
 refine Or.inl ⟨rfl,by simp only; omega,by simp only; omega,tDisB.getD i 0,?_,rfl,hb,?_,nn i hi⟩
 · simp only
   rw [zdis_t (by omega) (by omega),show (0+(i:Int)).toNat=i by omega]
 · show v < tDisB.getD i 0+2 ^ (tDisX.getD i 0).toNat
   rcases hn with hn | hn
   · have:i=29:=by omega
     subst this
     have e:tDisB.getD 29 0+2 ^ (tDisX.getD 29 0).toNat=32769:=by decide
     omega
   · have:=ch i (by
      rcases Nat.lt_or_ge i 29 with h | h
      · exact h
      · have:i=29:=by omega
        subst this
        have e:tDisB.getD (29+1) 0=0:=by decide
        omega)
     omega
def okC (ls:List Int):Prop:=okL ls∧kr ls≤32768
def inC (ls:List Int) (s:Nat):Prop:=s < ls.length∧0 < ls.getD s 0
inductive Gx (ll dl:List Int):List Bool→List Int→Prop
 | nil:Gx ll dl [] []
 | lit {bits:List Bool} {out:List Int} {b:Int} (h:Gx ll dl bits out) (h0:0≤b) (h1:b < 256) (hl:inC ll b.toNat):Gx ll dl (bits ++ qcd ll b.toNat) (out ++ [b])
 | copy {bits:List Bool} {out:List Int} {n d s e x s2 e2 x2:Int} (h:Gx ll dl bits out) (h3:3≤n) (h258:n≤258) (hd:1≤d) (hdo:d≤out.length) (hs:symP n false s e x) (hs2:symP d true s2 e2 x2) (hl:inC ll s.toNat) (hdl:inC dl s2.toNat) :
    Gx ll dl (bits ++ (qcd ll s.toNat ++ (qi e x.toNat ++ (qcd dl s2.toNat ++ qi e2 x2.toNat)))) (tkCopy d n.toNat out)
section
variable {B:List Bool} {most:Int} {ll dl:List Int}
theorem qyk {ls:List Int} {s:Nat} (h:inC ls s):1≤(qcd ls s).length:=by
 rw [qej]
 have:=h.2
 omega
theorem qcm {ls:List Int} {p s:Nat} {r:List Bool} {out:List Int} (hc:okC ls) (hs:inC ls s) (h:B.drop p=qcd ls s ++ r):quj ls B (p,out,0)=((s:Int),(p+(qcd ls s).length,out,0)) :=
 zsym_at hc.1 hc.2 hs.1 hs.2 h
theorem qws {p:Nat} {r:List Bool} {out:List Int} {n d s e x s2 e2 x2:Int} (hc:okC dl) (hn:3≤n) (hs:symP n false s e x) (hs2:symP d true s2 e2 x2) (hi:inC dl s2.toNat) (hd:1≤d) (hp:p≤B.length)
 (h:B.drop p=qi e x.toNat ++ (qcd dl s2.toNat ++ (qi e2 x2.toNat ++ r))) :
 zbehind dl B most s (p,out,0)=zcp most d n.toNat (if (out.length:Int) < d then qkd 2 (p+((qi e x.toNat).length+((qcd dl s2.toNat).length+(qi e2 x2.toNat).length)),out,0) else (p+((qi e x.toNat).length+((qcd dl s2.toNat).length+(qi e2 x2.toNat).length)),out,0)):=by
 rcases hs with ⟨h1,_⟩ | ⟨_,hs0,hs1,b,hz,he,hb1,hb2,hx0⟩
 · cases h1
 rcases hs2 with ⟨_,hs20,hs21,b2,hz2,he2,hb3,hb4,hx20⟩ | ⟨h1,_⟩
 rotate_left
 · cases h1
 have hx:=zlen_x s
 have hx2:=zdis_x s2
 rw [hz] at hx
 rw [hz2] at hx2
 simp only at hx hx2
 have l1:=qed h
 have h':=quc h
 have l2:=qed h'
 have h'':=quc h'
 have l3:=qed h''
 unfold zbehind
 simp only [hz]
 unfold zok
 simp only [if_true]
 rw [qqg h (by rw [qk]; omega) (by rw [qk]; omega) hp]
 simp only
 rw [qcm hc hi h']
 simp only
 rw [show ((s2.toNat:Nat):Int)=s2 by omega]
 simp only [hz2]
 simp only [if_true]
 rw [qqg h'' (by rw [qk]; omega) (by rw [qk]; omega) (by omega)]
 simp only
 rw [qof (by omega) (by omega),qof (by omega) (by omega),show b2+e2=d by omega,show b+e=n by omega]
 rw [show p+(qi e x.toNat).length+(qcd dl s2.toNat).length+(qi e2 x2.toNat).length=p+((qi e x.toNat).length+((qcd dl s2.toNat).length+(qi e2 x2.toNat).length)) by omega]
theorem qtq {p:Nat} {r:List Bool} {out:List Int} {b:Int} (hc:okC ll) (hi:inC ll b.toNat) (h0:0≤b) (h1:b < 256) (f:Nat) (h:B.drop p=qcd ll b.toNat ++ r) :
 qie ll dl B most (f+1) (p,out,0)=qie ll dl B most f (qqn most b (p+(qcd ll b.toNat).length,out,0)):=by
 rw [qie,if_neg (by simp)]
 simp only
 rw [qcm hc hi h]
 simp only
 rw [if_neg (by omega),if_pos (by omega),show ((b.toNat:Nat):Int)=b by omega]
theorem qqp {p:Nat} {r:List Bool} {out:List Int} {s:Int} (hc:okC ll) (hi:inC ll s.toNat) (h0:257≤s) (h1:s≤285) (f:Nat) (h:B.drop p=qcd ll s.toNat ++ r) :
 qie ll dl B most (f+1) (p,out,0)=qie ll dl B most f (zbehind dl B most s (p+(qcd ll s.toNat).length,out,0)):=by
 rw [qie,if_neg (by simp)]
 simp only
 rw [qcm hc hi h]
 simp only
 rw [if_neg (by omega),if_neg (by omega),show ((s.toNat:Nat):Int)=s by omega]
theorem zcodedG_end {p:Nat} {r:List Bool} {out:List Int} (hc:okC ll) (hi:inC ll 256) (f:Nat) (h:B.drop p=qcd ll 256 ++ r) :
 qie ll dl B most (f+1) (p,out,0)=(p+(qcd ll 256).length,out,0):=by
 rw [qie,if_neg (by simp)]
 simp only
 rw [qcm hc hi h]
 simp only
 rw [if_pos (show (0:Int) ≠ 0 ∨ ((256:Nat):Int)=256 from Or.inr rfl)]
theorem quq (f:Nat) {z:Z} (h:z.2.2 ≠ 0):qie ll dl B most f z=z:=by
 cases f with
 | zero=>rfl
 | succ f=>rw [qie,if_pos h]
theorem Gx.dec {bits:List Bool} {out:List Int} (hcl:okC ll) (hcd:okC dl) (h:Gx ll dl bits out):∀ {p:Nat} {r:List Bool},p≤B.length→B.drop p=bits ++ r→(out.length:Int)≤most →
 ∃ k,k≤bits.length∧∀ f,qie ll dl B most (f+k) (p,[],0)=qie ll dl B most f (p+bits.length,out,0):=by
 induction h with
 | nil=>intro p r hp hd hm; exact ⟨0,Nat.le_refl _,fun f=>rfl⟩
 | @lit bits out b h h0 h1 hl ih =>
   intro p r hp hd hm
   rw [List.length_append,List.length_singleton] at hm
   rw [List.append_assoc] at hd
   obtain ⟨k,hk,ih⟩:=ih hp hd (by omega)
   have hs:=qyk hl
   refine ⟨k+1,by rw [List.length_append]; omega,fun f=>?_⟩
   rw [show f+(k+1)=(f+1)+k by omega,ih,qtq hcl hl h0 h1 f (quc hd)]
   unfold qqn
   rw [if_neg (by simp),if_neg (by simp only; omega),List.length_append,Nat.add_assoc]
 | @copy bits out n d s e x s2 e2 x2 h h3 h258 hdd hdo hs hs2 hl hdl ih =>
   intro p r hp hd hm
   rw [qoj] at hm
   rw [List.append_assoc] at hd
   obtain ⟨k,hk,ih⟩:=ih hp hd (by omega)
   have hr:=qbn hs
   have hsp:=qyk hl
   refine ⟨k+1,by simp only [List.length_append]; omega,fun f=>?_⟩
   have l1:=qed hd
   have hd2:=quc hd
   rw [List.append_assoc] at hd2
   have l2:=qed hd2
   have hd3:=quc hd2
   simp only [List.append_assoc] at hd3
   rw [show f+(k+1)=(f+1)+k by omega,ih,qqp hcl hl hr.1 hr.2 f hd2,qws hcd h3 hs hs2 hdl hdd (by omega) hd3,if_neg (by omega),zcp_full _ _ _ _ (by omega)]
   simp only [List.length_append,Nat.add_assoc]
theorem Gx.short {bits:List Bool} {out:List Int} (hcl:okC ll) (hcd:okC dl) (h:Gx ll dl bits out):∀ {p:Nat} {r:List Bool},p≤B.length→B.drop p=bits ++ r→0≤most→most < (out.length:Int) →
 ∀ f,(qie ll dl B most (f+bits.length) (p,[],0)).2.2=5:=by
 induction h with
 | nil=>intro p r hp hd h0 hm; simp at hm; omega
 | @lit bits out b h h0 h1 hl ih =>
   intro p r hp hd hm0 hm
   rw [List.append_assoc] at hd
   have hs:=qyk hl
   intro f
   rw [List.length_append]
   by_cases hle:(out.length:Int)≤most
   · obtain ⟨k,hk,hdec⟩:=Gx.dec (most:=most) hcl hcd h hp hd hle
     rw [List.length_append,List.length_singleton] at hm
     rw [show f+(bits.length+(qcd ll b.toNat).length)=((f+(bits.length - k)+((qcd ll b.toNat).length - 1))+1)+k by omega,hdec,qtq hcl hl h0 h1 _ (quc hd)]
     unfold qqn
     rw [if_neg (by simp),if_pos (by simp only; omega),quq _ (by simp)]
   · rw [show f+(bits.length+(qcd ll b.toNat).length)=(f+(qcd ll b.toNat).length)+bits.length by omega]
     exact ih hp hd hm0 (by omega) _
 | @copy bits out n d s e x s2 e2 x2 h h3 h258 hdd hdo hs hs2 hl hdl ih =>
   intro p r hp hd hm0 hm
   rw [List.append_assoc] at hd
   have hr:=qbn hs
   have hsp:=qyk hl
   intro f
   rw [qoj] at hm
   rw [List.length_append,List.length_append]
   by_cases hle:(out.length:Int)≤most
   · obtain ⟨k,hk,hdec⟩:=Gx.dec (most:=most) hcl hcd h hp hd hle
     have l1:=qed hd
     have hd2:=quc hd
     rw [List.append_assoc] at hd2
     have l2:=qed hd2
     have hd3:=quc hd2
     simp only [List.append_assoc] at hd3
     generalize (qi e x.toNat ++ (qcd dl s2.toNat ++ qi e2 x2.toNat)).length=q
     rw [show f+(bits.length+((qcd ll s.toNat).length+q))=((f+(bits.length - k)+((qcd ll s.toNat).length - 1)+q)+1)+k by omega,hdec,qqp hcl hl hr.1 hr.2 _ hd2,qws hcd h3 hs hs2 hdl hdd (by omega) hd3,if_neg (by omega)]
     have h5:=zcp_short (most:=most) (p+bits.length+(qcd ll s.toNat).length+((qi e x.toNat).length+((qcd dl s2.toNat).length+(qi e2 x2.toNat).length))) d n.toNat out hle (by omega)
     rw [quq _ (by rw [h5]; decide),h5]
   · rw [show f+(bits.length+((qcd ll s.toNat).length+(qi e x.toNat ++ (qcd dl s2.toNat ++ qi e2 x2.toNat)).length))=(f+((qcd ll s.toNat).length+(qi e x.toNat ++ (qcd dl s2.toNat ++ qi e2 x2.toNat)).length))+bits.length by omega]
     exact ih hp hd hm0 (by omega) _
theorem qbq {ls:List Int} (h:qcj ls true=0) (z:Z):qxg ls z=z:=by
 unfold qxg
 rw [if_neg (fun e=>e.2 h)]
theorem zblk_good {bits:List Bool} {out:List Int} {p:Nat} {r:List Bool} (hcl:okC ll) (hcd:okC dl) (hnl:qcj ll true=0) (hnd:qcj dl true=0) (h:Gx ll dl bits out) (hi:inC ll 256) (hp:p≤B.length) (hd:B.drop p=(bits ++ qcd ll 256) ++ r) (hm:(out.length:Int)≤most) :
 zblk ll dl B most (p,[],0)=(p+(bits ++ qcd ll 256).length,out,0):=by
 have hl:=qed hd
 rw [List.append_assoc] at hd
 rw [List.length_append] at hl
 have h256:¬ ((0:Int)=0∧ll.getD 256 0=0):=fun e=>by have:=hi.2; omega
 have ez:(if (((p,[],0):Z)).2.2=0∧ll.getD 256 0=0 then qkd 2 (p,[],0) else (p,[],0))=((p,[],0):Z):=if_neg h256
 unfold zblk
 rw [ez]
 rw [qbq hnl,qbq hnd]
 simp only
 rw [if_neg (fun e=>e rfl)]
 obtain ⟨k,hk,hdec⟩:=Gx.dec (most:=most) hcl hcd h hp hd hm
 have hs:=qyk hi
 rw [show B.length+1=((B.length - k)+1)+k by omega,hdec,zcodedG_end hcl hi _ (quc hd),List.length_append,Nat.add_assoc]
theorem qvs {bits:List Bool} {out:List Int} {p:Nat} {r:List Bool} (hcl:okC ll) (hcd:okC dl) (hnl:qcj ll true=0) (hnd:qcj dl true=0) (h:Gx ll dl bits out) (hi:inC ll 256) (hp:p≤B.length) (hd:B.drop p=(bits ++ qcd ll 256) ++ r) (h0:0≤most) (hm:most < (out.length:Int)) :
 (zblk ll dl B most (p,[],0)).2.2=5:=by
 have hl:=qed hd
 rw [List.append_assoc] at hd
 rw [List.length_append] at hl
 have h256:¬ ((0:Int)=0∧ll.getD 256 0=0):=fun e=>by have:=hi.2; omega
 have ez:(if (((p,[],0):Z)).2.2=0∧ll.getD 256 0=0 then qkd 2 (p,[],0) else (p,[],0))=((p,[],0):Z):=if_neg h256
 unfold zblk
 rw [ez]
 rw [qbq hnl,qbq hnd]
 simp only
 rw [if_neg (fun e=>e rfl)]
 rw [show B.length+1=(B.length+1 - bits.length)+bits.length by omega]
 exact Gx.short (most:=most) hcl hcd h hp hd h0 hm _
end
def tkB (ll dl:List Int) (t:Tk):List Bool :=
 if t.2.1=0 then qcd ll t.1.toNat
 else qcd ll (ofLen t.2.1).1.toNat ++ (qi (ofLen t.2.1).2.1 (ofLen t.2.1).2.2.toNat ++ (qcd dl (ofDis t.2.2).1.toNat ++ qi (ofDis t.2.2).2.1 (ofDis t.2.2).2.2.toNat))
def tksB (ll dl:List Int) (L:List Tk):List Bool:=L.flatMap (tkB ll dl)
def tkIn (ll dl:List Int) (t:Tk):Prop:=if t.2.1=0 then inC ll t.1.toNat else inC ll (ofLen t.2.1).1.toNat∧inC dl (ofDis t.2.2).1.toNat
theorem tks_gx {ll dl:List Int} {b:List Int} (hb:∀ x ∈ b,0≤x∧x < 256):∀ {n m:Nat} {L:List Tk},qng b n L m→n≤b.length→∀ {bits:List Bool},Gx ll dl bits (b.take n)→(∀ t ∈ L,tkIn ll dl t)→Gx ll dl (bits ++ tksB ll dl L) (b.take m):=by
 intro n m L h
 induction h with
 | nil n=>intro hn bits hg _; simpa [tksB] using hg
 | @lit n m r h hr ih =>
   intro hn bits hg hin
   have h1:=hb _ (List.getElem_mem h)
   have e1:b[n]=b.getD n 0:=by simp [List.getD,h]
   rw [e1] at h1
   have ht:=hin _ (List.mem_cons_self ..)
   have ht:inC ll (b.getD n 0).toNat:=ht
   have hg2:=Gx.lit hg h1.1 h1.2 ht
   rw [← qfh h] at hg2
   have:=ih (by omega) hg2 (fun t h=>hin t (List.mem_cons_of_mem _ h))
   rw [List.append_assoc] at this
   exact this
 | @copy n m k d r h3 h258 hd hdn hdf hk hs hr ih =>
   intro hn bits hg hin
   have ht:=hin _ (List.mem_cons_self ..)
   have hk0:¬ ((k:Int)=0):=by omega
   unfold tkIn at ht
   rw [if_neg hk0] at ht
   have hl:(b.take n).length=n:=by rw [List.length_take]; omega
   have hg2:=Gx.copy (n:=(k:Int)) (d:=(d:Int)) hg (by omega) (by omega) (by omega) (by omega) (qen (by omega) (by omega)) (qdl (by omega) (by omega)) ht.1 ht.2
   rw [show ((k:Int)).toNat=k from rfl,qnt hd k n hdn hk hs] at hg2
   have:=ih hk hg2 (fun t h=>hin t (List.mem_cons_of_mem _ h))
   rw [List.append_assoc] at this
   show Gx ll dl (bits ++ (tkB ll dl (0,(k:Int),(d:Int)) ++ tksB ll dl r)) _
   unfold tkB
   rw [if_neg hk0]
   exact this
end Go.Proofs.YtejnemneenjliaaGreat
namespace Go.Proofs.YtejnemneenjliaaGreat
open Go Go.Proofs
set_option linter.unusedVariables false
set_option linter.unusedSimpArgs false
abbrev Pc:=Int × Int × Int
inductive Runs (l:List Int):Nat→List Pc→Prop
 | nil:Runs l l.length []
 | one {i:Nat} {r:List Pc} (h:i < l.length) (h0:0≤l.getD i 0) (h1:l.getD i 0 < 16):Runs l (i+1) r→Runs l i ((l.getD i 0,0,0) :: r)
 | old {i k:Nat} {r:List Pc} (hi:0 < i) (h3:3≤k) (h6:k≤6) (hk:i+k≤l.length) (hs:∀ j,j < k→l.getD (i+j) 0=l.getD (i - 1) 0):Runs l (i+k) r→Runs l i ((16,(k:Int) - 3,2) :: r)
 | few {i k:Nat} {r:List Pc} (h3:3≤k) (h10:k≤10) (hk:i+k≤l.length) (hs:∀ j,j < k→l.getD (i+j) 0=0):Runs l (i+k) r→Runs l i ((17,(k:Int) - 3,3) :: r)
 | many {i k:Nat} {r:List Pc} (h11:11≤k) (h138:k≤138) (hk:i+k≤l.length) (hs:∀ j,j < k→l.getD (i+j) 0=0):Runs l (i+k) r→Runs l i ((18,(k:Int) - 11,7) :: r)
theorem Runs.le {l:List Int} {i:Nat} {ps:List Pc} (h:Runs l i ps):i+ps.length≤l.length:=by
 induction h with
 | nil=>simp
 | one h _ _ _ ih=>rw [List.length_cons]; omega
 | old _ h3 _ _ _ _ ih=>rw [List.length_cons]; omega
 | few h3 _ _ _ _ ih=>rw [List.length_cons]; omega
 | many h3 _ _ _ _ ih=>rw [List.length_cons]; omega
def pcOk (p:Pc):Prop:=0≤p.1∧p.1 < 19∧0≤p.2.2∧p.2.2≤7
theorem Runs.ok {l:List Int} {i:Nat} {ps:List Pc} (h:Runs l i ps):∀ p ∈ ps,pcOk p:=by
 induction h with
 | nil=>intro p hp; cases hp
 | one h h0 h1 _ ih=>intro p hp; exact (List.mem_cons.1 hp).elim (fun e=>by subst e; exact ⟨h0,by simp only; omega,by simp,by simp⟩) (ih p)
 | old _ h3 _ _ _ _ ih=>intro p hp; exact (List.mem_cons.1 hp).elim (fun e=>by subst e; exact ⟨by simp,by simp,by simp,by simp⟩) (ih p)
 | few h3 _ _ _ _ ih=>intro p hp; exact (List.mem_cons.1 hp).elim (fun e=>by subst e; exact ⟨by simp,by simp,by simp,by simp⟩) (ih p)
 | many h3 _ _ _ _ ih=>intro p hp; exact (List.mem_cons.1 hp).elim (fun e=>by subst e; exact ⟨by simp,by simp,by simp,by simp⟩) (ih p)
theorem take_rep {l:List Int} {i:Nat} {v:Int}:∀ {k:Nat},i+k≤l.length→(∀ j,j < k→l.getD (i+j) 0=v)→l.take (i+k)=l.take i ++ List.replicate k v:=by
 intro k
 induction k with
 | zero=>intro _ _; simp
 | succ k ih =>
   intro h hs
   rw [show i+(k+1)=(i+k)+1 by omega,qfh (by omega),ih (by omega) (fun j hj=>hs j (by omega)),hs k (by omega),List.append_assoc,List.replicate_succ']
def pcB (cl:List Int) (p:Pc):List Bool:=qcd cl p.1.toNat ++ qi p.2.1 p.2.2.toNat
def pcsB (cl:List Int) (ps:List Pc):List Bool:=ps.flatMap (pcB cl)
section
variable {B:List Bool} {most:Int} {cl l:List Int} {out:List Int}
theorem qzn {N:Nat} {l:List Int} {p q q2 k:Nat} {s v:Int} (hs:quj cl B (p,out,0)=(s,(q,out,0))) (ha:qjf B s l (q,out,0)=((v,(k:Int)),(q2,out,0))) (hk:l.length+k≤N) :
 zllS cl B N l (p,out,0)=(l ++ List.replicate k v,(q2,out,0)):=by
 unfold zllS
 simp only
 rw [hs]
 simp only
 rw [ha]
 simp only
 have e:(if (N:Int) - (l.length:Int) < (k:Int) then qkd 2 (q2,out,0) else (q2,out,0))=((q2,out,0):Z):=if_neg (by omega)
 rw [e,if_pos rfl,Int.toNat_natCast]
theorem qzp {N f:Nat} {l l2:List Int} {z z2:Z} (h0:z.2.2=0) (hN:l.length < N) (h:zllS cl B N l z=(l2,z2)):zll cl B N (f+1) l z=zll cl B N f l2 z2:=by
 rw [zll,if_neg (by omega),h]
theorem zll_runs {i:Nat} {ps:List Pc} (hc:okC cl) (hr:Runs l i ps):(∀ p ∈ ps,inC cl p.1.toNat)→∀ {p:Nat} {r:List Bool},p≤B.length→B.drop p=pcsB cl ps ++ r→∀ f,ps.length≤f →
 zll cl B l.length f (l.take i) (p,out,0)=(l,(p+(pcsB cl ps).length,out,0)):=by
 induction hr with
 | nil =>
   intro _ p r hp hd f hf
   rw [List.take_length]
   cases f with
   | zero=>rfl
   | succ f=>rw [zll,if_pos (Or.inr (Nat.le_refl _))]; rfl
 | @one i rr h h0 h1 hr ih =>
   intro hin p r hp hd f hf
   rw [List.length_cons] at hf
   obtain ⟨f,rfl⟩:∃ g,f=g+1:=⟨f - 1,by omega⟩
   have hi:inC cl (l.getD i 0).toNat:=hin _ (List.mem_cons_self ..)
   have e:pcsB cl ((l.getD i 0,0,0) :: rr)=qcd cl (l.getD i 0).toNat ++ pcsB cl rr:=by
    show (qcd cl (l.getD i 0).toNat ++ qi 0 (0:Int).toNat) ++ pcsB cl rr=_
    rw [show qi 0 (0:Int).toNat=[] from rfl,List.append_nil]
   rw [e,List.append_assoc] at hd
   have hl:=qed hd
   have hs:=qcm hc hi hd (out:=out)
   have hll:(l.take i).length=i:=by rw [List.length_take]; omega
   have st:=qzn (N:=l.length) (l:=l.take i) (k:=1) (v:=l.getD i 0) hs (by
    unfold qjf
    rw [if_neg (by omega),if_neg (by omega),if_neg (by omega),show (((l.getD i 0).toNat:Nat):Int)=l.getD i 0 by omega]
    rfl) (by omega)
   rw [qzp rfl (by omega) st,show l.take i ++ List.replicate 1 (l.getD i 0)=l.take (i+1) from (qfh h).symm,ih (fun p hp=>hin p (List.mem_cons_of_mem _ hp)) (by omega) (quc hd) f (by omega),e,List.length_append,Nat.add_assoc]
 | @old i k rr hi0 h3 h6 hk hs hr ih =>
   intro hin p r hp hd f hf
   rw [List.length_cons] at hf
   obtain ⟨f,rfl⟩:∃ g,f=g+1:=⟨f - 1,by omega⟩
   have hi:inC cl 16:=hin _ (List.mem_cons_self ..)
   have e:pcsB cl ((16,(k:Int) - 3,2) :: rr)=qcd cl 16 ++ (qi ((k:Int) - 3) 2 ++ pcsB cl rr):=List.append_assoc ..
   rw [e,List.append_assoc,List.append_assoc] at hd
   have hl:=qed hd
   have hs1:=qcm hc hi hd (out:=out)
   have hd2:=quc hd
   have hl2:=qed hd2
   have hg:=qqg (out:=out) (n:=2) hd2 (by rw [qk]; rfl) (by rw [qk]; omega) (by omega)
   have vs:=qof (e:=(k:Int) - 3) (x:=2) (by omega) (by show (k:Int) - 3 < 4; omega)
   rw [show (2:Int).toNat=2 from rfl] at vs
   rw [vs] at hg
   have hll:(l.take i).length=i:=by rw [List.length_take]; omega
   have st:=qzn (N:=l.length) (l:=l.take i) (k:=k) (v:=l.getD (i - 1) 0) hs1 (by
    unfold qjf
    rw [if_pos (show ((16:Nat):Int)=16 from rfl),if_neg (by omega),hll,qbr (by omega),hg]
    simp only
    rw [show (3:Int)+((k:Int) - 3)=k by omega]) (by omega)
   rw [qzp rfl (by omega) st,← take_rep hk hs,ih (fun p hp=>hin p (List.mem_cons_of_mem _ hp)) (by omega) (quc hd2) f (by omega),e,List.length_append,List.length_append,Nat.add_assoc,Nat.add_assoc]
 | @few i k rr h3 h10 hk hs hr ih =>
   intro hin p r hp hd f hf
   rw [List.length_cons] at hf
   obtain ⟨f,rfl⟩:∃ g,f=g+1:=⟨f - 1,by omega⟩
   have hi:inC cl 17:=hin _ (List.mem_cons_self ..)
   have e:pcsB cl ((17,(k:Int) - 3,3) :: rr)=qcd cl 17 ++ (qi ((k:Int) - 3) 3 ++ pcsB cl rr):=List.append_assoc ..
   rw [e,List.append_assoc,List.append_assoc] at hd
   have hl:=qed hd
   have hs1:=qcm hc hi hd (out:=out)
   have hd2:=quc hd
   have hl2:=qed hd2
   have hg:=qqg (out:=out) (n:=3) hd2 (by rw [qk]; rfl) (by rw [qk]; omega) (by omega)
   have vs:=qof (e:=(k:Int) - 3) (x:=3) (by omega) (by show (k:Int) - 3 < 8; omega)
   rw [show (3:Int).toNat=3 from rfl] at vs
   rw [vs] at hg
   have hll:(l.take i).length=i:=by rw [List.length_take]; omega
   have st:=qzn (N:=l.length) (l:=l.take i) (k:=k) (v:=0) hs1 (by
    unfold qjf
    rw [if_neg (by decide),if_pos (show ((17:Nat):Int)=17 from rfl),hg]
    simp only
    rw [show (3:Int)+((k:Int) - 3)=k by omega]) (by omega)
   rw [qzp rfl (by omega) st,← take_rep hk hs,ih (fun p hp=>hin p (List.mem_cons_of_mem _ hp)) (by omega) (quc hd2) f (by omega),e,List.length_append,List.length_append,Nat.add_assoc,Nat.add_assoc]
 | @many i k rr h11 h138 hk hs hr ih =>
   intro hin p r hp hd f hf
   rw [List.length_cons] at hf
   obtain ⟨f,rfl⟩:∃ g,f=g+1:=⟨f - 1,by omega⟩
   have hi:inC cl 18:=hin _ (List.mem_cons_self ..)
   have e:pcsB cl ((18,(k:Int) - 11,7) :: rr)=qcd cl 18 ++ (qi ((k:Int) - 11) 7 ++ pcsB cl rr):=List.append_assoc ..
   rw [e,List.append_assoc,List.append_assoc] at hd
   have hl:=qed hd
   have hs1:=qcm hc hi hd (out:=out)
   have hd2:=quc hd
   have hl2:=qed hd2
   have hg:=qqg (out:=out) (n:=7) hd2 (by rw [qk]; rfl) (by rw [qk]; omega) (by omega)
   have vs:=qof (e:=(k:Int) - 11) (x:=7) (by omega) (by show (k:Int) - 11 < 128; omega)
   rw [show (7:Int).toNat=7 from rfl] at vs
   rw [vs] at hg
   have hll:(l.take i).length=i:=by rw [List.length_take]; omega
   have st:=qzn (N:=l.length) (l:=l.take i) (k:=k) (v:=0) hs1 (by
    unfold qjf
    rw [if_neg (by decide),if_neg (by decide),if_pos (show ((18:Nat):Int)=18 from rfl),hg]
    simp only
    rw [show (11:Int)+((k:Int) - 11)=k by omega]) (by omega)
   rw [qzp rfl (by omega) st,← take_rep hk hs,ih (fun p hp=>hin p (List.mem_cons_of_mem _ hp)) (by omega) (quc hd2) f (by omega),e,List.length_append,List.length_append,Nat.add_assoc,Nat.add_assoc]
end
theorem tw_spec (v:Int):∀ m:List Int,(m.takeWhile (· == v)).length≤m.length∧(∀ j,j < (m.takeWhile (· == v)).length→m.getD j 0=v)∧((m.takeWhile (· == v)).length < m.length→m.getD (m.takeWhile (· == v)).length 0 ≠ v):=by
 intro m
 induction m with
 | nil=>exact ⟨Nat.le_refl _,fun j hj=>by simp at hj,fun h=>by simp at h⟩
 | cons x m ih =>
   obtain ⟨h1,h2,h3⟩:=ih
   by_cases hx:x=v
   · rw [List.takeWhile_cons_of_pos (by simpa using hx)]
     refine ⟨by simp only [List.length_cons]; omega,fun j hj=>?_,fun h=>?_⟩
     · cases j with
       | zero=>simpa using hx
       | succ j=>simp only [List.length_cons] at hj; simpa using h2 j (by omega)
     · simp only [List.length_cons] at h ⊢
       simpa using h3 (by omega)
   · rw [List.takeWhile_cons_of_neg (by simpa using hx)]
     exact ⟨by simp,fun j hj=>by simp at hj,fun h=>by simpa using hx⟩
def qok (l:List Int) (i:Nat):Nat:=((l.drop (i+1)).takeWhile (· == l.getD i 0)).length+1
theorem qgr {l:List Int} {i:Nat} (hi:i < l.length):i+qok l i≤l.length∧(∀ j,j < qok l i→l.getD (i+j) 0=l.getD i 0)∧(i+qok l i < l.length→l.getD (i+qok l i) 0 ≠ l.getD i 0):=by
 obtain ⟨h1,h2,h3⟩:=tw_spec (l.getD i 0) (l.drop (i+1))
 rw [List.length_drop] at h1 h3
 have gd:∀ j,(l.drop (i+1)).getD j 0=l.getD (i+(j+1)) 0:=fun j=>by simp [List.getD,List.getElem?_drop]; congr 2; omega
 unfold qok
 refine ⟨by omega,fun j hj=>?_,fun h=>?_⟩
 · cases j with
   | zero=>rfl
   | succ j=>rw [← gd]; exact h2 j (by omega)
 · rw [← gd]; exact h3 (by omega)
theorem runK_eq {l:List Int} {i n:Nat} (hi:i < l.length) (h1:i+n≤l.length) (h2:∀ j,j < n→l.getD (i+j) 0=l.getD i 0) (h3:i+n < l.length→l.getD (i+n) 0 ≠ l.getD i 0):n=qok l i:=by
 obtain ⟨g1,g2,g3⟩:=qgr hi
 rcases Nat.lt_trichotomy n (qok l i) with h | h | h
 · exact absurd (g2 n h) (h3 (by omega))
 · exact h
 · exact absurd (h2 _ h) (g3 (by omega))
theorem runK_pos (l:List Int) (i:Nat):1≤qok l i:=by unfold qok; omega
def runP (l:List Int) (i:Nat):Pc × Nat :=
 if l.getD i 0=0∧11≤qok l i then ((18,((min (qok l i) 138:Nat):Int) - 11,7),min (qok l i) 138)
 else if l.getD i 0=0∧3≤qok l i then ((17,(qok l i:Int) - 3,3),qok l i)
 else if (0 < i∧l.getD i 0=l.getD (i - 1) 0)∧3≤qok l i then ((16,((min (qok l i) 6:Nat):Int) - 3,2),min (qok l i) 6)
 else ((l.getD i 0,0,0),1)
def runsF (l:List Int):Nat→Nat→List Pc
 | 0,_=>[]
 | f+1,i=>if l.length≤i then [] else (runP l i).1 :: runsF l f (i+(runP l i).2)
def runsL (l:List Int):List Pc:=runsF l l.length 0
theorem runP_pos (l:List Int) (i:Nat):1≤(runP l i).2:=by
 have:=runK_pos l i
 unfold runP
 split
 · simp only; omega
 · split
   · simp only; omega
   · split
     · simp only; omega
     · simp
theorem runP_le {l:List Int} {i:Nat} (hi:i < l.length):i+(runP l i).2≤l.length:=by
 have:=(qgr hi).1
 unfold runP
 split
 · simp only; omega
 · split
   · simp only; omega
   · split
     · simp only; omega
     · simp only; omega
theorem runsF_runs {l:List Int} (hl:∀ x ∈ l,0≤x∧x < 16):∀ f i,i≤l.length→l.length - i≤f→Runs l i (runsF l f i):=by
 intro f
 induction f with
 | zero =>
   intro i hi hf
   have:i=l.length:=by omega
   subst this; exact Runs.nil
 | succ f ih =>
   intro i hi hf
   rw [runsF]
   by_cases hi2:l.length≤i
   · have:i=l.length:=by omega
     subst this; rw [if_pos hi2]; exact Runs.nil
   · rw [if_neg hi2]
     have hi2:i < l.length:=by omega
     have hp:=runP_pos l i
     have hle:=runP_le hi2
     have ih:=ih (i+(runP l i).2) hle (by omega)
     obtain ⟨g1,g2,g3⟩:=qgr hi2
     revert ih
     generalize runsF l f (i+(runP l i).2)=rr
     unfold runP
     split
     · rename_i h1
       intro ih
       exact Runs.many (by omega) (by omega) (by omega) (fun j hj=>by rw [g2 j (by omega)]; exact h1.1) ih
     · split
       · rename_i h0 h1
         intro ih
         have:qok l i < 11:=by
          rcases Nat.lt_or_ge (qok l i) 11 with h | h
          · exact h
          · exact absurd ⟨h1.1,h⟩ h0
         exact Runs.few (by omega) (by omega) (by omega) (fun j hj=>by rw [g2 j (by omega)]; exact h1.1) ih
       · split
         · rename_i h1
           intro ih
           exact Runs.old h1.1.1 (by omega) (by omega) (by omega) (fun j hj=>by rw [g2 j (by omega)]; exact h1.1.2) ih
         · intro ih
           have hx:=hl _ (List.getElem_mem hi2)
           rw [show l[i]=l.getD i 0 by simp [List.getD,hi2]] at hx
           exact Runs.one hi2 hx.1 hx.2 ih
theorem runsL_runs {l:List Int} (hl:∀ x ∈ l,0≤x∧x < 16):Runs l 0 (runsL l):=runsF_runs hl _ _ (Nat.zero_le _) (by omega)
def qbi (l:List Int) (m:Nat):Nat→Nat
 | 0=>0
 | n+1=>if m < n+1∧l.getD n 0=0 then qbi l m n else n+1
theorem trimN_le (l:List Int) (m:Nat):∀ n,qbi l m n≤n:=by
 intro n
 induction n with
 | zero=>exact Nat.le_refl _
 | succ n ih=>rw [qbi]; split <;> omega
theorem trimN_ge (l:List Int) (m:Nat):∀ n,m≤n→m≤qbi l m n:=by
 intro n
 induction n with
 | zero=>intro h; exact h
 | succ n ih=>
   intro h
   rw [qbi]
   split
   · exact ih (by omega)
   · exact h
theorem trimN_no (l:List Int) (m:Nat):∀ n j,qbi l m n≤j→j < n→l.getD j 0=0:=by
 intro n
 induction n with
 | zero=>intro j _ h; omega
 | succ n ih =>
   intro j h1 h2
   rw [qbi] at h1
   split at h1
   · rename_i hc
     rcases Nat.lt_or_ge j n with h | h
     · exact ih j h1 h
     · rw [show j=n by omega]; exact hc.2
   · omega
theorem hc_nought (l:List Int) (n:Nat):hc (l ++ [0]) n=hc l n:=by
 rw [qqm,if_neg (by omega),Nat.add_zero]
theorem hf_nought (l:List Int):∀ n,hf (l ++ [0]) n=hf l n:=by
 intro n
 induction n with
 | zero=>rfl
 | succ n ih=>rw [hf,hf,ih,hc_nought]
theorem qnr (l:List Int):kr (l ++ [0])=kr l:=by rw [kr_snoc,if_neg (by omega),Nat.add_zero]
theorem sbits_nought {l:List Int} {s:Nat} (hs:s < l.length):qcd (l ++ [0]) s=qcd l s:=by
 unfold qcd
 rw [qxj hs]
 unfold qbg
 rw [qxj hs,hf_nought,List.take_append_of_le_length (by omega)]
theorem inC_nought {l:List Int} {s:Nat} (h:inC (l ++ [0]) s):inC l s:=by
 obtain ⟨h1,h2⟩:=h
 rw [List.length_append,List.length_singleton] at h1
 rcases Nat.lt_or_ge s l.length with h | h
 · rw [qxj h] at h2; exact ⟨h,h2⟩
 · rw [show s=l.length by omega,qpo] at h2; omega
theorem okC_nought {l:List Int} (h:okC (l ++ [0])):okC l:=⟨(okL_snoc h.1).1,by have:=h.2; rwa [qnr] at this⟩
theorem hnew_nought {l:List Int} (h:qcj (l ++ [0]) true=0):qcj l true=0:=by
 obtain ⟨h1,h2,h3,h4⟩:=qtr (hnew_ok h)
 have k1:okL l:=(okL_snoc h1).1
 rw [List.length_append] at h3
 have k2:kr l≤32768:=by rwa [qnr] at h2
 have c:qwl l=(decide (kr l=32768),0):=by
  unfold qwl
  rw [if_neg (by simp at h3; omega),if_neg (by simpa using k1),if_neg (by omega)]
 have c2:qwl (l ++ [0])=(decide (kr l=32768),0):=by
  rw [← qnr l]
  exact Prod.ext h4 (hnew_ok h)
 have hh:hhalf (l ++ [0])=hhalf l:=by
  rw [qfq h1,qfq k1]
  simp
 unfold qcj at h ⊢
 rw [c2,hh] at h
 rw [c]
 exact h
theorem trim_code {l:List Int} (m:Nat):∀ n,n≤l.length→okC (l.take n)→qcj (l.take n) true=0 →
 okC (l.take (qbi l m n))∧qcj (l.take (qbi l m n)) true=0∧∀ s,inC (l.take n) s→inC (l.take (qbi l m n)) s∧qcd (l.take (qbi l m n)) s=qcd (l.take n) s:=by
 intro n
 induction n with
 | zero=>intro _ h1 h2; exact ⟨h1,h2,fun s h=>⟨h,rfl⟩⟩
 | succ n ih =>
   intro hn h1 h2
   rw [qbi]
   split
   · rename_i hc
     rw [qfh (by omega),hc.2] at h1 h2 ⊢
     obtain ⟨k1,k2,k3⟩:=ih (by omega) (okC_nought h1) (hnew_nought h2)
     refine ⟨k1,k2,fun s hs=>?_⟩
     have hs:=inC_nought hs
     obtain ⟨k4,k5⟩:=k3 s hs
     exact ⟨k4,by rw [k5,sbits_nought hs.1]⟩
   · exact ⟨h1,h2,fun s h=>⟨h,rfl⟩⟩
end Go.Proofs.YtejnemneenjliaaGreat
namespace Go.Proofs.YtejnemneenjliaaGreat
open Go Go.Proofs
set_option linter.unusedVariables false
set_option linter.unusedSimpArgs false
attribute [local irreducible] apK cpK mkK br
section
variable {most:Int} {bits:List Bool} {out:List Int}
theorem Fx.bytes (h:Fx bits out):∀ x ∈ out,0≤x∧x < 256:=by
 induction h with
 | nil=>intro x hx; simp at hx
 | lit h h0 h1 ih =>
   intro x hx
   rcases List.mem_append.1 hx with hx | hx
   · exact ih x hx
   · rw [List.mem_singleton.1 hx]; exact ⟨h0,h1⟩
 | copy h _ _ _ _ _ _ ih=>exact tkCopy_b _ _ _ ih
end
end Go.Proofs.YtejnemneenjliaaGreat
namespace Go.Proofs.YtejnemneenjliaaGreat
open Go Go.Proofs
set_option linter.unusedVariables false
set_option linter.unusedSimpArgs false
attribute [local irreducible] apK cpK mkK br
theorem xorV_nat {a b:Nat} (ha:a < 9223372036854775808) (hb:b < 9223372036854775808):qyl .i64 (a:Int) (b:Int)=((a ^^^ b:Nat):Int):=by
 have hx:a ^^^ b < 2 ^ 63:=Nat.xor_lt_two_pow (by simpa using ha) (by simpa using hb)
 have e:(BitVec.ofInt 64 (a:Int) ^^^ BitVec.ofInt 64 (b:Int)).toNat=a ^^^ b:=by
  rw [BitVec.ofInt_natCast,BitVec.ofInt_natCast,BitVec.toNat_xor,BitVec.toNat_ofNat,BitVec.toNat_ofNat,Nat.mod_eq_of_lt (by omega),Nat.mod_eq_of_lt (by omega)]
 show IntKind.i64.wrap (((BitVec.ofInt 64 (a:Int) ^^^ BitVec.ofInt 64 (b:Int)).toNat:Nat):Int)=_
 rw [e]
 generalize a ^^^ b=c at hx
 exact qd (by omega) (by omega)
theorem xor_good {a:Nat} (ha:a < 65536):(65535 ^^^ a) < 65536∧a ^^^ (65535 ^^^ a)=65535:=by
 refine ⟨Nat.xor_lt_two_pow (n:=16) (by decide) ha,?_⟩
 rw [Nat.xor_comm 65535 a,← Nat.xor_assoc,Nat.xor_self,Nat.zero_xor]
inductive ZGo (B:List Bool) (most:Int):Z→Z→Prop
 | refl (z:Z):ZGo B most z z
 | step {z z1:Z} (h:ZGo B most z z1) (h2:znot2 B z1) (he:(zblock B most z1).2.2.2=0) (hl:(zblock B most z1).1=false):ZGo B most z (zblock B most z1).2
theorem ZGo.run {B:List Bool} {most:Int} {z z1 z':Z} (h:ZGo B most z z1):∀ {n:Nat},ZRun B most n z1 z'→∃ m,ZRun B most m z z':=by
 induction h with
 | refl=>intro n hr; exact ⟨n,hr⟩
 | step h h2 he hl ih=>intro n hr; exact ih (ZRun.next h2 he hl hr)
def bb (ys:List Int):List Bool:=ys.flatMap fun x=>qi x 8
theorem qxo (ys:List Int):(bb ys).length=8 * ys.length:=by
 induction ys with
 | nil=>rfl
 | cons y ys ih =>
   have:bb (y :: ys)=qi y 8 ++ bb ys:=rfl
   rw [this,List.length_append,ih,qk,List.length_cons]; omega
theorem bb_snoc (ys:List Int) (y:Int):bb (ys ++ [y])=bb ys ++ qi y 8:=by simp [bb]
theorem zst_full {B:List Bool} {most:Int}:∀ (ys:List Int) (p:Nat) (out:List Int) (r:List Bool),(∀ y ∈ ys,0≤y∧y < 256)→p≤B.length→B.drop p=bb ys ++ r→(out.length+ys.length:Int)≤most→zst B most ys.length (p,out,0)=(p+8 * ys.length,out ++ ys,0):=by
 intro ys
 induction ys with
 | nil=>intro p out r _ _ _ _; simp [zst]
 | cons y ys ih =>
   intro p out r hy hp hd hm
   rw [List.length_cons] at hm
   have e:bb (y :: ys)=qi y 8 ++ bb ys:=rfl
   rw [e,List.append_assoc] at hd
   have l1:=qed hd
   have hy0:=hy y (by simp)
   rw [qk] at l1
   have hd2:=quc hd
   rw [qk] at hd2
   rw [List.length_cons,zst,qqg hd (by rw [qk]; rfl) (by rw [qk]; decide) hp]
   simp only
   rw [show (qi y 8:List Bool)=qi y (8:Int).toNat from rfl,qof (x:=8) hy0.1 (by have:(2:Int) ^ (8:Int).toNat=256:=by decide
                                                                                omega)]
   unfold qqn
   rw [if_neg (by simp),if_neg (by simp only; omega)]
   simp only
   rw [show (qi y (8:Int).toNat).length=8 from qk _ _]
   by_cases hn:ys=[]
   · subst hn; simp [zst]
   have h3:0 < ys.length:=List.length_pos_iff.2 hn
   have hle:p+8≤B.length:=by omega
   rw [ih (p+8) (out ++ [y]) r (fun x hx=>hy x (by simp [hx])) hle hd2 (by rw [List.length_append,List.length_singleton]; omega)]
   simp only [List.append_assoc,List.singleton_append]
   rw [show p+8+8 * ys.length=p+8 * (ys.length+1) by omega]
theorem zstored_at {B r pd:List Bool} {most:Int} {p c:Nat} {lb:Bool} {out ys:List Int} (hy:∀ y ∈ ys,0≤y∧y < 256) (hp:p≤B.length) (hys:ys.length < 65536) (hc:c < 65536)
 (hpd:pd.length=8 * ((p+3+7) / 8) - (p+3)) (hm:(out.length+ys.length:Int)≤most)
 (hd:B.drop p=[lb] ++ ([false,false] ++ (pd ++ (qi (ys.length:Int) 16 ++ (qi (c:Int) 16 ++ (bb ys ++ r)))))) :
 znot2 B (p,out,0)∧(ys.length ^^^ c ≠ 65535→(zblock B most (p,out,0)).2.2.2=2) ∧
 (ys.length ^^^ c=65535→zblock B most (p,out,0)=(lb,(p+3+pd.length+32+8 * ys.length,out ++ ys,0))):=by
 have l1:=qed hd
 have g1:=qqg (B:=B) (out:=out) (n:=1) hd rfl (by simp) hp
 have hd2:=quc hd
 have l2:=qed hd2
 have g2:=qqg (B:=B) (out:=out) (n:=2) hd2 rfl (by decide) (by simp only [List.length_cons,List.length_nil] at l1 ⊢; omega)
 have hd3:=quc hd2
 have l3:=qed hd3
 have hd4:=quc hd3
 have l4:=qed hd4
 have hd5:=quc hd4
 have l5:=qed hd5
 have hd6:=quc hd5
 simp only [List.length_cons,List.length_nil,qk] at l1 l2 l3 l4 l5 hd2 hd3 hd4 hd5 hd6 g1 g2
 have ep:8 * ((p+3+7) / 8)=p+3+pd.length:=by omega
 have e16:(2:Int) ^ (16:Int).toNat=65536:=by decide
 have g3:=qqg (B:=B) (out:=out) (n:=16) hd4 (by rw [qk]; rfl) (by rw [qk]; decide) (by omega)
 have g4:=qqg (B:=B) (out:=out) (n:=16) hd5 (by rw [qk]; rfl) (by rw [qk]; decide) (by omega)
 rw [show (qi (ys.length:Int) 16:List Bool)=qi (ys.length:Int) (16:Int).toNat from rfl,qof (x:=16) (by omega) (by rw [e16]; omega)] at g3
 rw [show (qi (c:Int) 16:List Bool)=qi (c:Int) (16:Int).toNat from rfl,qof (x:=16) (by omega) (by rw [e16]; omega)] at g4
 rw [qk] at g3 g4
 have e0:(16:Int).toNat=16:=rfl
 rw [e0] at g3 g4
 have st:zstored B most (p+3,out,0)=if ((ys.length ^^^ c:Nat):Int) ≠ 65535 then qkd 2 (p+3+pd.length+32,out,0) else zst B most ys.length (p+3+pd.length+32,out,0):=by
  unfold zstored
  simp only
  rw [ep]
  rw [show p+1+2+pd.length=p+3+pd.length by omega] at g3
  rw [show p+1+2+pd.length+16=p+3+pd.length+16 by omega] at g4
  rw [g3]
  simp only
  rw [g4]
  simp only
  rw [if_neg (by simp),xorV_nat (by omega) (by omega),Int.toNat_natCast]
  split
  · rfl
  · rw [if_neg (by omega)]
 have zb:zblock B most (p,out,0)=((val [lb]:Int) == 1,zstored B most (p+3,out,0)):=by
  unfold zblock
  simp only [g1]
  rw [g2]
  simp only
  rw [if_neg (by simp),if_pos (by decide)]
 refine ⟨Or.inr ?_,fun hne=>?_,fun he=>?_⟩
 · rw [g1]
   simp only
   rw [g2]
   simp only
   decide
 · rw [zb,st,if_pos (by omega)]
   rfl
 · rw [zb,st,if_neg (by omega)]
   rw [zst_full ys _ _ r hy (by omega) (by rw [show p+3+pd.length+32=p+1+2+pd.length+16+16 by omega]; exact hd6) hm]
   cases lb <;> rfl
theorem sls_at {L:List (Sl × List Int)} {i:Nat} (h:i < L.length):(sls L)[i]?=some (.slice L[i].1.a L[i].1.len L[i].1.cap):=by simp [sls,h]
def SGo (l:List Bool) (want:List Int):Prop:=∀ B r:List Bool,B=l ++ r→ZGo B 5000 (0,[],0) (l.length,want,0)
def SEnd (l:List Bool) (Q:Z→Prop):Prop:=∀ B r:List Bool,B=l ++ r→∃ n z',ZRun B 5000 n (0,[],0) z'∧Q z'
theorem SEnd.more {l:List Bool} {Q:Z→Prop} (h:SEnd l Q) (m:List Bool):SEnd (l ++ m) Q:=fun B r e=>h B (m ++ r) (by rw [e,List.append_assoc])
def blkBits (l:List Bool) (lb:Bool) (ys:List Int) (c:Nat):List Bool:=[lb] ++ ([false,false] ++ (pad (l ++ [lb] ++ [false,false]) ++ (qi (ys.length:Int) 16 ++ (qi (c:Int) 16 ++ bb ys))))
theorem pad_len (l:List Bool):(pad l).length=8 * ((l.length+7) / 8) - l.length:=by
 unfold pad
 rw [List.length_replicate]
 omega
theorem SGo.blk {l:List Bool} {want ys:List Int} {lb:Bool} {c:Nat} (h:SGo l want) (hy:∀ y ∈ ys,0≤y∧y < 256) (hys:ys.length < 65536) (hc:c < 65536) (hm:want.length+ys.length≤5000) :
 (ys.length ^^^ c ≠ 65535→SEnd (l ++ blkBits l lb ys c) fun z=>z.2.2=2) ∧
 (ys.length ^^^ c=65535→lb=true→SEnd (l ++ blkBits l lb ys c) fun z=>z=((l ++ blkBits l lb ys c).length,want ++ ys,0)) ∧
 (ys.length ^^^ c=65535→lb=false→SGo (l ++ blkBits l lb ys c) (want ++ ys)):=by
 have hpl:(pad (l ++ [lb] ++ [false,false])).length=8 * ((l.length+3+7) / 8) - (l.length+3):=by
  rw [pad_len]
  simp only [List.length_append,List.length_cons,List.length_nil]
 have hlen:(l ++ blkBits l lb ys c).length=l.length+3+(pad (l ++ [lb] ++ [false,false])).length+32+8 * ys.length:=by
  unfold blkBits
  simp only [List.length_append,List.length_cons,List.length_nil,qk,qxo]
  omega
 have at':∀ B r:List Bool,B=l ++ blkBits l lb ys c ++ r→_:=fun B r e =>
  zstored_at (B:=B) (r:=r) (pd:=pad (l ++ [lb] ++ [false,false])) (most:=5000) (p:=l.length) (c:=c) (lb:=lb) (out:=want) (ys:=ys) hy (by rw [e]; simp only [List.length_append]; omega) hys hc hpl (by omega) (by
   rw [e,List.append_assoc,List.drop_left' rfl]
   unfold blkBits
   simp only [List.append_assoc])
 refine ⟨fun hne B r e=>?_,fun he hl B r e=>?_,fun he hl B r e=>?_⟩
 · obtain ⟨a1,a2,_⟩:=at' B r e
   obtain ⟨m,hr⟩:=(h B (blkBits l lb ys c ++ r) (by rw [e,List.append_assoc])).run (ZRun.bad a1 (by rw [a2 hne]; decide))
   exact ⟨m,_,hr,a2 hne⟩
 · obtain ⟨a1,_,a3⟩:=at' B r e
   have a3:=a3 he
   obtain ⟨m,hr⟩:=(h B (blkBits l lb ys c ++ r) (by rw [e,List.append_assoc])).run (ZRun.last a1 (by rw [a3]) (by rw [a3]; exact hl))
   exact ⟨m,_,hr,by rw [a3,hlen]⟩
 · obtain ⟨a1,_,a3⟩:=at' B r e
   have a3:=a3 he
   have hg:=ZGo.step (h B (blkBits l lb ys c ++ r) (by rw [e,List.append_assoc])) a1 (by rw [a3]) (by rw [a3]; exact hl)
   rw [a3] at hg
   rw [hlen]
   exact hg
end Go.Proofs.YtejnemneenjliaaGreat
