/- Own texts as one, only what is reached (shake.py). -/
import Derived.Test.YtejnemneenjliaaGreatEna
import Derived.Below
import Derived.Test.YtejnemneenjliaaGreatProg
namespace Go.Proofs.YtejnemneenjliaaGreat
open Go Go.Proofs
set_option linter.unusedVariables false
set_option maxRecDepth 100000
def qz.j3  (Q:VWP) (w:World):Prop :=
 Q (.tuple ⟨[.int .i64 0,.int .i64 0,.int .i64 0,.int .i64 5]⟩) w
def qz.j6 (b_0:Sl) (k_6:Int) (v_7 i_8:Int) (Q:VWP) (nx1:Sl→Int→Int→Int→WP) (w:World):Prop :=
 lt (IntKind.i64.wrap (i_8+1)) fun x1 =>
 nx1 b_0 k_6 v_7 x1 w
def qz.j7 (b_0:Sl) (k_6:Int) (v_7 i_8:Int) (Q:VWP) (nx1:Sl→Int→Int→Int→WP) (w:World):Prop :=
 ixS b_0.a b_0.len i_8 1 fun a2 =>
 ldI .u8 w a2 fun x3 =>
 br (decide (x3 < 128)) (
 lt (IntKind.i64.wrap (i_8+1)) fun x4 =>
 Q (.tuple ⟨[.int .i64 k_6,.int .i64 v_7,.int .i64 x4,.int .i64 0]⟩) w) (
 qz.j6 b_0 k_6 v_7 i_8 Q nx1 w)
def qz.j5 (b_0:Sl) (k_6:Int) (v_7 i_8:Int) (Q:VWP) (nx1:Sl→Int→Int→Int→WP) (w:World):Prop :=
 br (i_8 == (b_0.len:Int)) (
 Q (.tuple ⟨[.int .i64 0,.int .i64 0,.int .i64 0,.int .i64 3]⟩) w) (
 br (i_8 == 0) (
 ixS b_0.a b_0.len 0 1 fun a5 =>
 ldI .u8 w a5 fun x6 =>
 (0:Int)≤4 ∧
 lt (qbj .u8 x6 4) fun x7 =>
 lt (qli .u8 x7 7) fun x8 =>
 lt (IntKind.i64.wrap x8) fun x9 =>
 ixS b_0.a b_0.len 0 1 fun a10 =>
 ldI .u8 w a10 fun x11 =>
 lt (qli .u8 x11 15) fun x12 =>
 lt (IntKind.i64.wrap x12) fun x13 =>
 qz.j7 b_0 x9 x13 i_8 Q nx1 w) (
 ixS b_0.a b_0.len i_8 1 fun a14 =>
 ldI .u8 w a14 fun x15 =>
 lt (qli .u8 x15 127) fun x16 =>
 lt (IntKind.i64.wrap x16) fun x17 =>
 lt (IntKind.i64.wrap (i_8 - 1)) fun x18 =>
 lt (IntKind.u64.wrap x18) fun x19 =>
 lt (IntKind.u64.wrap (7 * x19)) fun x20 =>
 lt (IntKind.u64.wrap (4+x20)) fun x21 =>
 (0:Int)≤x21 ∧
 lt (qqi .i64 x17 x21) fun x22 =>
 lt (orV .i64 v_7 x22) fun x23 =>
 qz.j7 b_0 k_6 x23 i_8 Q nx1 w))
def qz.b1 (b_0:Sl) (k_6:Int) (v_7 i_8:Int) (Q:VWP) (nx1:Sl→Int→Int→Int→WP) (w:World):Prop :=
 br (decide (i_8 < 8)) (
 qz.j5 b_0 k_6 v_7 i_8 Q nx1 w) (
 qz.j3 Q w)
def qz.l1 (b_0:Sl) (k_6:Int) (v_7 i_8:Int) (Q:VWP) (w:World):Prop :=
 ∃ (I:Int→Int→Int→WP) (μ:Int→Int→Int→World→Nat),I k_6 v_7 i_8 w∧∀ k_6:Int,∀ v_7:Int,∀ i_8:Int,∀ w:World,I k_6 v_7 i_8 w→qz.b1 b_0 k_6 v_7 i_8 Q (fun b_0' k_6' v_7' i_8' w'=>(b_0'=b_0)∧I k_6' v_7' i_8' w'∧μ k_6' v_7' i_8' w' < μ k_6 v_7 i_8 w) w
def qz.j4 (b_0:Sl) (k_6:Int) (v_7 i_8:Int) (Q:VWP) (w:World):Prop :=
 qz.l1 b_0 k_6 v_7 i_8 Q w
def qz.j2 (b_0:Sl) (k_6:Int) (v_7:Int) (Q:VWP) (w:World):Prop :=
 qz.j4 b_0 k_6 v_7 0 Q w
def qz.j1 (b_0:Sl) (Q:VWP) (w:World):Prop :=
 qz.j2 b_0 0 0 Q w
def qz (b_0:Sl) (Q:VWP) (w:World):Prop :=
 qz.j1 b_0 Q w
theorem qz.ok (b_0:Sl) (Q:VWP) (w:World) (h:qz b_0 Q w):Calls Tryz.prog 118 ⟨[sV b_0]⟩ w (Ret Q) :=
 qqc [.tmp 2,.tmp 3,.tmp 4,.tmp 5] qbe Tryz.func118 rfl rfl rfl rfl (.sq [sL 0] (fun a w=>qz.j1 a Q w) .lf (.pr 1 [sL 0,sI 6,sI 7] (fun a b c w=>qz.j2 a b c Q w) (.sq [] (fun  w=>qz.j3 Q w) (.sq [sL 0,sI 6,sI 7,sI 8] (fun a b c d w=>qz.j4 a b c d Q w) .lf (.bk (.lo [sL 0] [sI 6,sI 7,sI 8] (fun a b c d w=>qz.l1 a b c d Q w) (fun nx1 a b c d w=>qz.b1 a b c d Q nx1 w) fun nx1=>(.sq [sL 0,sI 6,sI 7,sI 8] (fun a b c d w=>qz.j5 a b c d Q nx1 w) .lf (.sq [sL 0,sI 6,sI 7,sI 8] (fun a b c d w=>qz.j6 a b c d Q nx1 w) (.bk (.pr 1 [sL 0,sI 6,sI 7,sI 8] (fun a b c d w=>qz.j7 a b c d Q nx1 w) .lf)) .lf))))) .lf))) (by kernel_rfl) h
def qib.j3 (b_0:Sl) (c_8:Int) (Q:VWP) (w:World):Prop :=
 nw w ⟨[.int .u8 c_8]⟩ 5 fun a1 w2 =>
 rdO w2 (some a1) (1 * 1) fun c3 =>
 apK Tryz.prog 5 w2 b_0.a b_0.len b_0.cap 1 c3 fun s4 w5 =>
 Q (.tuple ⟨[sV s4,.int .i64 0]⟩) w5
def qib.b1 (b_0:Sl) (size_2:Int) (c_8:Int) (Q:VWP) (nx1:Sl→Int→Int→WP) (w:World):Prop :=
 br (decide (size_2 > 0)) (
 lt (orV .u8 c_8 128) fun x6 =>
 nw w ⟨[.int .u8 x6]⟩ 5 fun a7 w8 =>
 rdO w8 (some a7) (1 * 1) fun c9 =>
 apK Tryz.prog 5 w8 b_0.a b_0.len b_0.cap 1 c9 fun s10 w11 =>
 lt (qli .i64 size_2 127) fun x12 =>
 lt (IntKind.u8.wrap x12) fun x13 =>
 (0:Int)≤7 ∧
 lt (qbj .i64 size_2 7) fun x14 =>
 nx1 s10 x14 x13 w11) (
 qib.j3 b_0 c_8 Q w)
def qib.l1 (b_0:Sl) (size_2:Int) (c_8:Int) (Q:VWP) (w:World):Prop :=
 ∃ (I:Sl→Int→Int→WP) (μ:Sl→Int→Int→World→Nat),I b_0 size_2 c_8 w∧∀ b_0:Sl,∀ size_2:Int,∀ c_8:Int,∀ w:World,I b_0 size_2 c_8 w→qib.b1 b_0 size_2 c_8 Q (fun b_0' size_2' c_8' w'=>(True)∧I b_0' size_2' c_8' w'∧μ b_0' size_2' c_8' w' < μ b_0 size_2 c_8 w) w
def qib.j2 (b_0:Sl) (size_2:Int) (c_8:Int) (Q:VWP) (w:World):Prop :=
 qib.l1 b_0 size_2 c_8 Q w
def qib.j1 (b_0:Sl) (kind_1:Int) (size_2:Int) (Q:VWP) (w:World):Prop :=
 (0:Int)≤4 ∧
 lt (qqi .i64 kind_1 4) fun x15 =>
 lt (qli .i64 size_2 15) fun x16 =>
 lt (orV .i64 x15 x16) fun x17 =>
 lt (IntKind.u8.wrap x17) fun x18 =>
 (0:Int)≤4 ∧
 lt (qbj .i64 size_2 4) fun x19 =>
 qib.j2 b_0 x19 x18 Q w
def qib (b_0:Sl) (kind_1:Int) (size_2:Int) (Q:VWP) (w:World):Prop :=
 br (decide (kind_1 < 1)) (
 Q (.tuple ⟨[.slice none 0 0,.int .i64 1]⟩) w) (
 br (decide (kind_1 > 7)) (
 Q (.tuple ⟨[.slice none 0 0,.int .i64 1]⟩) w) (
 br (decide (size_2 < 0)) (
 Q (.tuple ⟨[.slice none 0 0,.int .i64 1]⟩) w) (
 br (decide (size_2 > 1099511627776)) (
 Q (.tuple ⟨[.slice none 0 0,.int .i64 1]⟩) w) (
 qib.j1 b_0 kind_1 size_2 Q w))))
theorem qib.ok (b_0:Sl) (kind_1:Int) (size_2:Int) (Q:VWP) (w:World) (h:qib b_0 kind_1 size_2 Q w):Calls Tryz.prog 40 ⟨[sV b_0,.int .i64 kind_1,.int .i64 size_2]⟩ w (Ret Q) :=
 qqc [.tmp 6,.tmp 7] qbe Tryz.func40 rfl rfl rfl rfl (.pr 1 [sL 0,sI 1,sI 2] (fun a b c w=>qib.j1 a b c Q w) (.pr 1 [sL 0,sI 2,(8,.I .u8)] (fun a b c w=>qib.j2 a b c Q w) (.sq [sL 0,(8,.I .u8)] (fun a b w=>qib.j3 a b Q w) (.bk (.lo [] [sL 0,sI 2,(8,.I .u8)] (fun a b c w=>qib.l1 a b c Q w) (fun nx1 a b c w=>qib.b1 a b c Q nx1 w) fun nx1=>.lf)) .lf))) (by kernel_rfl) h
def qo.j6 (d_0:Sl) (i_1:Int) (t4 t6:Addr) (t8:Int) (t11:Int) (Q:VWP) (w:World):Prop :=
 br (decide (t8 > 16384)) (
 ((⟨[.int .i64 0,.int .i64 0,.int .i64 0,.int .u8 0,.int .u8 0,.int .u8 0,.int .u8 0,.int .u8 0,.int .u8 0,.int .u8 0,.int .u8 0,.int .u8 0,.int .u8 0,.int .u8 0,.int .u8 0,.int .u8 0,.int .u8 0,.int .u8 0,.int .u8 0,.int .u8 0,.int .u8 0,.int .u8 0,.int .u8 0,.slice none 0 0,.int .i64 0,.int .i64 0,.int .u32 0]⟩:Array Value)).size=27 ∧
 stA w t4 (⟨[.int .i64 0,.int .i64 0,.int .i64 0,.int .u8 0,.int .u8 0,.int .u8 0,.int .u8 0,.int .u8 0,.int .u8 0,.int .u8 0,.int .u8 0,.int .u8 0,.int .u8 0,.int .u8 0,.int .u8 0,.int .u8 0,.int .u8 0,.int .u8 0,.int .u8 0,.int .u8 0,.int .u8 0,.int .u8 0,.int .u8 0,.slice none 0 0,.int .i64 0,.int .i64 0,.int .u32 0]⟩:Array Value) fun w1 =>
 ldA w1 t4 27 fun c2 =>
 Q (.tuple ⟨[.agg c2,.int .i64 5]⟩) w1) (
 bd t11 d_0.len fun n3 =>
 lt (⟨qgf d_0.a d_0.cap n3 1,d_0.len - n3,d_0.cap - n3⟩:Sl) fun s4 =>
 ct_LII 120 [sV s4,.int .i64 t8] w fun r7 r8 r9 w6 =>
 br (r9 != 0) (
 ((⟨[.int .i64 0,.int .i64 0,.int .i64 0,.int .u8 0,.int .u8 0,.int .u8 0,.int .u8 0,.int .u8 0,.int .u8 0,.int .u8 0,.int .u8 0,.int .u8 0,.int .u8 0,.int .u8 0,.int .u8 0,.int .u8 0,.int .u8 0,.int .u8 0,.int .u8 0,.int .u8 0,.int .u8 0,.int .u8 0,.int .u8 0,.slice none 0 0,.int .i64 0,.int .i64 0,.int .u32 0]⟩:Array Value)).size=27 ∧
 stA w6 t4 (⟨[.int .i64 0,.int .i64 0,.int .i64 0,.int .u8 0,.int .u8 0,.int .u8 0,.int .u8 0,.int .u8 0,.int .u8 0,.int .u8 0,.int .u8 0,.int .u8 0,.int .u8 0,.int .u8 0,.int .u8 0,.int .u8 0,.int .u8 0,.int .u8 0,.int .u8 0,.int .u8 0,.int .u8 0,.int .u8 0,.int .u8 0,.slice none 0 0,.int .i64 0,.int .i64 0,.int .u32 0]⟩:Array Value) fun w10 =>
 ldA w10 t4 27 fun c11 =>
 Q (.tuple ⟨[.agg c11,.int .i64 r9]⟩) w10) (
 br ((r7.len:Int) != t8) (
 ((⟨[.int .i64 0,.int .i64 0,.int .i64 0,.int .u8 0,.int .u8 0,.int .u8 0,.int .u8 0,.int .u8 0,.int .u8 0,.int .u8 0,.int .u8 0,.int .u8 0,.int .u8 0,.int .u8 0,.int .u8 0,.int .u8 0,.int .u8 0,.int .u8 0,.int .u8 0,.int .u8 0,.int .u8 0,.int .u8 0,.int .u8 0,.slice none 0 0,.int .i64 0,.int .i64 0,.int .u32 0]⟩:Array Value)).size=27 ∧
 stA w6 t4 (⟨[.int .i64 0,.int .i64 0,.int .i64 0,.int .u8 0,.int .u8 0,.int .u8 0,.int .u8 0,.int .u8 0,.int .u8 0,.int .u8 0,.int .u8 0,.int .u8 0,.int .u8 0,.int .u8 0,.int .u8 0,.int .u8 0,.int .u8 0,.int .u8 0,.int .u8 0,.int .u8 0,.int .u8 0,.int .u8 0,.int .u8 0,.slice none 0 0,.int .i64 0,.int .i64 0,.int .u32 0]⟩:Array Value) fun w12 =>
 ldA w12 t4 27 fun c13 =>
 Q (.tuple ⟨[.agg c13,.int .i64 2]⟩) w12) (
 st w6 (Addr.add t6 23) (sV r7) fun w14 =>
 st w14 (Addr.add t6 24) (.int .i64 i_1) fun w15 =>
 lt (IntKind.i64.wrap (t11+r8)) fun x16 =>
 lt (IntKind.i64.wrap (x16 - i_1)) fun x17 =>
 st w15 (Addr.add t6 25) (.int .i64 x17) fun w18 =>
 lt (IntKind.i64.wrap (t11+r8)) fun x19 =>
 bd x19 d_0.cap fun n20 =>
 bd i_1 n20 fun n21 =>
 lt (⟨qgf d_0.a d_0.cap n21 1,n20 - n21,d_0.cap - n21⟩:Sl) fun s22 =>
 qum 121 [sV s22] w18 fun r25 w24 =>
 st w24 (Addr.add t6 26) (.int .u32 r25) fun w26 =>
 ldA w26 t6 27 fun c27 =>
 (c27).size=27 ∧
 stA w26 t4 c27 fun w28 =>
 ldA w28 t4 27 fun c29 =>
 Q (.tuple ⟨[.agg c29,.int .i64 0]⟩) w28)))
def qo.j9 (d_0:Sl) (i_1:Int) (t4 t6:Addr) (t8:Int) (t11:Int) (Q:VWP) (w:World):Prop :=
 lt (IntKind.i64.wrap (t11+20)) fun x30 =>
 qo.j6 d_0 i_1 t4 t6 t8 x30 Q w
def qo.b1 (d_0:Sl) (i_1:Int) (t4 t6:Addr) (t8:Int) (t11 t15:Int) (Q:VWP) (nx1:Sl→Int→Addr→Addr→Int→Int→Int→WP) (w:World):Prop :=
 br (decide (t15 < 20)) (
 lt (IntKind.i64.wrap (t11+t15)) fun x31 =>
 ixS d_0.a d_0.len x31 1 fun a32 =>
 ldI .u8 w a32 fun x33 =>
 ixA (Addr.add t6 3) 20 t15 1 fun a34 =>
 st w a34 (.int .u8 x33) fun w35 =>
 lt (IntKind.i64.wrap (t15+1)) fun x36 =>
 nx1 d_0 i_1 t4 t6 t8 t11 x36 w35) (
 qo.j9 d_0 i_1 t4 t6 t8 t11 Q w)
def qo.l1 (d_0:Sl) (i_1:Int) (t4 t6:Addr) (t8:Int) (t11 t15:Int) (Q:VWP) (w:World):Prop :=
 ∃ (I:Int→WP) (μ:Int→World→Nat),I t15 w∧∀ t15:Int,∀ w:World,I t15 w→qo.b1 d_0 i_1 t4 t6 t8 t11 t15 Q (fun d_0' i_1' t4' t6' t8' t11' t15' w'=>(d_0'=d_0∧i_1'=i_1∧t4'=t4∧t6'=t6∧t8'=t8∧t11'=t11)∧I t15' w'∧μ t15' w' < μ t15 w) w
def qo.j10 (d_0:Sl) (i_1:Int) (t4 t6:Addr) (t8:Int) (t11 t15:Int) (Q:VWP) (w:World):Prop :=
 qo.l1 d_0 i_1 t4 t6 t8 t11 t15 Q w
def qo.j8 (d_0:Sl) (i_1:Int) (t4 t6:Addr) (t8:Int) (t11:Int) (Q:VWP) (w:World):Prop :=
 qo.j10 d_0 i_1 t4 t6 t8 t11 0 Q w
def qo.j7 (d_0:Sl) (i_1:Int) (t4 t6:Addr) (t8:Int) (t11:Int) (t83:Bool) (Q:VWP) (w:World):Prop :=
 br t83 (
 lt (IntKind.i64.wrap ((d_0.len:Int) - t11)) fun x37 =>
 br (decide (x37 < 20)) (
 ((⟨[.int .i64 0,.int .i64 0,.int .i64 0,.int .u8 0,.int .u8 0,.int .u8 0,.int .u8 0,.int .u8 0,.int .u8 0,.int .u8 0,.int .u8 0,.int .u8 0,.int .u8 0,.int .u8 0,.int .u8 0,.int .u8 0,.int .u8 0,.int .u8 0,.int .u8 0,.int .u8 0,.int .u8 0,.int .u8 0,.int .u8 0,.slice none 0 0,.int .i64 0,.int .i64 0,.int .u32 0]⟩:Array Value)).size=27 ∧
 stA w t4 (⟨[.int .i64 0,.int .i64 0,.int .i64 0,.int .u8 0,.int .u8 0,.int .u8 0,.int .u8 0,.int .u8 0,.int .u8 0,.int .u8 0,.int .u8 0,.int .u8 0,.int .u8 0,.int .u8 0,.int .u8 0,.int .u8 0,.int .u8 0,.int .u8 0,.int .u8 0,.int .u8 0,.int .u8 0,.int .u8 0,.int .u8 0,.slice none 0 0,.int .i64 0,.int .i64 0,.int .u32 0]⟩:Array Value) fun w38 =>
 ldA w38 t4 27 fun c39 =>
 Q (.tuple ⟨[.agg c39,.int .i64 3]⟩) w38) (
 qo.j8 d_0 i_1 t4 t6 t8 t11 Q w)) (
 qo.j6 d_0 i_1 t4 t6 t8 t11 Q w)
def qo.j5 (d_0:Sl) (i_1:Int) (t4 t6:Addr) (t7:Int) (t8 t11:Int) (Q:VWP) (w:World):Prop :=
 qo.j7 d_0 i_1 t4 t6 t8 t11 (t7 == 7) Q w
def qo.j4 (d_0:Sl) (i_1:Int) (t4 t6:Addr) (t7:Int) (t8 t9:Int) (Q:VWP) (w:World):Prop :=
 lt (IntKind.i64.wrap (i_1+t9)) fun x40 =>
 br (t7 == 6) (
 bd x40 d_0.len fun n41 =>
 lt (⟨qgf d_0.a d_0.cap n41 1,d_0.len - n41,d_0.cap - n41⟩:Sl) fun s42 =>
 ct_III 119 [sV s42] w fun r45 r46 r47 w44 =>
 br (r47 != 0) (
 ((⟨[.int .i64 0,.int .i64 0,.int .i64 0,.int .u8 0,.int .u8 0,.int .u8 0,.int .u8 0,.int .u8 0,.int .u8 0,.int .u8 0,.int .u8 0,.int .u8 0,.int .u8 0,.int .u8 0,.int .u8 0,.int .u8 0,.int .u8 0,.int .u8 0,.int .u8 0,.int .u8 0,.int .u8 0,.int .u8 0,.int .u8 0,.slice none 0 0,.int .i64 0,.int .i64 0,.int .u32 0]⟩:Array Value)).size=27 ∧
 stA w44 t4 (⟨[.int .i64 0,.int .i64 0,.int .i64 0,.int .u8 0,.int .u8 0,.int .u8 0,.int .u8 0,.int .u8 0,.int .u8 0,.int .u8 0,.int .u8 0,.int .u8 0,.int .u8 0,.int .u8 0,.int .u8 0,.int .u8 0,.int .u8 0,.int .u8 0,.int .u8 0,.int .u8 0,.int .u8 0,.int .u8 0,.int .u8 0,.slice none 0 0,.int .i64 0,.int .i64 0,.int .u32 0]⟩:Array Value) fun w48 =>
 ldA w48 t4 27 fun c49 =>
 Q (.tuple ⟨[.agg c49,.int .i64 r47]⟩) w48) (
 br (decide (r45 < 1)) (
 ((⟨[.int .i64 0,.int .i64 0,.int .i64 0,.int .u8 0,.int .u8 0,.int .u8 0,.int .u8 0,.int .u8 0,.int .u8 0,.int .u8 0,.int .u8 0,.int .u8 0,.int .u8 0,.int .u8 0,.int .u8 0,.int .u8 0,.int .u8 0,.int .u8 0,.int .u8 0,.int .u8 0,.int .u8 0,.int .u8 0,.int .u8 0,.slice none 0 0,.int .i64 0,.int .i64 0,.int .u32 0]⟩:Array Value)).size=27 ∧
 stA w44 t4 (⟨[.int .i64 0,.int .i64 0,.int .i64 0,.int .u8 0,.int .u8 0,.int .u8 0,.int .u8 0,.int .u8 0,.int .u8 0,.int .u8 0,.int .u8 0,.int .u8 0,.int .u8 0,.int .u8 0,.int .u8 0,.int .u8 0,.int .u8 0,.int .u8 0,.int .u8 0,.int .u8 0,.int .u8 0,.int .u8 0,.int .u8 0,.slice none 0 0,.int .i64 0,.int .i64 0,.int .u32 0]⟩:Array Value) fun w50 =>
 ldA w50 t4 27 fun c51 =>
 Q (.tuple ⟨[.agg c51,.int .i64 2]⟩) w50) (
 br (decide (r45 > i_1)) (
 ((⟨[.int .i64 0,.int .i64 0,.int .i64 0,.int .u8 0,.int .u8 0,.int .u8 0,.int .u8 0,.int .u8 0,.int .u8 0,.int .u8 0,.int .u8 0,.int .u8 0,.int .u8 0,.int .u8 0,.int .u8 0,.int .u8 0,.int .u8 0,.int .u8 0,.int .u8 0,.int .u8 0,.int .u8 0,.int .u8 0,.int .u8 0,.slice none 0 0,.int .i64 0,.int .i64 0,.int .u32 0]⟩:Array Value)).size=27 ∧
 stA w44 t4 (⟨[.int .i64 0,.int .i64 0,.int .i64 0,.int .u8 0,.int .u8 0,.int .u8 0,.int .u8 0,.int .u8 0,.int .u8 0,.int .u8 0,.int .u8 0,.int .u8 0,.int .u8 0,.int .u8 0,.int .u8 0,.int .u8 0,.int .u8 0,.int .u8 0,.int .u8 0,.int .u8 0,.int .u8 0,.int .u8 0,.int .u8 0,.slice none 0 0,.int .i64 0,.int .i64 0,.int .u32 0]⟩:Array Value) fun w52 =>
 ldA w52 t4 27 fun c53 =>
 Q (.tuple ⟨[.agg c53,.int .i64 2]⟩) w52) (
 st w44 (Addr.add t6 2) (.int .i64 r45) fun w54 =>
 lt (IntKind.i64.wrap (x40+r46)) fun x55 =>
 qo.j5 d_0 i_1 t4 t6 t7 t8 x55 Q w54)))) (
 qo.j5 d_0 i_1 t4 t6 t7 t8 x40 Q w)
def qo.j3 (d_0:Sl) (i_1:Int) (t4 t6:Addr) (t7:Int) (t8 t9:Int) (Q:VWP) (w:World):Prop :=
 st w (Addr.add t6 0) (.int .i64 t7) fun w56 =>
 st w56 (Addr.add t6 1) (.int .i64 t8) fun w57 =>
 qo.j4 d_0 i_1 t4 t6 t7 t8 t9 Q w57
def qo.j2 (d_0:Sl) (i_1:Int) (t4 t6:Addr) (t7:Int) (t8 t9 t10:Int) (Q:VWP) (w:World):Prop :=
 br (t10 != 0) (
 ldA w t6 27 fun c58 =>
 (c58).size=27 ∧
 stA w t4 c58 fun w59 =>
 ldA w59 t4 27 fun c60 =>
 Q (.tuple ⟨[.agg c60,.int .i64 t10]⟩) w59) (
 br (t7 == 0) (
 ldA w t6 27 fun c61 =>
 (c61).size=27 ∧
 stA w t4 c61 fun w62 =>
 ldA w62 t4 27 fun c63 =>
 Q (.tuple ⟨[.agg c63,.int .i64 2]⟩) w62) (
 br (t7 == 5) (
 ldA w t6 27 fun c64 =>
 (c64).size=27 ∧
 stA w t4 c64 fun w65 =>
 ldA w65 t4 27 fun c66 =>
 Q (.tuple ⟨[.agg c66,.int .i64 2]⟩) w65) (
 qo.j3 d_0 i_1 t4 t6 t7 t8 t9 Q w)))
def qo.j1 (d_0:Sl) (i_1:Int) (t4 t6:Addr) (Q:VWP) (w:World):Prop :=
 br (decide (i_1 < 0)) (
 ldA w t6 27 fun c67 =>
 (c67).size=27 ∧
 stA w t4 c67 fun w68 =>
 ldA w68 t4 27 fun c69 =>
 Q (.tuple ⟨[.agg c69,.int .i64 1]⟩) w68) (
 br (decide (i_1 > (d_0.len:Int))) (
 ldA w t6 27 fun c70 =>
 (c70).size=27 ∧
 stA w t4 c70 fun w71 =>
 ldA w71 t4 27 fun c72 =>
 Q (.tuple ⟨[.agg c72,.int .i64 1]⟩) w71) (
 bd i_1 d_0.len fun n73 =>
 lt (⟨qgf d_0.a d_0.cap n73 1,d_0.len - n73,d_0.cap - n73⟩:Sl) fun s74 =>
 ct_IIII 118 [sV s74] w fun r77 r78 r79 r80 w76 =>
 qo.j2 d_0 i_1 t4 t6 r77 r78 r79 r80 Q w76))
def qo (d_0:Sl) (i_1:Int) (Q:VWP) (w:World):Prop :=
 nw w (zc Tryz.prog 101) 101 fun a81 w82 =>
 nw w82 (zc Tryz.prog 101) 101 fun a83 w84 =>
 qo.j1 d_0 i_1 a81 a83 Q w84
theorem qo.ok (d_0:Sl) (i_1:Int) (Q:VWP) (w:World) (h:qo d_0 i_1 Q w):Calls Tryz.prog 46 ⟨[sV d_0,.int .i64 i_1]⟩ w (Ret Q) :=
 qqc [.cell 4 101,.tmp 5] qbe Tryz.func46 rfl rfl rfl rfl (.pr 1 [sL 0,sI 1,sA 4,sA 6] (fun a b c d w=>qo.j1 a b c d Q w) (.pr 1 [sL 0,sI 1,sA 4,sA 6,sI 7,sI 8,sI 9,sI 10] (fun a b c d e f g h w=>qo.j2 a b c d e f g h Q w) (.pr 1 [sL 0,sI 1,sA 4,sA 6,sI 7,sI 8,sI 9] (fun a b c d e f g w=>qo.j3 a b c d e f g Q w) (.pr 1 [sL 0,sI 1,sA 4,sA 6,sI 7,sI 8,sI 9] (fun a b c d e f g w=>qo.j4 a b c d e f g Q w) (.pr 1 [sL 0,sI 1,sA 4,sA 6,sI 7,sI 8,sI 11] (fun a b c d e f g w=>qo.j5 a b c d e f g Q w) (.sq [sL 0,sI 1,sA 4,sA 6,sI 8,sI 11] (fun a b c d e f w=>qo.j6 a b c d e f Q w) (.sq [sL 0,sI 1,sA 4,sA 6,sI 8,sI 11,sB 83] (fun a b c d e f g w=>qo.j7 a b c d e f g Q w) .lf (.cd (.sq [sL 0,sI 1,sA 4,sA 6,sI 8,sI 11] (fun a b c d e f w=>qo.j8 a b c d e f Q w) .lf (.sq [sL 0,sI 1,sA 4,sA 6,sI 8,sI 11] (fun a b c d e f w=>qo.j9 a b c d e f Q w) (.sq [sL 0,sI 1,sA 4,sA 6,sI 8,sI 11,sI 15] (fun a b c d e f g w=>qo.j10 a b c d e f g Q w) .lf (.bk (.lo [sL 0,sI 1,sA 4,sA 6,sI 8,sI 11] [sI 15] (fun a b c d e f g w=>qo.l1 a b c d e f g Q w) (fun nx1 a b c d e f g w=>qo.b1 a b c d e f g Q nx1 w) fun nx1=>.lf))) .lf)) .lf)) .lf)))))) (by kernel_rfl) h
def qlc.j2 (e_1:Addr) (out_4:Sl) (Q:VWP) (w:World):Prop :=
 ldI .i64 w (Addr.add e_1 0) fun x1 =>
 br (x1 == 7) (
 lt (⟨cutP (Addr.add e_1 3) 20 0 1,20 - 0,20 - 0⟩:Sl) fun s2 =>
 rdO w s2.a (s2.len * 1) fun c3 =>
 apK Tryz.prog 5 w out_4.a out_4.len out_4.cap s2.len c3 fun s4 w5 =>
 ldL w5 (Addr.add e_1 23) fun x6 =>
 qij 116 [sV x6] w5 fun r9 w8 =>
 rdO w8 r9.a (r9.len * 1) fun c10 =>
 apK Tryz.prog 5 w8 s4.a s4.len s4.cap r9.len c10 fun s11 w12 =>
 Q (.tuple ⟨[sV s11,.int .i64 0]⟩) w12) (
 ldL w (Addr.add e_1 23) fun x13 =>
 qij 116 [sV x13] w fun r16 w15 =>
 rdO w15 r16.a (r16.len * 1) fun c17 =>
 apK Tryz.prog 5 w15 out_4.a out_4.len out_4.cap r16.len c17 fun s18 w19 =>
 Q (.tuple ⟨[sV s18,.int .i64 0]⟩) w19)
def qlc.j1 (e_1:Addr) (Q:VWP) (w:World):Prop :=
 ldI .i64 w (Addr.add e_1 0) fun x20 =>
 ldL w (Addr.add e_1 23) fun x21 =>
 qwo 40 [.slice none 0 0,.int .i64 x20,.int .i64 (x21.len:Int)] w fun r24 r25 w23 =>
 ldI .i64 w23 (Addr.add e_1 0) fun x26 =>
 br (x26 == 6) (
 ldI .i64 w23 (Addr.add e_1 2) fun x27 =>
 qij 115 [sV r24,.int .i64 x27] w23 fun r30 w29 =>
 qlc.j2 e_1 r30 Q w29) (
 qlc.j2 e_1 r24 Q w23)
def qlc (e_0:(Array Value)) (Q:VWP) (w:World):Prop :=
 nw w e_0 101 fun a31 w32 =>
 ldI .i64 w32 (Addr.add a31 0) fun x33 =>
 br (decide (x33 < 1)) (
 Q (.tuple ⟨[.slice none 0 0,.int .i64 1]⟩) w32) (
 ldI .i64 w32 (Addr.add a31 0) fun x34 =>
 br (decide (x34 > 7)) (
 Q (.tuple ⟨[.slice none 0 0,.int .i64 1]⟩) w32) (
 ldI .i64 w32 (Addr.add a31 0) fun x35 =>
 br (x35 == 5) (
 Q (.tuple ⟨[.slice none 0 0,.int .i64 1]⟩) w32) (
 ldI .i64 w32 (Addr.add a31 0) fun x36 =>
 br (x36 == 6) (
 ldI .i64 w32 (Addr.add a31 2) fun x37 =>
 br (decide (x37 < 1)) (
 Q (.tuple ⟨[.slice none 0 0,.int .i64 1]⟩) w32) (
 ldL w32 (Addr.add a31 23) fun x38 =>
 br (decide ((x38.len:Int) > 16384)) (
 Q (.tuple ⟨[.slice none 0 0,.int .i64 1]⟩) w32) (
 qlc.j1 a31 Q w32))) (
 ldL w32 (Addr.add a31 23) fun x39 =>
 br (decide ((x39.len:Int) > 16384)) (
 Q (.tuple ⟨[.slice none 0 0,.int .i64 1]⟩) w32) (
 qlc.j1 a31 Q w32)))))
theorem qlc.ok (e_0:(Array Value)) (Q:VWP) (w:World) (h:qlc e_0 Q w):Calls Tryz.prog 43 ⟨[.agg e_0]⟩ w (Ret Q) :=
 qqc [.tmp 2,.tmp 3] qbe Tryz.func43 rfl rfl rfl rfl (.pr 1 [sA 1] (fun a w=>qlc.j1 a Q w) (.pr 1 [sA 1,sL 4] (fun a b w=>qlc.j2 a b Q w) .lf)) (by kernel_rfl) h
end Go.Proofs.YtejnemneenjliaaGreat
namespace Go.Proofs.YtejnemneenjliaaGreat
open Go Go.Proofs
set_option linter.unusedVariables false
set_option linter.unusedSimpArgs false
def Blk (w:World) (b:Nat) (l:List Value):Prop:=∃ t,w.heap[b]?=some (.cells ⟨l⟩ t (0,0))
structure Mod (F:List Nat) (w w':World):Prop where
 os:w'.os=w.os
 tape:w'.tape=w.tape
 output:w'.output=w.output
 size:w.heap.size≤w'.heap.size
 frame:∀ b,b < w.heap.size→b ∉ F→w'.heap[b]?=w.heap[b]?
theorem Mod.refl (F:List Nat) (w:World):Mod F w w:=⟨rfl,rfl,rfl,Nat.le_refl _,fun _ _ _=>rfl⟩
theorem Mod.trans {F G:List Nat} {a b c:World} (h:Mod F a b) (k:Mod G b c) (hG:∀ x ∈ G,x ∈ F ∨ a.heap.size≤x):Mod F a c :=
 ⟨k.os.trans h.os,k.tape.trans h.tape,k.output.trans h.output,Nat.le_trans h.size k.size,fun x hx hF=>by
   rw [k.frame x (Nat.lt_of_lt_of_le hx h.size) (fun hg=>by rcases hG x hg with h1 | h1; exact hF h1; omega),h.frame x hx hF]⟩
theorem Mod.mono {F G:List Nat} {a b:World} (h:Mod F a b) (hG:∀ x ∈ F,x ∈ G ∨ a.heap.size≤x):Mod G a b :=
 ⟨h.os,h.tape,h.output,h.size,fun x hx hF=>h.frame x hx fun hf=>by rcases hG x hf with h1 | h1; exact hF h1; omega⟩
theorem Mod.below {F:List Nat} {n:Nat} {w w':World} (h:Mod F w w') (hn:n≤w.heap.size) (hF:∀ x ∈ F,n≤x):Go.RowKit.Below n w w' :=
 ⟨h.os,h.tape,h.output,h.size,fun k hk=>h.frame k (by omega) fun hm=>by have:=hF k hm; omega⟩
theorem Blk.lt {w:World} {b:Nat} {l:List Value} (h:Blk w b l):b < w.heap.size:=by
 obtain ⟨t,h⟩:=h
 exact (Array.getElem?_eq_some_iff.1 h).1
theorem Blk.keep {F:List Nat} {w w':World} {b:Nat} {l:List Value} (h:Blk w b l) (m:Mod F w w') (hb:b ∉ F):Blk w' b l:=by
 have hl:=h.lt
 obtain ⟨t,h⟩:=h
 exact ⟨t,by rw [m.frame b hl hb]; exact h⟩
theorem Blk.cell {w:World} {b:Nat} {l:List Value} (h:Blk w b l) (o:Nat):w.cell? ⟨b,o,none⟩=l[o]?:=by
 obtain ⟨t,h⟩:=h
 simp [World.cell?,h]
theorem Blk.free {w:World} {b:Nat} {l:List Value} (h:Blk w b l) (o:Nat):w.frozen? ⟨b,o,none⟩=false:=by
 obtain ⟨t,h⟩:=h
 simp [World.frozen?,h]
theorem Blk.set {w:World} {b:Nat} {l:List Value} (h:Blk w b l) (o:Nat) (v:Value):Blk (w.setCell ⟨b,o,none⟩ v) b (l.set o v):=by
 obtain ⟨t,h⟩:=h
 refine ⟨t,?_⟩
 simp only [World.setCell,Array.getElem?_modify,if_true,h,Option.map_some]
 simp
theorem Blk.shape {w:World} {b:Nat} {l:List Value} (h:Blk w b l):∃ t,w.shape? b=some (t,l.length):=by
 obtain ⟨t,h⟩:=h
 exact ⟨t,by simp [World.shape?,h]⟩
theorem Mod.setCell (w:World) (b o:Nat) (v:Value):Mod [b] w (w.setCell ⟨b,o,none⟩ v) :=
 ⟨rfl,rfl,rfl,by simp,fun x hx hF=>by
   simp only [World.setCell,Array.getElem?_modify]
   rw [if_neg]
   intro h
   exact hF (by simp [h])⟩
theorem Mod.drew (w:World):Mod [] w w.drew:=⟨rfl,rfl,rfl,Nat.le_refl _,fun _ _ _=>rfl⟩
theorem Mod.alloc (w:World) (o:Obj):Mod [] w (w.alloc o):=⟨rfl,rfl,rfl,by simp,fun x hx _=>qhl w o x hx⟩
theorem Blk.new (w:World) (l:List Value) (t:TypeId):Blk (w.alloc (.cells ⟨l⟩ t)) w.heap.size l:=⟨t,by
 show (w.heap.push _)[w.heap.size]?=_
 rw [Array.getElem?_push_size]⟩
def over (l:List Value) (o:Nat):List Value→List Value
 | []=>l
 | v :: r=>over (l.set o v) (o+1) r
theorem over_eq (vs:List Value):∀ (l:List Value) (o:Nat),o+vs.length≤l.length→over l o vs=l.take o ++ vs ++ l.drop (o+vs.length):=by
 induction vs with
 | nil=>intro l o _; simp [over]
 | cons v r ih =>
   intro l o h
   simp only [List.length_cons] at h
   rw [over,ih _ _ (by simp; omega)]
   apply List.ext_getElem?
   intro i
   simp only [List.getElem?_append,List.length_append,List.length_take,List.length_set,List.length_cons]
   by_cases h1:i < o
   · have:i < min (o+1) l.length:=by omega
     have h2:i < min o l.length:=by omega
     have h3:i < min (o+1) l.length+r.length:=by omega
     have h4:i < min o l.length+(r.length+1):=by omega
     simp [h1,this,h2,h3,h4,List.getElem?_take,List.getElem?_set,show ¬ o=i by omega,show i < o+1 by omega]
   · by_cases h2:i=o
     · subst h2
       have a1:i < min (i+1) l.length:=by omega
       have a2:¬ i < min i l.length:=by omega
       have a3:i < min (i+1) l.length+r.length:=by omega
       have a4:i < min i l.length+(r.length+1):=by omega
       have a5:i - min i l.length=0:=by omega
       simp [a1,a2,a3,a4,a5,List.getElem?_take,show i < l.length by omega]
     · have b1:¬ i < min (o+1) l.length:=by omega
       have b2:¬ i < min o l.length:=by omega
       have e1:min (o+1) l.length=o+1:=by omega
       have e2:min o l.length=o:=by omega
       rw [e1,e2]
       by_cases h3:i < o+(r.length+1)
       · have c1:i < o+1+r.length:=by omega
         have c2:¬ i < o+1:=by omega
         rw [if_pos c1,if_neg c2,if_pos h3,if_neg h1]
         rw [show i - o=(i - (o+1))+1 by omega]
         simp
       · have c1:¬ i < o+1+r.length:=by omega
         rw [if_neg c1,if_neg h3]
         simp only [List.getElem?_drop]
         rw [List.getElem?_set,if_neg (by omega)]
         congr 1
         omega
theorem Blk.putAll {b:Nat}:∀ (vs:List Value) {w:World} {l:List Value} (o i:Nat),Blk w b l→Blk (putAll w ⟨b,o,none⟩ vs i) b (over l (o+i) vs)∧Mod [b] w (putAll w ⟨b,o,none⟩ vs i)
 | [],w,l,o,i,h=>⟨h,Mod.refl _ _⟩
 | v :: r,w,l,o,i,h=>by
   have ha:(⟨b,o,none⟩:Addr).add i=⟨b,o+i,none⟩:=by unfold Addr.add; split <;> simp_all
   unfold Go.Proofs.YtejnemneenjliaaGreat.putAll over
   rw [ha]
   obtain ⟨h1,h2⟩:=Blk.putAll r o (i+1) (h.set (o+i) v)
   rw [show o+(i+1)=o+i+1 by omega] at h1
   exact ⟨h1,(Mod.setCell w b (o+i) v).trans h2 (fun x hx=>Or.inl hx)⟩
theorem qvf (b o n:Nat):(⟨b,o,none⟩:Addr).add n=⟨b,o+n,none⟩:=by unfold Addr.add; split <;> simp_all
structure Hp (w0 w:World) (m:List (Nat × List Value)):Prop where
 mod:Mod (m.map (·.1)) w0 w
 blk:∀ p ∈ m,Blk w p.1 p.2
 nodup:(m.map (·.1)).Nodup
theorem Hp.start {w:World} {m:List (Nat × List Value)} (hb:∀ p ∈ m,Blk w p.1 p.2) (hn:(m.map (·.1)).Nodup):Hp w w m:=⟨Mod.refl _ _,hb,hn⟩
section
variable {w0 w:World} {m:List (Nat × List Value)} {b o:Nat} {l:List Value}
theorem Hp.drew (h:Hp w0 w m):Hp w0 w.drew m:=⟨h.mod.trans (Mod.drew w) (fun _ hx=>by cases hx),h.blk,h.nodup⟩
theorem Hp.alloc (h:Hp w0 w m) (l:List Value) (t:TypeId):Hp w0 (w.alloc (.cells ⟨l⟩ t)) ((w.heap.size,l) :: m):=by
 refine ⟨?_,?_,?_⟩
 · have h1:=h.mod.trans (Mod.alloc w (.cells ⟨l⟩ t)) (fun _ hx=>by cases hx)
   exact h1.mono fun x hx=>Or.inl (by simp [hx])
 · intro p hp
   rcases List.mem_cons.1 hp with rfl | hp
   · exact Blk.new w l t
   · exact (h.blk p hp).keep (Mod.alloc w _) (by simp)
 · rw [List.map_cons,List.nodup_cons]
   refine ⟨fun hm=>?_,h.nodup⟩
   rw [List.mem_map] at hm
   obtain ⟨p,hp,he⟩:=hm
   have:=(h.blk p hp).lt
   omega
theorem Hp.turn {w':World} {l':List Value} {pre post:List (Nat × List Value)} (h:Hp w0 w (pre ++ (b,l) :: post)) (hm:Mod [b] w w') (hb:Blk w' b l'):Hp w0 w' (pre ++ (b,l') :: post):=by
 refine ⟨?_,?_,?_⟩
 · have e:((pre ++ (b,l') :: post).map (·.1))=((pre ++ (b,l) :: post).map (·.1)):=by simp
   rw [e]
   exact h.mod.trans hm fun x hx=>Or.inl (by rw [List.mem_singleton.1 hx]; simp)
 · have hn:=h.nodup
   simp only [List.map_append,List.map_cons,List.nodup_append,List.nodup_cons] at hn
   intro p hp
   rw [List.mem_append,List.mem_cons] at hp
   rcases hp with hp | rfl | hp
   · refine (h.blk p (by simp [hp])).keep hm ?_
     intro hx
     have:p.1=b:=by simpa using hx
     exact hn.2.2 p.1 (List.mem_map_of_mem hp) b (by simp) this
   · exact hb
   · refine (h.blk p (by simp [hp])).keep hm ?_
     intro hx
     have:p.1=b:=by simpa using hx
     apply hn.2.1.1
     rw [← this]
     exact List.mem_map_of_mem hp
 · have e:((pre ++ (b,l') :: post).map (·.1))=((pre ++ (b,l) :: post).map (·.1)):=by simp
   rw [e]; exact h.nodup
theorem Hp.get (h:Hp w0 w m) (hm:(b,l) ∈ m):Blk w b l:=h.blk _ hm
theorem Hp.keep {F:List Nat} {w':World} (h:Hp w0 w m) (hm:Mod F w w') (hF:∀ x ∈ F,x ∉ m.map (·.1)∧w0.heap.size≤x):Hp w0 w' m :=
 ⟨h.mod.trans hm fun x hx=>Or.inr (hF x hx).2,fun p hp=>(h.blk p hp).keep hm fun hx=>(hF _ hx).1 (List.mem_map_of_mem hp),h.nodup⟩
end
section
variable {w0 w:World} {m:List (Nat × List Value)} {b o:Nat} {l:List Value}
theorem qtd {a:Addr} {K:Addr→Prop} (h:K a):nz (some a) K:=h
theorem que {α:Type} {e:α} {K:α→Prop} (h:K e):lt e K:=h
theorem qn {α:Type} {e e':α} {K:α→Prop} (he:e=e') (h:K e'):lt e K:=by subst he; exact h
theorem qnc {p:Prop} [Decidable p] {A B:Prop} (ht:p→A) (hf:¬ p→B):br (decide p) A B:=by
 by_cases h:p
 · simp only [h,decide_true]; exact ht h
 · simp only [h,decide_false]; exact hf h
theorem qne {b:Bool} {A B:Prop} (ht:b=true→A) (hf:b=false→B):br b A B:=by
 cases b
 · exact hf rfl
 · exact ht rfl
theorem Blk.ldI {k:IntKind} {n:Int} {K:Int→Prop} (h:Blk w b l) (hv:l[o]?=some (.int k n)) (hk:K n):ldI k w ⟨b,o,none⟩ K:=⟨n,by rw [h.cell]; exact hv,hk⟩
theorem Blk.ldB {n:Bool} {K:Bool→Prop} (h:Blk w b l) (hv:l[o]?=some (.bool n)) (hk:K n):ldB w ⟨b,o,none⟩ K:=⟨n,by rw [h.cell]; exact hv,hk⟩
theorem Blk.ldP {n:Option Addr} {K:Option Addr→Prop} (h:Blk w b l) (hv:l[o]?=some (.pointer n)) (hk:K n):ldP w ⟨b,o,none⟩ K:=⟨n,by rw [h.cell]; exact hv,hk⟩
theorem Blk.ldL {n:Sl} {K:Sl→Prop} (h:Blk w b l) (hv:l[o]?=some (.slice n.a n.len n.cap)) (hk:K n):ldL w ⟨b,o,none⟩ K:=⟨n,by rw [h.cell]; exact hv,hk⟩
theorem Blk.ldS {n:ByteArray} {K:ByteArray→Prop} (h:Blk w b l) (hv:l[o]?=some (.string n)) (hk:K n):ldS w ⟨b,o,none⟩ K:=⟨n,by rw [h.cell]; exact hv,hk⟩
theorem Blk.ldM {n:Option Nat} {K:Option Nat→Prop} (h:Blk w b l) (hv:l[o]?=some (.map n)) (hk:K n):ldM w ⟨b,o,none⟩ K:=⟨n,by rw [h.cell]; exact hv,hk⟩
theorem Blk.ldA {n:Nat} {cs:Array Value} {K:Array Value→Prop} (h:Blk w b l) (hs:cs.size=n) (hv:∀ i,i < n→l[o+i]?=cs[i]?) (hk:K cs):ldA w ⟨b,o,none⟩ n K :=
 ⟨cs,hs,fun i hi=>by rw [qvf,h.cell]; exact hv i hi,hk⟩
theorem Blk.st {v:Value} {K:World→Prop} (h:Blk w b l) (ho:o < l.length) (hs:storable v) (hk:∀ w',Mod [b] w w'→Blk w' b (l.set o v)→K w'):st w ⟨b,o,none⟩ v K :=
 ⟨hs,⟨l[o],by rw [h.cell,List.getElem?_eq_getElem ho]⟩,h.free o,hk _ (Mod.setCell w b o v) (h.set o v)⟩
theorem qdr {cs:Array Value} {K:World→Prop} (h:Blk w b l) (ho:o+cs.size≤l.length) (hs:∀ v ∈ cs,storable v) (hk:∀ w',Mod [b] w w'→Blk w' b (l.take o ++ cs.toList ++ l.drop (o+cs.size))→K w'):stA w ⟨b,o,none⟩ cs K:=by
 refine ⟨fun i hi=>?_,hs,?_⟩
 · rw [qvf,h.cell,List.getElem?_eq_getElem (by omega)]
   exact ⟨⟨_,rfl⟩,h.free _⟩
 · obtain ⟨h1,h2⟩:=Blk.putAll cs.toList o 0 h
   rw [Nat.add_zero,over_eq _ _ _ (by simpa using ho)] at h1
   exact hk _ h2 (by simpa using h1)
theorem Hp.new {t:TypeId} {cs:Array Value} {K:Addr→World→Prop} (h:Hp w0 w m) (hk:∀ nb w',w0.heap.size≤nb→Hp w0 w' ((nb,cs.toList) :: m)→K ⟨nb,0,none⟩ w') :
 lt (⟨World.heapSize w,0,none⟩:Addr) fun a=>lt (World.alloc w (.cells cs t)) fun w'=>K a w' :=
 hk _ _ h.mod.size (h.alloc cs.toList t)
end
def Own (sz:Nat) (w:World) (s:Sl) (cs:List Value) (F:List Nat):Prop :=
 (s=⟨none,0,0⟩∧cs=[]∧F=[]) ∨ ∃ ob rest,s.a=some ⟨ob,0,none⟩∧Blk w ob (cs ++ rest)∧cs.length=s.len * sz∧(cs ++ rest).length=s.cap * sz∧F=[ob]
def Gr (n:Nat) (F F':List Nat):Prop:=∀ x ∈ F',x ∈ F ∨ n≤x
theorem Gr.refl (n:Nat) (F:List Nat):Gr n F F:=fun _ h=>Or.inl h
theorem Gr.trans {n n':Nat} {F G H:List Nat} (h:Gr n F G) (k:Gr n' G H) (hn:n≤n'):Gr n F H:=fun x hx=>by
 rcases k x hx with h1 | h1
 · exact h x h1
 · exact Or.inr (by omega)
theorem Own.lt {sz:Nat} {w:World} {s:Sl} {cs:List Value} {F:List Nat} (h:Own sz w s cs F):∀ x ∈ F,x < w.heap.size:=by
 rcases h with ⟨_,_,rfl⟩ | ⟨ob,rest,_,hb,_,_,rfl⟩
 · intro x hx; cases hx
 · intro x hx
   have:x=ob:=by simpa using hx
   subst this; exact hb.lt
theorem Own.keep {sz:Nat} {w w':World} {s:Sl} {cs:List Value} {F G:List Nat} (h:Own sz w s cs F) (m:Mod G w w') (hd:∀ x ∈ F,x ∉ G):Own sz w' s cs F:=by
 rcases h with h | ⟨ob,rest,h1,hb,h2,h3,rfl⟩
 · exact Or.inl h
 · exact Or.inr ⟨ob,rest,h1,hb.keep m (hd ob (by simp)),h2,h3,rfl⟩
theorem Own.len {sz:Nat} {w:World} {s:Sl} {cs:List Value} {F:List Nat} (h:Own sz w s cs F):cs.length=s.len * sz:=by
 rcases h with ⟨rfl,rfl,_⟩ | ⟨ob,rest,_,_,h2,_,_⟩
 · simp
 · exact h2
theorem Own.cell {sz:Nat} {w:World} {s:Sl} {cs:List Value} {F:List Nat} (h:Own sz w s cs F) {i:Nat} (hi:i < cs.length):∃ ob,s.a=some ⟨ob,0,none⟩∧w.cell? ⟨ob,i,none⟩=cs[i]?:=by
 rcases h with ⟨rfl,rfl,_⟩ | ⟨ob,rest,h1,hb,_,_,_⟩
 · simp at hi
 · exact ⟨ob,h1,by rw [hb.cell,List.getElem?_append_left hi]⟩
theorem Own.rdO {sz k:Nat} {w:World} {s:Sl} {cs:List Value} {F:List Nat} {K:Array Value→Prop} (h:Own sz w s cs F) (hk:k=cs.length) (hK:K ⟨cs⟩):rdO w s.a k K:=by
 subst hk
 rcases h with ⟨rfl,rfl,_⟩ | ⟨ob,rest,h1,hb,_,_,_⟩
 · exact ⟨rfl,hK⟩
 · rw [h1]
   refine ⟨⟨cs⟩,rfl,fun i hi=>?_,hK⟩
   rw [qvf,hb.cell,Nat.zero_add,List.getElem?_append_left hi]
   simp
theorem next_le (n c:Nat) (h:c < n) (hc:c≤n):Builtin.nextslicecap n c≤2 * n+1024:=by
 unfold Builtin.nextslicecap
 split
 · omega
 · split
   · omega
   · have grow:∀ (r c:Nat),c≤n→Builtin.growBy n r c≤2 * n+1024:=by
      intro r
      induction r with
      | zero=>intro c hc; simp [Builtin.growBy]; omega
      | succ r ih =>
        intro c hc
        unfold Builtin.growBy
        split
        · omega
        · by_cases h2:c+(c+768) / 4≤n
          · exact ih _ h2
          · have:∀ (r c:Nat),n < c→Builtin.growBy n r c=c:=by
             intro r c hc
             cases r with
             | zero=>rfl
             | succ r=>unfold Builtin.growBy; rw [if_pos (by omega)]
            rw [this _ _ (by omega)]
            omega
     exact grow 4 c (by omega)
theorem Own.append {P:Program} {elem:TypeId} {i:TypeInfo} {sz m:Nat} {w:World} {s:Sl} {cs:List Value} {F:List Nat} {new:Array Value} {K:Sl→World→Prop}
 (hi:P.info? elem=some i) (hsz:i.size=sz) (hsz0:0 < sz) (hz:(zc P elem).size=sz) (hb0:i.bytes ≠ 0) (hb:(2 * (s.len+m)+1024) * i.bytes≤2 ^ 48)
 (h:Own sz w s cs F) (hn:new.size=m * sz) (hst:∀ v ∈ new,storable v)
 (hk:∀ s' w' F',Own sz w' s' (cs ++ new.toList) F'→Mod F w w'→Gr w.heap.size F F'→s'.len=s.len+m→K s' w') :
 apK P elem w s.a s.len s.cap m new K:=by
 have hbo:P.bytesOf elem=i.bytes:=by simp [Program.bytesOf,hi]
 unfold apK withSz
 simp only [hi,hsz]
 have hgrow:∀ (old:List Value),old.length=s.len * sz→cs=old→s.len+m > s.cap→s.cap≤s.len+m→∀ c,s.len+m≤c →
  K ⟨newAt w,s.len+m,c⟩ (w.drew.alloc (.cells ((⟨old⟩:Array Value) ++ new ++ ⟨qpl (c - (s.len+m)) (zc P elem).toList⟩) elem)):=by
  intro old hold hcs _ _ c hc
  subst hcs
  have hbl:=Blk.new w.drew (cs ++ new.toList ++ qpl (c - (s.len+m)) (zc P elem).toList) elem
  have e:((⟨cs⟩:Array Value) ++ new ++ ⟨qpl (c - (s.len+m)) (zc P elem).toList⟩)=⟨cs ++ new.toList ++ qpl (c - (s.len+m)) (zc P elem).toList⟩:=by
   apply Array.ext'
   simp
  rw [e]
  refine hk _ _ [w.heap.size] (Or.inr ⟨w.heap.size,_,rfl,hbl,?_,?_,rfl⟩) ?_ ?_ rfl
  · simp [hold,hn,Nat.add_mul]
  · rw [List.length_append,List.length_append,qqh,hold]
    have:(zc P elem).toList.length=sz:=by simpa using hz
    rw [this]
    simp only [Array.length_toList,hn]
    rw [← Nat.add_mul,← Nat.add_mul]
    congr 1
    omega
  · exact ((Mod.drew w).trans (Mod.alloc w.drew _) (fun _ hx=>by cases hx)).mono (fun _ hx=>by cases hx)
  · intro x hx
    have:x=w.heap.size:=by simpa using hx
    exact Or.inr (by omega)
 rcases h with ⟨rfl,rfl,rfl⟩ | ⟨ob,rest,h1,hbk,h2,h3,rfl⟩
 · split
   · rename_i hle
     have hm0:m=0:=by simpa using hle
     subst hm0
     have:new=#[]:=by
      apply Array.eq_empty_of_size_eq_zero
      simpa using hn
     subst this
     exact hk ⟨none,0,0⟩ w [] (Or.inl ⟨rfl,rfl,rfl⟩) (Mod.refl _ _) (Gr.refl _ _) rfl
   · rename_i hle
     refine ⟨⟨?_,by rw [hbo]; exact hb0⟩,⟨by simp,?_⟩⟩
     · rw [hbo]
       have:=next_le (0+m) 0 (by simp at hle ⊢; omega) (by omega)
       exact Nat.le_trans (Nat.mul_le_mul_right _ this) hb
     · exact hgrow [] (by simp) rfl (by simp at hle ⊢; omega) (by simp)
 · have hcap:s.len≤s.cap:=by
    have:=@List.length_append _ cs rest
    have h4:s.len * sz≤s.cap * sz:=by omega
    exact Nat.le_of_mul_le_mul_right h4 hsz0
   split
   · rename_i hle
     rw [h1]
     have ha:(⟨ob,0,none⟩:Addr).add (s.len * sz)=⟨ob,s.len * sz,none⟩:=by rw [qvf,Nat.zero_add]
     show stA w ((⟨ob,0,none⟩:Addr).add (s.len * sz)) new _
     rw [ha]
     have hle2:s.len * sz+m * sz≤s.cap * sz:=by rw [← Nat.add_mul]; exact Nat.mul_le_mul_right _ hle
     refine qdr hbk (by rw [hn]; omega) hst fun w' hm hb'=>?_
     rw [← h2,List.take_left' rfl,hn,List.drop_append,List.drop_of_length_le (by omega),List.nil_append,show cs.length+m * sz - cs.length=m * sz by omega] at hb'
     refine hk ⟨some ⟨ob,0,none⟩,s.len+m,s.cap⟩ w' [ob] (Or.inr ⟨ob,rest.drop (m * sz),rfl,hb',?_,?_,rfl⟩) hm (Gr.refl _ _) rfl
     · simp [h2,hn,Nat.add_mul]
     · simp only [List.length_append,List.length_drop,Array.length_toList,hn]
       rw [List.length_append] at h3
       omega
   · rename_i hle
     refine ⟨⟨?_,by rw [hbo]; exact hb0⟩,?_⟩
     · rw [hbo]
       have:=next_le (s.len+m) s.cap (by omega) (by omega)
       exact Nat.le_trans (Nat.mul_le_mul_right _ this) hb
     · rw [h1]
       refine ⟨⟨cs⟩,by simpa using h2,fun j hj=>?_,hgrow cs h2 rfl (by omega) (by omega)⟩
       rw [qvf,hbk.cell,Nat.zero_add,List.getElem?_append_left (by omega)]
       simp
end Go.Proofs.YtejnemneenjliaaGreat
namespace Go.Proofs.YtejnemneenjliaaGreat
open Go Go.Proofs
set_option linter.unusedVariables false
set_option linter.unusedSimpArgs false
theorem qll (x:Int):IntKind.u64.wrap x=x % 18446744073709551616:=by simp [IntKind.wrap,IntKind.bits,IntKind.signed]
theorem qei (x:Int):IntKind.u32.wrap x=x % 4294967296:=by simp [IntKind.wrap,IntKind.bits,IntKind.signed]
theorem qck (x:Int):IntKind.u8.wrap x=x % 256:=by simp [IntKind.wrap,IntKind.bits,IntKind.signed]
theorem qd {x:Int} (h0 : -9223372036854775808≤x) (h1:x < 9223372036854775808):IntKind.i64.wrap x=x:=by
 simp only [IntKind.wrap,IntKind.bits,IntKind.signed,Bool.true_and]
 split <;> rename_i h <;> simp at h <;> omega
theorem bits_pos (k:IntKind):8≤k.bits:=by cases k <;> decide
theorem wrap_fit (k:IntKind) {x:Int} (h0:0≤x) (h1:x < 2 ^ (k.bits - 1)):k.wrap x=x:=by
 have hb:=bits_pos k
 have h2:(2:Int) ^ k.bits=2 * 2 ^ (k.bits - 1):=by
  rw [show k.bits=(k.bits - 1)+1 by omega,Int.pow_succ]
  simp only [Nat.add_sub_cancel]
  omega
 have h3:x % 2 ^ k.bits=x:=Int.emod_eq_of_lt h0 (by omega)
 simp only [IntKind.wrap,h3]
 rw [if_neg]
 simp only [Bool.and_eq_true,decide_eq_true_eq,not_and,ge_iff_le,Int.not_le]
 exact fun _=>h1
theorem qrp (k:IntKind) {n:Nat} (h1:n < 2 ^ (k.bits - 1)):k.wrap (n:Int)=n :=
 wrap_fit k (by omega) (by exact_mod_cast h1)
theorem qwn (w:Nat) (x:Int):((BitVec.ofInt w x).toNat:Int)=x % 2 ^ w:=by
 rw [BitVec.toNat_ofInt]
 have:(0:Int)≤x % 2 ^ w:=Int.emod_nonneg _ (by
  have:(0:Int) < 2 ^ w:=Int.pow_pos (by decide)
  omega)
 have e:((2 ^ w:Nat):Int)=2 ^ w:=by simp
 rw [e]
 omega
theorem qpi (w n:Nat) (h:n < 2 ^ w):(BitVec.ofInt w (n:Int)).toNat=n:=by
 have h1:=qwn w n
 have:((n:Int)) % 2 ^ w=n:=Int.emod_eq_of_lt (by omega) (by exact_mod_cast h)
 omega
theorem pow_pred (k:IntKind):(2:Nat) ^ k.bits=2 * 2 ^ (k.bits - 1):=by
 have hb:=bits_pos k
 rw [show k.bits=(k.bits - 1)+1 by omega,Nat.pow_succ]
 simp only [Nat.add_sub_cancel]
 omega
theorem qtj (k:IntKind) (x:Int) {t:Nat} (ht:t < k.bits):qli k x (2 ^ t - 1)=x % 2 ^ t:=by
 have hp:=pow_pred k
 have h2:(2:Nat) ^ t≤2 ^ (k.bits - 1):=Nat.pow_le_pow_right (by decide) (by omega)
 have qgl:0 < (2:Nat) ^ t:=Nat.pow_pos (by decide)
 have e1:((2:Int) ^ t - 1)=((2 ^ t - 1:Nat):Int):=by
  rw [Int.ofNat_sub qgl]; simp
 unfold qli
 rw [e1,BitVec.toNat_and,qpi _ _ (by omega),Nat.and_two_pow_sub_one_eq_mod]
 have h3:=qwn k.bits x
 have hlt:(BitVec.ofInt k.bits x).toNat % 2 ^ t < 2 ^ t:=Nat.mod_lt _ qgl
 rw [qrp k (by omega),Int.natCast_emod,h3]
 have e2:((2 ^ t:Nat):Int)=2 ^ t:=by simp
 rw [e2]
 exact Int.emod_emod_of_dvd _ ⟨2 ^ (k.bits - t),by rw [← Int.pow_add]; congr 1; omega⟩
theorem orV_nat (k:IntKind) {a b:Nat} (ha:a < 2 ^ (k.bits - 1)) (hb:b < 2 ^ (k.bits - 1)):orV k (a:Int) (b:Int)=((a ||| b:Nat):Int):=by
 have hp:=pow_pred k
 unfold orV
 rw [BitVec.toNat_or,qpi _ _ (by omega),qpi _ _ (by omega)]
 exact qrp k (Nat.or_lt_two_pow ha hb)
theorem qgp (k:IntKind) {a b:Nat} {t:Nat} (ha:a < 2 ^ t) (hs:a+b * 2 ^ t < 2 ^ (k.bits - 1)):orV k (a:Int) ((b:Int) * 2 ^ t)=(a:Int)+(b:Int) * 2 ^ t:=by
 have e:(b:Int) * 2 ^ t=((b * 2 ^ t:Nat):Int):=by simp
 rw [e,orV_nat k (by omega) (by omega),Nat.or_comm]
 have:=Nat.two_pow_add_eq_or_of_lt ha b
 rw [Nat.mul_comm b,← this]
 simp
 omega
theorem qfi (k:IntKind) {x:Int} {t:Nat} (ht:t≤k.bits) (h0:0≤x) (hs:x * 2 ^ t < 2 ^ (k.bits - 1)):qqi k x (t:Int)=x * 2 ^ t:=by
 unfold qqi
 rw [Int.toNat_natCast,Nat.min_eq_left ht]
 exact wrap_fit k (Int.mul_nonneg h0 (Int.le_of_lt (Int.pow_pos (by decide)))) hs
theorem qti (k:IntKind) (x:Int) {t:Nat} (ht:t≤k.bits):qbj k x (t:Int)=x / 2 ^ t:=by
 unfold qbj
 rw [Int.toNat_natCast,Nat.min_eq_left ht]
 exact Int.fdiv_eq_ediv_of_nonneg _ (Int.le_of_lt (Int.pow_pos (by decide)))
theorem shlV_lit (k:IntKind) {x y:Int} {t:Nat} (hy:y=t) (ht:t≤k.bits) (h0:0≤x) (hs:x * 2 ^ t < 2 ^ (k.bits - 1)):qqi k x y=x * 2 ^ t:=by
 subst hy; exact qfi k ht h0 hs
theorem qar {a b:Int} (ha:0≤a):a.tdiv b=a / b:=by
 exact Int.tdiv_eq_ediv_of_nonneg ha
theorem qvn {a b:Int} (ha:0≤a):a.tmod b=a % b:=by
 exact Int.tmod_eq_emod_of_nonneg ha
end Go.Proofs.YtejnemneenjliaaGreat
namespace Go.Proofs.YtejnemneenjliaaGreat
open Go Go.Proofs
set_option linter.unusedVariables false
set_option linter.unusedSimpArgs false
structure As where
 hd:World→List Nat→Prop
 keep:∀ {w w':World} {F G:List Nat},hd w F→Mod G w w'→(∀ x ∈ F,x ∉ G)→hd w' F
 lt:∀ {w:World} {F:List Nat},hd w F→∀ x ∈ F,x < w.heap.size
def qzc (b:Nat) (l:List Value):As where
 hd w F:=Blk w b l∧F=[b]
 keep:=by
  rintro w w' F G ⟨h,rfl⟩ m hd
  exact ⟨h.keep m (hd b (by simp)),rfl⟩
 lt:=by
  rintro w F ⟨h,rfl⟩ x hx
  have:x=b:=by simpa using hx
  subst this; exact h.lt
def qcc (sz:Nat) (s:Sl) (cs:List Value):As where
 hd w F:=Own sz w s cs F
 keep:=fun h m hd=>h.keep m hd
 lt:=fun h=>h.lt
def andA (p q:As):As where
 hd w F:=∃ f g,p.hd w f∧q.hd w g∧F=f ++ g∧∀ x ∈ f,x ∉ g
 keep:=by
  rintro w w' F G ⟨f,g,hp,hq,rfl,hd⟩ m hG
  exact ⟨f,g,p.keep hp m (fun x hx=>hG x (by simp [hx])),q.keep hq m (fun x hx=>hG x (by simp [hx])),rfl,hd⟩
 lt:=by
  rintro w F ⟨f,g,hp,hq,rfl,hd⟩ x hx
  rcases List.mem_append.1 hx with hx | hx
  · exact p.lt hp x hx
  · exact q.lt hq x hx
def noA:As where
 hd w F:=F=[]
 keep:=fun h _ _=>h
 lt:=by rintro w F rfl x hx; cases hx
def exA {α:Type} (p:α→As):As where
 hd w F:=∃ a,(p a).hd w F
 keep:=fun ⟨a,h⟩ m hd=>⟨a,(p a).keep h m hd⟩
 lt:=fun ⟨a,h⟩=>(p a).lt h
def ifA (c:Prop) (p:As):As where
 hd w F:=c∧p.hd w F
 keep:=fun ⟨c,h⟩ m hd=>⟨c,p.keep h m hd⟩
 lt:=fun ⟨_,h⟩=>p.lt h
def allA:List As→As
 | []=>noA
 | p :: ps=>andA p (allA ps)
def St (F0:List Nat) (w0 w:World) (ps:List As):Prop:=Mod F0 w0 w∧∃ F,(allA ps).hd w F∧Gr w0.heap.size F0 F
section
variable {F0:List Nat} {w0 w:World} {p q r p':As} {ps:List As}
theorem St.start {F:List Nat} (h:(allA ps).hd w F):St F w w ps:=⟨Mod.refl _ _,F,h,Gr.refl _ _⟩
theorem St.start0:St [] w w []:=⟨Mod.refl _ _,[],rfl,Gr.refl _ _⟩
theorem St.step (h:St F0 w0 w (p :: ps)):∃ f,p.hd w f∧∀ w' f' p',Mod f w w'→Gr w.heap.size f f'→p'.hd w' f'→St F0 w0 w' (p' :: ps):=by
 obtain ⟨m,F,⟨f,g,hp,hg,rfl,hd⟩,hr⟩:=h
 refine ⟨f,hp,fun w' f' p' hm hgr hp'=>⟨m.trans hm fun x hx=>hr x (by simp [hx]),f' ++ g,⟨f',g,hp',(allA ps).keep hg hm (fun x hx h1=>hd x h1 hx),rfl,?_⟩,?_⟩⟩
 · intro x hx h1
   rcases hgr x hx with h2 | h2
   · exact hd x h2 h1
   · have:=(allA ps).lt hg x h1; omega
 · intro x hx
   rcases List.mem_append.1 hx with hx | hx
   · rcases hgr x hx with h2 | h2
     · exact hr x (by simp [h2])
     · have:=m.size; exact Or.inr (by omega)
   · exact hr x (by simp [hx])
theorem St.mp (h:St F0 w0 w (p :: ps)) (hp:∀ F,p.hd w F→p'.hd w F):St F0 w0 w (p' :: ps):=by
 obtain ⟨m,F,⟨f,g,h1,h2⟩,hr⟩:=h
 exact ⟨m,F,⟨f,g,hp f h1,h2⟩,hr⟩
theorem St.skip {w':World} (h:St F0 w0 w ps) (hm:Mod [] w w'):St F0 w0 w' ps:=by
 obtain ⟨m,F,hp,hr⟩:=h
 exact ⟨m.trans hm (by simp),F,(allA ps).keep hp hm (by simp),hr⟩
theorem St.add {w':World} {f':List Nat} (h:St F0 w0 w ps) (hm:Mod [] w w') (hp:p'.hd w' f') (hn:Gr w.heap.size [] f'):St F0 w0 w' (p' :: ps):=by
 obtain ⟨m,F,hF,hr⟩:=h
 refine ⟨m.trans hm (by simp),f' ++ F,⟨f',F,hp,(allA ps).keep hF hm (by simp),rfl,?_⟩,?_⟩
 · intro x hx h1
   rcases hn x hx with h2 | h2
   · cases h2
   · have:=(allA ps).lt hF x h1; omega
 · intro x hx
   rcases List.mem_append.1 hx with hx | hx
   · rcases hn x hx with h2 | h2
     · cases h2
     · have:=m.size; exact Or.inr (by omega)
   · exact hr x hx
theorem St.drop (h:St F0 w0 w (p :: ps)):St F0 w0 w ps:=by
 obtain ⟨m,F,⟨f,g,h1,h2,rfl,h3⟩,hr⟩:=h
 exact ⟨m,g,h2,fun x hx=>hr x (by simp [hx])⟩
theorem Gr.perm {n:Nat} {F0 F F':List Nat} (h:Gr n F0 F) (hp:∀ x ∈ F',x ∈ F):Gr n F0 F':=fun x hx=>h x (hp x hx)
theorem St.at1 (h:St F0 w0 w (p :: q :: ps)):St F0 w0 w (q :: p :: ps):=by
 obtain ⟨m,F,⟨f,g,h1,⟨f',g',h2,h3,rfl,h4⟩,rfl,h5⟩,hr⟩:=h
 refine ⟨m,f' ++ (f ++ g'),⟨f',f ++ g',h2,⟨f,g',h1,h3,rfl,fun x hx h=>h5 x hx (by simp [h])⟩,rfl,?_⟩,hr.perm (by intro x hx; simp at hx ⊢; rcases hx with h | h | h <;> simp [h])⟩
 intro x hx h6
 rcases List.mem_append.1 h6 with h7 | h7
 · exact h5 x h7 (by simp [hx])
 · exact h4 x hx h7
theorem St.tail (h:St F0 w0 w (p :: ps)) {qs:List As} (hq:∀ F0 w0 w,St F0 w0 w ps→St F0 w0 w qs):St F0 w0 w (p :: qs):=by
 obtain ⟨m,F,⟨f,g,h1,h2,rfl,h3⟩,hr⟩:=h
 obtain ⟨_,g',h4,h5⟩:=hq g w w (St.start h2)
 have hg:∀ x ∈ g',x ∈ g:=fun x hx=>(h5 x hx).resolve_right (by have:=(allA qs).lt h4 x hx; omega)
 exact ⟨m,f ++ g',⟨f,g',h1,h4,rfl,fun x hx h=>h3 x hx (hg x h)⟩,hr.perm (by
  intro x hx
  rcases List.mem_append.1 hx with h | h
  · exact List.mem_append_left _ h
  · exact List.mem_append_right _ (hg x h))⟩
theorem St.at2 (h:St F0 w0 w (p :: q :: r :: ps)):St F0 w0 w (r :: p :: q :: ps):=(h.tail (fun _ _ _ k=>k.at1)).at1
theorem St.split (h:St F0 w0 w (andA p q :: ps)):St F0 w0 w (p :: q :: ps):=by
 obtain ⟨m,F,⟨f,g,⟨f1,f2,h1,h2,rfl,h3⟩,h4,rfl,h5⟩,hr⟩:=h
 refine ⟨m,f1 ++ (f2 ++ g),⟨f1,f2 ++ g,h1,⟨f2,g,h2,h4,rfl,fun x hx=>h5 x (by simp [hx])⟩,rfl,?_⟩,by simpa using hr⟩
 intro x hx h
 rcases List.mem_append.1 h with h | h
 · exact h3 x hx h
 · exact h5 x (by simp [hx]) h
theorem St.join (h:St F0 w0 w (p :: q :: ps)):St F0 w0 w (andA p q :: ps):=by
 obtain ⟨m,F,⟨f,g,h1,⟨f',g',h2,h3,rfl,h4⟩,rfl,h5⟩,hr⟩:=h
 refine ⟨m,f ++ f' ++ g',⟨f ++ f',g',⟨f,f',h1,h2,rfl,fun x hx h=>h5 x hx (by simp [h])⟩,h3,rfl,?_⟩,by simpa using hr⟩
 intro x hx h
 rcases List.mem_append.1 hx with hx | hx
 · exact h5 x hx (by simp [h])
 · exact h4 x hx h
theorem St.exI {α:Type} {p:α→As} (a:α) (h:St F0 w0 w (p a :: ps)):St F0 w0 w (exA p :: ps):=h.mp fun _ h=>⟨a,h⟩
theorem St.exE {α:Type} {p:α→As} (h:St F0 w0 w (exA p :: ps)):∃ a,St F0 w0 w (p a :: ps):=by
 obtain ⟨m,F,⟨f,g,⟨a,h1⟩,h2⟩,hr⟩:=h
 exact ⟨a,m,F,⟨f,g,h1,h2⟩,hr⟩
theorem St.ifI {c:Prop} (hc:c) (h:St F0 w0 w (p :: ps)):St F0 w0 w (ifA c p :: ps):=h.mp fun _ h=>⟨hc,h⟩
theorem St.ifE {c:Prop} (h:St F0 w0 w (ifA c p :: ps)):c∧St F0 w0 w (p :: ps):=by
 obtain ⟨m,F,⟨f,g,⟨hc,h1⟩,h2⟩,hr⟩:=h
 exact ⟨hc,m,F,⟨f,g,h1,h2⟩,hr⟩
theorem St.get (h:St F0 w0 w (p :: ps)):∃ F,p.hd w F:=by
 obtain ⟨f,hp,_⟩:=h.step
 exact ⟨f,hp⟩
theorem St.mod (h:St F0 w0 w ps):Mod F0 w0 w:=h.1
variable {b o:Nat} {l:List Value}
theorem St.blk (h:St F0 w0 w (qzc b l :: ps)):Blk w b l:=by
 obtain ⟨F,hb,_⟩:=h.get; exact hb
theorem St.blk1 (h:St F0 w0 w (p :: qzc b l :: ps)):Blk w b l:=h.drop.blk
theorem St.drew (h:St F0 w0 w ps):St F0 w0 w.drew ps:=h.skip (Mod.drew w)
theorem St.drewK {K:World→Prop} (h:St F0 w0 w ps) (hk:∀ w',St F0 w0 w' ps→K w'):lt w.drew K:=hk _ h.drew
theorem St.st {v:Value} {K:World→Prop} (h:St F0 w0 w (qzc b l :: ps)) (ho:o < l.length) (hs:storable v) (hk:∀ w',St F0 w0 w' (qzc b (l.set o v) :: ps)→K w'):st w ⟨b,o,none⟩ v K:=by
 obtain ⟨f,⟨hb,rfl⟩,hst⟩:=h.step
 exact hb.st ho hs fun w' hm hb'=>hk w' (hst w' [b] _ hm (Gr.refl _ _) ⟨hb',rfl⟩)
theorem St.stA {cs:Array Value} {K:World→Prop} (h:St F0 w0 w (qzc b l :: ps)) (ho:o+cs.size≤l.length) (hs:∀ v ∈ cs,storable v) (hk:∀ w',St F0 w0 w' (qzc b (l.take o ++ cs.toList ++ l.drop (o+cs.size)) :: ps)→K w'):stA w ⟨b,o,none⟩ cs K:=by
 obtain ⟨f,⟨hb,rfl⟩,hst⟩:=h.step
 exact qdr hb ho hs fun w' hm hb'=>hk w' (hst w' [b] _ hm (Gr.refl _ _) ⟨hb',rfl⟩)
theorem St.new {t:TypeId} {cs:Array Value} {K:Addr→World→Prop} (h:St F0 w0 w ps) (hk:∀ nb w',St F0 w0 w' (qzc nb cs.toList :: ps)→K ⟨nb,0,none⟩ w') :
 lt (⟨World.heapSize w,0,none⟩:Addr) fun a=>lt (World.alloc w (.cells cs t)) fun w'=>K a w':=by
 refine hk w.heap.size _ ?_
 exact h.add (Mod.alloc _ _) ⟨Blk.new w cs.toList t,rfl⟩ (fun x hx=>Or.inr (by have:x=w.heap.size:=(by simpa using hx); omega))
theorem St.newM {t:TypeId} {cs:Array Value} {K:Addr→World→Prop} (h:St F0 w0 w ps) (hk:∀ nb w',Mod [] w w'→St F0 w0 w' (qzc nb cs.toList :: ps)→K ⟨nb,0,none⟩ w') :
 lt (⟨World.heapSize w,0,none⟩:Addr) fun a=>lt (World.alloc w (.cells cs t)) fun w'=>K a w':=by
 refine hk w.heap.size _ (Mod.alloc _ _) ?_
 exact h.add (Mod.alloc _ _) ⟨Blk.new w cs.toList t,rfl⟩ (fun x hx=>Or.inr (by have:x=w.heap.size:=(by simpa using hx); omega))
theorem St.own {sz:Nat} {s:Sl} {cs:List Value} (h:St F0 w0 w (qcc sz s cs :: ps)):∃ F,Own sz w s cs F:=h.get
theorem St.len {sz:Nat} {s:Sl} {cs:List Value} (h:St F0 w0 w (qcc sz s cs :: ps)):cs.length=s.len * sz:=by
 obtain ⟨F,ho⟩:=h.own; exact ho.len
theorem St.append {P:Program} {elem:TypeId} {i:TypeInfo} {sz m:Nat} {s:Sl} {cs:List Value} {new:Array Value} {K:Sl→World→Prop}
 (hi:P.info? elem=some i) (hsz:i.size=sz) (hsz0:0 < sz) (hz:(zc P elem).size=sz) (hb0:i.bytes ≠ 0) (hb:(2 * (s.len+m)+1024) * i.bytes≤281474976710656)
 (h:St F0 w0 w (qcc sz s cs :: ps)) (hn:new.size=m * sz) (hst:∀ v ∈ new,storable v)
 (hk:∀ s' w',St F0 w0 w' (qcc sz s' (cs ++ new.toList) :: ps)→s'.len=s.len+m→K s' w') :
 apK P elem w s.a s.len s.cap m new K:=by
 obtain ⟨f,ho,hstep⟩:=h.step
 exact Own.append hi hsz hsz0 hz hb0 (by rw [show (2:Nat) ^ 48=281474976710656 from rfl]; exact hb) ho hn hst fun s' w' F' ho' hm hg hl=>hk s' w' (hstep w' F' _ hm hg ho') hl
end
theorem least_ex {p:Nat→Prop} (h:∃ n,p n):∃ n,p n∧∀ k,p k→n≤k:=by
 obtain ⟨n,hn⟩:=h
 induction n using Nat.strongRecOn with
 | ind n ih =>
   by_cases hk:∃ k,k < n∧p k
   · obtain ⟨k,h1,h2⟩:=hk
     exact ih k h1 h2
   · exact ⟨n,hn,fun k hp=>by
      rcases Nat.lt_or_ge k n with h1 | h1
      · exact absurd ⟨k,h1,hp⟩ hk
      · exact h1⟩
open Classical in
noncomputable def least (p:Nat→Prop):Nat:=if h:∃ n,p n then (least_ex h).choose else 0
theorem qgt {p:Nat→Prop} (h:∃ n,p n):p (least p)∧∀ k,p k→least p≤k:=by
 unfold least
 rw [dif_pos h]
 exact (least_ex h).choose_spec
theorem qom {σ α:Type} {C:(σ→Prop)→(σ→Nat)→σ→Prop} {s:σ} (Inv:α→σ→Prop) (m:α→Nat) (a:α) (h:Inv a s)
 (hb:∀ a s I μ,Inv a s→(∀ a' s',Inv a' s'→m a' < m a→I s'∧μ s' < μ s)→C I μ s):∃ I μ,I s∧∀ s,I s→C I μ s:=by
 refine ⟨fun s=>∃ a,Inv a s,fun s=>least fun n=>∃ a,Inv a s∧m a=n,⟨a,h⟩,?_⟩
 rintro s ⟨a,ha⟩
 have hex:∃ n,∃ a,Inv a s∧m a=n:=⟨_,a,ha,rfl⟩
 obtain ⟨⟨a1,h1,h2⟩,_⟩:=qgt hex
 refine hb a1 s _ _ h1 fun a' s' h' hlt=>⟨⟨a',h'⟩,?_⟩
 have hex':∃ n,∃ a,Inv a s'∧m a=n:=⟨_,a',h',rfl⟩
 have:=(qgt hex').2 _ ⟨a',h',rfl⟩
 omega
theorem loop0 {α:Type} {C:(World→Prop)→(World→Nat)→World→Prop} {w:World} (Inv:α→World→Prop) (m:α→Nat) (a:α) (h:Inv a w)
 (hb:∀ a w I μ,Inv a w→(∀ a' w',Inv a' w'→m a' < m a→I w'∧μ w' < μ w)→C I μ w):∃ I μ,I w∧∀ w,I w→C I μ w :=
 qom Inv m a h hb
theorem qmg {α A:Type} {C:(A→World→Prop)→(A→World→Nat)→A→World→Prop} {x:A} {w:World} (Inv:α→A→World→Prop) (m:α→Nat) (a:α) (h:Inv a x w)
 (hb:∀ a x w I μ,Inv a x w→(∀ a' x' w',Inv a' x' w'→m a' < m a→I x' w'∧μ x' w' < μ x w)→C I μ x w):∃ I μ,I x w∧∀ x w,I x w→C I μ x w:=by
 obtain ⟨I,μ,h1,h2⟩:=qom (σ:=A × World) (C:=fun I μ s=>C (fun x w=>I (x,w)) (fun x w=>μ (x,w)) s.1 s.2) (s:=(x,w)) (fun a s=>Inv a s.1 s.2) m a h
  (fun a s I μ hi hn=>hb a s.1 s.2 _ _ hi fun a' x' w'=>hn a' (x',w'))
 exact ⟨fun x w=>I (x,w),fun x w=>μ (x,w),h1,fun x w hI=>h2 (x,w) hI⟩
theorem qkg {α A B:Type} {C:(A→B→World→Prop)→(A→B→World→Nat)→A→B→World→Prop} {x:A} {y:B} {w:World} (Inv:α→A→B→World→Prop) (m:α→Nat) (a:α) (h:Inv a x y w)
 (hb:∀ a x y w I μ,Inv a x y w→(∀ a' x' y' w',Inv a' x' y' w'→m a' < m a→I x' y' w'∧μ x' y' w' < μ x y w)→C I μ x y w):∃ I μ,I x y w∧∀ x y w,I x y w→C I μ x y w:=by
 obtain ⟨I,μ,h1,h2⟩:=qom (σ:=A × B × World) (C:=fun I μ s=>C (fun x y w=>I (x,y,w)) (fun x y w=>μ (x,y,w)) s.1 s.2.1 s.2.2) (s:=(x,y,w)) (fun a s=>Inv a s.1 s.2.1 s.2.2) m a h
  (fun a s I μ hi hn=>hb a s.1 s.2.1 s.2.2 _ _ hi fun a' x' y' w'=>hn a' (x',y',w'))
 exact ⟨fun x y w=>I (x,y,w),fun x y w=>μ (x,y,w),h1,fun x y w hI=>h2 (x,y,w) hI⟩
theorem loop3 {α A B D:Type} {C:(A→B→D→World→Prop)→(A→B→D→World→Nat)→A→B→D→World→Prop} {x:A} {y:B} {z:D} {w:World} (Inv:α→A→B→D→World→Prop) (m:α→Nat) (a:α) (h:Inv a x y z w)
 (hb:∀ a x y z w I μ,Inv a x y z w→(∀ a' x' y' z' w',Inv a' x' y' z' w'→m a' < m a→I x' y' z' w'∧μ x' y' z' w' < μ x y z w)→C I μ x y z w):∃ I μ,I x y z w∧∀ x y z w,I x y z w→C I μ x y z w:=by
 obtain ⟨I,μ,h1,h2⟩:=qom (σ:=A × B × D × World) (C:=fun I μ s=>C (fun x y z w=>I (x,y,z,w)) (fun x y z w=>μ (x,y,z,w)) s.1 s.2.1 s.2.2.1 s.2.2.2) (s:=(x,y,z,w)) (fun a s=>Inv a s.1 s.2.1 s.2.2.1 s.2.2.2) m a h
  (fun a s I μ hi hn=>hb a s.1 s.2.1 s.2.2.1 s.2.2.2 _ _ hi fun a' x' y' z' w'=>hn a' (x',y',z',w'))
 exact ⟨fun x y z w=>I (x,y,z,w),fun x y z w=>μ (x,y,z,w),h1,fun x y z w hI=>h2 (x,y,z,w) hI⟩
theorem loop4 {α A B D E:Type} {C:(A→B→D→E→World→Prop)→(A→B→D→E→World→Nat)→A→B→D→E→World→Prop} {x:A} {y:B} {z:D} {u:E} {w:World} (Inv:α→A→B→D→E→World→Prop) (m:α→Nat) (a:α) (h:Inv a x y z u w)
 (hb:∀ a x y z u w I μ,Inv a x y z u w→(∀ a' x' y' z' u' w',Inv a' x' y' z' u' w'→m a' < m a→I x' y' z' u' w'∧μ x' y' z' u' w' < μ x y z u w)→C I μ x y z u w):∃ I μ,I x y z u w∧∀ x y z u w,I x y z u w→C I μ x y z u w:=by
 obtain ⟨I,μ,h1,h2⟩:=qom (σ:=A × B × D × E × World) (C:=fun I μ s=>C (fun x y z u w=>I (x,y,z,u,w)) (fun x y z u w=>μ (x,y,z,u,w)) s.1 s.2.1 s.2.2.1 s.2.2.2.1 s.2.2.2.2) (s:=(x,y,z,u,w)) (fun a s=>Inv a s.1 s.2.1 s.2.2.1 s.2.2.2.1 s.2.2.2.2) m a h
  (fun a s I μ hi hn=>hb a s.1 s.2.1 s.2.2.1 s.2.2.2.1 s.2.2.2.2 _ _ hi fun a' x' y' z' u' w'=>hn a' (x',y',z',u',w'))
 exact ⟨fun x y z u w=>I (x,y,z,u,w),fun x y z u w=>μ (x,y,z,u,w),h1,fun x y z u w hI=>h2 (x,y,z,u,w) hI⟩
theorem qfc {P:Program} {k:Nat} {args:Array Value} {w:World} {K:Ending→World→Prop} (h:Calls P k args w (Ret fun v w'=>K (.returned v) w')):Calls P k args w K :=
 h.mono fun e w' ⟨v,he,hq⟩=>he ▸ hq
end Go.Proofs.YtejnemneenjliaaGreat
namespace Go.Proofs.YtejnemneenjliaaGreat
open Go Go.Proofs
set_option linter.unusedVariables false
set_option maxRecDepth 100000
def quf  (Q:VWP) (w:World):Prop :=
 nw w (⟨[.slice none 0 0,.int .u64 0,.int .i64 0]⟩:Array Value) 398 fun a1 w2 =>
 Q (.pointer (some a1)) w2
theorem quf.ok  (Q:VWP) (w:World) (h:quf  Q w):Calls Tryz.prog 253 ⟨[]⟩ w (Ret Q) :=
 qqc [.tmp 0] qbe Tryz.func253 rfl rfl rfl rfl .lf (by kernel_rfl) h
def qhb.b1 (d_0:OAd) (Q:VWP) (nx1:OAd→WP) (w:World):Prop :=
 nz d_0 fun a1 =>
 ldI .i64 w (Addr.add a1 2) fun x2 =>
 br (decide (x2 ≥ 8)) (
 lt (World.drew w) fun w3 =>
 nz d_0 fun a4 =>
 ldL w3 (Addr.add a4 0) fun x5 =>
 nz d_0 fun a6 =>
 ldI .u64 w3 (Addr.add a6 1) fun x7 =>
 lt (IntKind.u8.wrap x7) fun x8 =>
 nw w3 ⟨[.int .u8 x8]⟩ 5 fun a9 w10 =>
 rdO w10 (some a9) (1 * 1) fun c11 =>
 apK Tryz.prog 5 w10 x5.a x5.len x5.cap 1 c11 fun s12 w13 =>
 nz d_0 fun a14 =>
 st w13 (Addr.add a14 0) (sV s12) fun w15 =>
 nz d_0 fun a16 =>
 ldI .u64 w15 (Addr.add a16 1) fun x17 =>
 (0:Int)≤8 ∧
 lt (qbj .u64 x17 8) fun x18 =>
 nz d_0 fun a19 =>
 st w15 (Addr.add a19 1) (.int .u64 x18) fun w20 =>
 nz d_0 fun a21 =>
 ldI .i64 w20 (Addr.add a21 2) fun x22 =>
 lt (IntKind.i64.wrap (x22 - 8)) fun x23 =>
 nz d_0 fun a24 =>
 st w20 (Addr.add a24 2) (.int .i64 x23) fun w25 =>
 nx1 d_0 w25) (
 Q (.tuple ⟨[]⟩) w)
def qhb.l1 (d_0:OAd) (Q:VWP) (w:World):Prop :=
 ∃ (I:WP) (μ:World→Nat),I  w∧∀ w:World,I  w→qhb.b1 d_0 Q (fun d_0' w'=>(d_0'=d_0)∧I  w'∧μ  w' < μ  w) w
def qhb.j2 (d_0:OAd) (Q:VWP) (w:World):Prop :=
 qhb.l1 d_0 Q w
def qhb.j1 (d_0:OAd) (i_1:Int) (t2:Int) (Q:VWP) (w:World):Prop :=
 lt (World.drew w) fun w26 =>
 nz d_0 fun a27 =>
 ldI .u64 w26 (Addr.add a27 1) fun x28 =>
 lt (IntKind.u64.wrap i_1) fun x29 =>
 (0:Int)≤t2 ∧
 lt (qqi .u64 1 t2) fun x30 =>
 lt (IntKind.u64.wrap (x30 - 1)) fun x31 =>
 lt (qli .u64 x29 x31) fun x32 =>
 nz d_0 fun a33 =>
 ldI .i64 w26 (Addr.add a33 2) fun x34 =>
 (0:Int)≤x34 ∧
 lt (qqi .u64 x32 x34) fun x35 =>
 lt (orV .u64 x28 x35) fun x36 =>
 nz d_0 fun a37 =>
 st w26 (Addr.add a37 1) (.int .u64 x36) fun w38 =>
 nz d_0 fun a39 =>
 ldI .i64 w38 (Addr.add a39 2) fun x40 =>
 lt (IntKind.i64.wrap (x40+t2)) fun x41 =>
 nz d_0 fun a42 =>
 st w38 (Addr.add a42 2) (.int .i64 x41) fun w43 =>
 qhb.j2 d_0 Q w43
def qhb (d_0:OAd) (i_1:Int) (t2:Int) (Q:VWP) (w:World):Prop :=
 br (decide (t2 < 0)) (
 Q (.tuple ⟨[]⟩) w) (
 br (decide (t2 > 24)) (
 Q (.tuple ⟨[]⟩) w) (
 qhb.j1 d_0 i_1 t2 Q w))
theorem qhb.ok (d_0:OAd) (i_1:Int) (t2:Int) (Q:VWP) (w:World) (h:qhb d_0 i_1 t2 Q w):Calls Tryz.prog 254 ⟨[.pointer d_0,.int .i64 i_1,.int .i64 t2]⟩ w (Ret Q) :=
 qqc [] qbe Tryz.func254 rfl rfl rfl rfl (.sq [sP 0,sI 1,sI 2] (fun a b c w=>qhb.j1 a b c Q w) .lf (.pr 1 [sP 0] (fun a w=>qhb.j2 a Q w) (.bk (.lo [sP 0] [] (fun a w=>qhb.l1 a Q w) (fun nx1 a w=>qhb.b1 a Q nx1 w) fun nx1=>.lf)))) (by kernel_rfl) h
def qfg (w_0:OAd) (v_1:Int) (n_2:Int) (Q:VWP) (w:World):Prop :=
 qxi 320 [.int .i64 v_1,.int .i64 n_2] w fun r3 w2 =>
 ct_ 254 [.pointer w_0,.int .i64 r3,.int .i64 n_2] w2 fun w5 =>
 Q (.tuple ⟨[]⟩) w5
theorem qfg.ok (w_0:OAd) (v_1:Int) (n_2:Int) (Q:VWP) (w:World) (h:qfg w_0 v_1 n_2 Q w):Calls Tryz.prog 301 ⟨[.pointer w_0,.int .i64 v_1,.int .i64 n_2]⟩ w (Ret Q) :=
 qqc [] qbe Tryz.func301 rfl rfl rfl rfl .lf (by kernel_rfl) h
def qjh (b_0:Sl) (Q:VWP) (w:World):Prop :=
 qij 112 [sV b_0] w fun r3 w2 =>
 nw w2 (⟨[sV r3,.int .i64 0]⟩:Array Value) 415 fun a4 w5 =>
 Q (.pointer (some a4)) w5
theorem qjh.ok (b_0:Sl) (Q:VWP) (w:World) (h:qjh b_0 Q w):Calls Tryz.prog 267 ⟨[sV b_0]⟩ w (Ret Q) :=
 qqc [.tmp 2] qbe Tryz.func267 rfl rfl rfl rfl .lf (by kernel_rfl) h
def qwe (w_0:OAd) (Q:VWP) (w:World):Prop :=
 nz w_0 fun a1 =>
 ldL w (Addr.add a1 0) fun x2 =>
 qij 112 [sV x2] w fun r5 w4 =>
 nz w_0 fun a6 =>
 ldI .i64 w4 (Addr.add a6 2) fun x7 =>
 br (decide (x7 > 0)) (
 nz w_0 fun a8 =>
 ldI .u64 w4 (Addr.add a8 1) fun x9 =>
 lt (IntKind.u8.wrap x9) fun x10 =>
 nw w4 ⟨[.int .u8 x10]⟩ 5 fun a11 w12 =>
 rdO w12 (some a11) (1 * 1) fun c13 =>
 apK Tryz.prog 5 w12 r5.a r5.len r5.cap 1 c13 fun s14 w15 =>
 qij 68 [sV s14] w15 fun r18 w17 =>
 Q (sV r18) w17) (
 qij 68 [sV r5] w4 fun r21 w20 =>
 Q (sV r21) w20)
theorem qwe.ok (w_0:OAd) (Q:VWP) (w:World) (h:qwe w_0 Q w):Calls Tryz.prog 257 ⟨[.pointer w_0]⟩ w (Ret Q) :=
 qqc [.tmp 2] qbe Tryz.func257 rfl rfl rfl rfl .lf (by kernel_rfl) h
def qqb.j3 (t6:Int) (Q:VWP) (w:World):Prop :=
 Q (.tuple ⟨[.int .i64 t6,.bool true]⟩) w
def qqb.b1 (d_0:OAd) (i_1:Int) (t6 t7:Int) (Q:VWP) (nx1:OAd→Int→Int→Int→WP) (w:World):Prop :=
 br (decide (t7 < i_1)) (
 nz d_0 fun a1 =>
 ldI .i64 w (Addr.add a1 1) fun x2 =>
 (8:Int) ≠ 0 ∧
 lt (Int.tmod x2 8) fun x3 =>
 lt (IntKind.i64.wrap (8 - x3)) fun x4 =>
 lt (IntKind.i64.wrap (i_1 - t7)) fun x5 =>
 lt (if (x5:Int) < x4 then x5 else x4) fun x6 =>
 lt (World.drew w) fun w7 =>
 nz d_0 fun a8 =>
 ldL w7 (Addr.add a8 0) fun x9 =>
 nz d_0 fun a10 =>
 ldI .i64 w7 (Addr.add a10 1) fun x11 =>
 (8:Int) ≠ 0 ∧
 lt (IntKind.i64.wrap (Int.tdiv x11 8)) fun x12 =>
 ixS x9.a x9.len x12 1 fun a13 =>
 ldI .u8 w7 a13 fun x14 =>
 lt (IntKind.i64.wrap x14) fun x15 =>
 nz d_0 fun a16 =>
 ldI .i64 w7 (Addr.add a16 1) fun x17 =>
 (8:Int) ≠ 0 ∧
 lt (Int.tmod x17 8) fun x18 =>
 (0:Int)≤x18 ∧
 lt (qbj .i64 x15 x18) fun x19 =>
 (0:Int)≤x6 ∧
 lt (qqi .i64 1 x6) fun x20 =>
 lt (IntKind.i64.wrap (x20 - 1)) fun x21 =>
 lt (qli .i64 x19 x21) fun x22 =>
 (0:Int)≤t7 ∧
 lt (qqi .i64 x22 t7) fun x23 =>
 lt (orV .i64 t6 x23) fun x24 =>
 lt (IntKind.i64.wrap (t7+x6)) fun x25 =>
 nz d_0 fun a26 =>
 ldI .i64 w7 (Addr.add a26 1) fun x27 =>
 lt (IntKind.i64.wrap (x27+x6)) fun x28 =>
 nz d_0 fun a29 =>
 st w7 (Addr.add a29 1) (.int .i64 x28) fun w30 =>
 nx1 d_0 i_1 x24 x25 w30) (
 qqb.j3 t6 Q w)
def qqb.l1 (d_0:OAd) (i_1:Int) (t6 t7:Int) (Q:VWP) (w:World):Prop :=
 ∃ (I:Int→Int→WP) (μ:Int→Int→World→Nat),I t6 t7 w∧∀ t6:Int,∀ t7:Int,∀ w:World,I t6 t7 w→qqb.b1 d_0 i_1 t6 t7 Q (fun d_0' i_1' t6' t7' w'=>(d_0'=d_0∧i_1'=i_1)∧I t6' t7' w'∧μ t6' t7' w' < μ t6 t7 w) w
def qqb.j4 (d_0:OAd) (i_1:Int) (t6 t7:Int) (Q:VWP) (w:World):Prop :=
 qqb.l1 d_0 i_1 t6 t7 Q w
def qqb.j2 (d_0:OAd) (i_1:Int) (t6:Int) (Q:VWP) (w:World):Prop :=
 qqb.j4 d_0 i_1 t6 0 Q w
def qqb.j1 (d_0:OAd) (i_1:Int) (Q:VWP) (w:World):Prop :=
 br (decide (i_1 < 0)) (
 Q (.tuple ⟨[.int .i64 0,.bool false]⟩) w) (
 br (decide (i_1 > 24)) (
 Q (.tuple ⟨[.int .i64 0,.bool false]⟩) w) (
 qxi 338 [.pointer d_0] w fun r33 w32 =>
 br (decide (i_1 > r33)) (
 Q (.tuple ⟨[.int .i64 0,.bool false]⟩) w32) (
 qqb.j2 d_0 i_1 0 Q w32)))
def qqb (d_0:OAd) (i_1:Int) (Q:VWP) (w:World):Prop :=
 qqb.j1 d_0 i_1 Q w
theorem qqb.ok (d_0:OAd) (i_1:Int) (Q:VWP) (w:World) (h:qqb d_0 i_1 Q w):Calls Tryz.prog 321 ⟨[.pointer d_0,.int .i64 i_1]⟩ w (Ret Q) :=
 qqc [.tmp 4,.tmp 5] qbe Tryz.func321 rfl rfl rfl rfl (.sq [sP 0,sI 1] (fun a b w=>qqb.j1 a b Q w) .lf (.pr 1 [sP 0,sI 1,sI 6] (fun a b c w=>qqb.j2 a b c Q w) (.sq [sI 6] (fun a w=>qqb.j3 a Q w) (.sq [sP 0,sI 1,sI 6,sI 7] (fun a b c d w=>qqb.j4 a b c d Q w) .lf (.bk (.lo [sP 0,sI 1] [sI 6,sI 7] (fun a b c d w=>qqb.l1 a b c d Q w) (fun nx1 a b c d w=>qqb.b1 a b c d Q nx1 w) fun nx1=>.lf))) .lf))) (by kernel_rfl) h
def qod.j3 (out_5:Int) (Q:VWP) (w:World):Prop :=
 Q (.int .i64 out_5) w
def qod.b1 (t12 v_0 out_5 t13:Int) (Q:VWP) (nx1:Int→Int→Int→Int→WP) (w:World):Prop :=
 br (decide (t13 < t12)) (
 (0:Int)≤1 ∧
 lt (qqi .i64 out_5 1) fun x1 =>
 lt (qli .i64 v_0 1) fun x2 =>
 lt (orV .i64 x1 x2) fun x3 =>
 (0:Int)≤1 ∧
 lt (qbj .i64 v_0 1) fun x4 =>
 lt (IntKind.i64.wrap (t13+1)) fun x5 =>
 nx1 t12 x4 x3 x5 w) (
 qod.j3 out_5 Q w)
def qod.l1 (t12 v_0 out_5 t13:Int) (Q:VWP) (w:World):Prop :=
 ∃ (I:Int→Int→Int→WP) (μ:Int→Int→Int→World→Nat),I v_0 out_5 t13 w∧∀ v_0:Int,∀ out_5:Int,∀ t13:Int,∀ w:World,I v_0 out_5 t13 w→qod.b1 t12 v_0 out_5 t13 Q (fun t12' v_0' out_5' t13' w'=>(t12'=t12)∧I v_0' out_5' t13' w'∧μ v_0' out_5' t13' w' < μ v_0 out_5 t13 w) w
def qod.j4 (v_0 out_5 t12 t13:Int) (Q:VWP) (w:World):Prop :=
 qod.l1 t12 v_0 out_5 t13 Q w
def qod.j2 (v_0 n_1 out_5:Int) (Q:VWP) (w:World):Prop :=
 qod.j4 v_0 out_5 n_1 0 Q w
def qod.j1 (v_0 n_1:Int) (Q:VWP) (w:World):Prop :=
 br (decide (n_1 < 0)) (
 Q (.int .i64 0) w) (
 br (decide (n_1 > 24)) (
 Q (.int .i64 0) w) (
 qod.j2 v_0 n_1 0 Q w))
def qod (v_0 n_1:Int) (Q:VWP) (w:World):Prop :=
 qod.j1 v_0 n_1 Q w
theorem qod.ok (v_0:Int) (n_1:Int) (Q:VWP) (w:World) (h:qod v_0 n_1 Q w):Calls Tryz.prog 320 ⟨[.int .i64 v_0,.int .i64 n_1]⟩ w (Ret Q) :=
 qqc [.tmp 4] qbe Tryz.func320 rfl rfl rfl rfl (.sq [sI 0,sI 1] (fun a b w=>qod.j1 a b Q w) .lf (.pr 1 [sI 0,sI 1,sI 5] (fun a b c w=>qod.j2 a b c Q w) (.sq [sI 5] (fun a w=>qod.j3 a Q w) (.sq [sI 0,sI 5,sI 12,sI 13] (fun a b c d w=>qod.j4 a b c d Q w) .lf (.bk (.lo [sI 12] [sI 0,sI 5,sI 13] (fun a b c d w=>qod.l1 a b c d Q w) (fun nx1 a b c d w=>qod.b1 a b c d Q nx1 w) fun nx1=>.lf))) .lf))) (by kernel_rfl) h
def qhg (r_0:OAd) (Q:VWP) (w:World):Prop :=
 lt (World.drew w) fun w1 =>
 nz r_0 fun a2 =>
 ldL w1 (Addr.add a2 0) fun x3 =>
 lt (IntKind.i64.wrap (8 * (x3.len:Int))) fun x4 =>
 nz r_0 fun a5 =>
 ldI .i64 w1 (Addr.add a5 1) fun x6 =>
 lt (IntKind.i64.wrap (x4 - x6)) fun x7 =>
 Q (.int .i64 x7) w1
theorem qhg.ok (r_0:OAd) (Q:VWP) (w:World) (h:qhg r_0 Q w):Calls Tryz.prog 338 ⟨[.pointer r_0]⟩ w (Ret Q) :=
 qqc [.tmp 2] qbe Tryz.func338 rfl rfl rfl rfl .lf (by kernel_rfl) h
def qgg (w_0:OAd) (b_1:Int) (Q:VWP) (w:World):Prop :=
 ct_ 255 [.pointer w_0] w fun w2 =>
 nz w_0 fun a3 =>
 ldL w2 (Addr.add a3 0) fun x4 =>
 nw w2 ⟨[.int .u8 b_1]⟩ 5 fun a5 w6 =>
 rdO w6 (some a5) (1 * 1) fun c7 =>
 apK Tryz.prog 5 w6 x4.a x4.len x4.cap 1 c7 fun s8 w9 =>
 nz w_0 fun a10 =>
 st w9 (Addr.add a10 0) (sV s8) fun w11 =>
 Q (.tuple ⟨[]⟩) w11
theorem qgg.ok (w_0:OAd) (b_1:Int) (Q:VWP) (w:World) (h:qgg w_0 b_1 Q w):Calls Tryz.prog 256 ⟨[.pointer w_0,.int .u8 b_1]⟩ w (Ret Q) :=
 qqc [] qbe Tryz.func256 rfl rfl rfl rfl .lf (by kernel_rfl) h
def qff (w_0:OAd) (Q:VWP) (w:World):Prop :=
 nz w_0 fun a1 =>
 ldI .i64 w (Addr.add a1 2) fun x2 =>
 br (decide (x2 > 0)) (
 nz w_0 fun a3 =>
 ldI .i64 w (Addr.add a3 2) fun x4 =>
 lt (IntKind.i64.wrap (8 - x4)) fun x5 =>
 ct_ 254 [.pointer w_0,.int .i64 0,.int .i64 x5] w fun w7 =>
 Q (.tuple ⟨[]⟩) w7) (
 Q (.tuple ⟨[]⟩) w)
theorem qff.ok (w_0:OAd) (Q:VWP) (w:World) (h:qff w_0 Q w):Calls Tryz.prog 255 ⟨[.pointer w_0]⟩ w (Ret Q) :=
 qqc [] qbe Tryz.func255 rfl rfl rfl rfl .lf (by kernel_rfl) h
def qxf (r_0:OAd) (Q:VWP) (w:World):Prop :=
 qxi 269 [.pointer r_0] w fun r3 w2 =>
 lt (IntKind.i64.wrap (8 * r3)) fun x4 =>
 nz r_0 fun a5 =>
 st w2 (Addr.add a5 1) (.int .i64 x4) fun w6 =>
 Q (.tuple ⟨[]⟩) w6
theorem qxf.ok (r_0:OAd) (Q:VWP) (w:World) (h:qxf r_0 Q w):Calls Tryz.prog 322 ⟨[.pointer r_0]⟩ w (Ret Q) :=
 qqc [] qbe Tryz.func322 rfl rfl rfl rfl .lf (by kernel_rfl) h
def qxe (r_0:OAd) (Q:VWP) (w:World):Prop :=
 nz r_0 fun a1 =>
 ldI .i64 w (Addr.add a1 1) fun x2 =>
 lt (IntKind.i64.wrap (x2+7)) fun x3 =>
 (8:Int) ≠ 0 ∧
 lt (IntKind.i64.wrap (Int.tdiv x3 8)) fun x4 =>
 Q (.int .i64 x4) w
theorem qxe.ok (r_0:OAd) (Q:VWP) (w:World) (h:qxe r_0 Q w):Calls Tryz.prog 269 ⟨[.pointer r_0]⟩ w (Ret Q) :=
 qqc [.tmp 2] qbe Tryz.func269 rfl rfl rfl rfl .lf (by kernel_rfl) h
end Go.Proofs.YtejnemneenjliaaGreat
namespace Go.Proofs.YtejnemneenjliaaGreat
open Go Go.Proofs
set_option linter.unusedVariables false
set_option maxRecDepth 100000
def qid (s_0:Sl) (Q:VWP) (w:World):Prop :=
 br (Option.isNone s_0.a) (
 Q (.slice none 0 0) w) (
 nw w ⟨[]⟩ 5 fun a1 w2 =>
 rdO w2 s_0.a (s_0.len * 1) fun c3 =>
 apK Tryz.prog 5 w2 (some a1) 0 0 s_0.len c3 fun s4 w5 =>
 Q (sV s4) w5)
theorem qid.ok (s_0:Sl) (Q:VWP) (w:World) (h:qid s_0 Q w):Calls Tryz.prog 112 ⟨[sV s_0]⟩ w (Ret Q) :=
 qqc [.tmp 2] qbe Tryz.func112 rfl rfl rfl rfl .lf (by kernel_rfl) h
def qfd (s_0:Sl) (Q:VWP) (w:World):Prop :=
 bd (s_0.len:Int) s_0.cap fun n1 =>
 bd (s_0.len:Int) n1 fun n2 =>
 lt (⟨qgf s_0.a n1 0 1,n2 - 0,n1 - 0⟩:Sl) fun s3 =>
 Q (sV s3) w
theorem qfd.ok (s_0:Sl) (Q:VWP) (w:World) (h:qfd s_0 Q w):Calls Tryz.prog 68 ⟨[sV s_0]⟩ w (Ret Q) :=
 qqc [.tmp 2] qbe Tryz.func68 rfl rfl rfl rfl .lf (by kernel_rfl) h
def qsi (s_0:Sl) (Q:VWP) (w:World):Prop :=
 bd (s_0.len:Int) s_0.cap fun n1 =>
 bd (s_0.len:Int) n1 fun n2 =>
 lt (⟨qgf s_0.a n1 0 1,n2 - 0,n1 - 0⟩:Sl) fun s3 =>
 Q (sV s3) w
theorem qsi.ok (s_0:Sl) (Q:VWP) (w:World) (h:qsi s_0 Q w):Calls Tryz.prog 127 ⟨[sV s_0]⟩ w (Ret Q) :=
 qqc [.tmp 2] qbe Tryz.func127 rfl rfl rfl rfl .lf (by kernel_rfl) h
def qpc.b1 (s_0:Sl) (i_2:Int) (j_3:Int) (Q:VWP) (nx1:Sl→Int→Int→WP) (w:World):Prop :=
 br (decide (i_2 < j_3)) (
 lt (World.drew w) fun w1 =>
 ixS s_0.a s_0.len j_3 1 fun a2 =>
 ldI .u8 w1 a2 fun x3 =>
 ixS s_0.a s_0.len i_2 1 fun a4 =>
 ldI .u8 w1 a4 fun x5 =>
 ixS s_0.a s_0.len i_2 1 fun a6 =>
 st w1 a6 (.int .u8 x3) fun w7 =>
 ixS s_0.a s_0.len j_3 1 fun a8 =>
 st w7 a8 (.int .u8 x5) fun w9 =>
 lt (IntKind.i64.wrap (i_2+1)) fun x10 =>
 lt (IntKind.i64.wrap (j_3 - 1)) fun x11 =>
 nx1 s_0 x10 x11 w9) (
 Q (.tuple ⟨[]⟩) w)
def qpc.l1 (s_0:Sl) (i_2:Int) (j_3:Int) (Q:VWP) (w:World):Prop :=
 ∃ (I:Int→Int→WP) (μ:Int→Int→World→Nat),I i_2 j_3 w∧∀ i_2:Int,∀ j_3:Int,∀ w:World,I i_2 j_3 w→qpc.b1 s_0 i_2 j_3 Q (fun s_0' i_2' j_3' w'=>(s_0'=s_0)∧I i_2' j_3' w'∧μ i_2' j_3' w' < μ i_2 j_3 w) w
def qpc.j1 (s_0:Sl) (i_2:Int) (j_3:Int) (Q:VWP) (w:World):Prop :=
 qpc.l1 s_0 i_2 j_3 Q w
def qpc (s_0:Sl) (Q:VWP) (w:World):Prop :=
 lt (IntKind.i64.wrap ((s_0.len:Int) - 1)) fun x12 =>
 qpc.j1 s_0 0 x12 Q w
theorem qpc.ok (s_0:Sl) (Q:VWP) (w:World) (h:qpc s_0 Q w):Calls Tryz.prog 173 ⟨[sV s_0]⟩ w (Ret Q) :=
 qqc [] qbe Tryz.func173 rfl rfl rfl rfl (.sq [sL 0,sI 2,sI 3] (fun a b c w=>qpc.j1 a b c Q w) .lf (.bk (.lo [sL 0] [sI 2,sI 3] (fun a b c w=>qpc.l1 a b c Q w) (fun nx1 a b c w=>qpc.b1 a b c Q nx1 w) fun nx1=>.lf))) (by kernel_rfl) h
end Go.Proofs.YtejnemneenjliaaGreat
namespace Go.Proofs.YtejnemneenjliaaGreat
open Go Go.Proofs
set_option linter.unusedVariables false
set_option linter.unusedSimpArgs false
attribute [local irreducible] apK cpK mkK
def byt (V k:Nat):List Int:=(List.range k).map fun i=>((V / 2 ^ (8 * i) % 256:Nat):Int)
theorem qug (V k:Nat):(byt V k).length=k:=by simp [byt]
theorem qnq (V k:Nat):byt V (k+1)=byt V k ++ [((V / 2 ^ (8 * k) % 256:Nat):Int)]:=by simp [byt,List.range_succ]
theorem byt_above (V W k L:Nat) (h:8 * k≤L):byt (V+2 ^ L * W) k=byt V k:=by
 unfold byt
 apply List.map_congr_left
 intro i hi
 have hi:=List.mem_range.1 hi
 congr 1
 have e:2 ^ L * W=2 ^ (8 * i) * (256 * (2 ^ (L - 8 * i - 8) * W)):=by
  rw [← Nat.mul_assoc,← Nat.mul_assoc]
  congr 1
  rw [show (256:Nat)=2 ^ 8 from rfl,← Nat.pow_add,← Nat.pow_add]
  congr 1
  omega
 rw [e,Nat.add_mul_div_left _ _ (Nat.pow_pos (by decide)),Nat.add_mul_mod_self_left]
abbrev u8s (l:List Int):List Value:=l.map (Value.int .u8)
theorem u8s_append (a b:List Int):u8s (a ++ b)=u8s a ++ u8s b:=by simp [u8s]
theorem qhh (a:List Int):(u8s a).length=a.length:=by simp [u8s]
theorem info_u8:Tryz.prog.info? 5=some Tryz.t5:=by kernel_rfl
theorem zc_u8:zc Tryz.prog 5=#[.int .u8 0]:=by kernel_rfl
section
variable {F0:List Nat} {w0 w:World} {ps:List As}
theorem St.rdB {b k:Nat} {l:List Value} {K:Array Value→Prop} (h:St F0 w0 w (qzc b l :: ps)) (hk:k=l.length) (hK:K ⟨l⟩):rdO w (some ⟨b,0,none⟩) k K:=by
 subst hk
 refine ⟨⟨l⟩,rfl,fun i hi=>?_,hK⟩
 rw [qvf,h.blk.cell,Nat.zero_add]
 simp
theorem St.append_u8 {s:Sl} {xs:List Int} {c:Array Value} {x:Int} {K:Sl→World→Prop} (h:St F0 w0 w (qcc 1 s (u8s xs) :: ps)) (hlen:xs.length≤35184372088832) (hc:c=⟨[.int .u8 x]⟩)
 (hk:∀ s' w',St F0 w0 w' (qcc 1 s' (u8s (xs ++ [x])) :: ps)→K s' w'):apK Tryz.prog 5 w s.a s.len s.cap 1 c K:=by
 subst hc
 have hl:=h.len
 rw [qhh] at hl
 have h1:(Tryz.t5).size=1:=rfl
 have h2:(Tryz.t5).bytes=1:=rfl
 have h4:(zc Tryz.prog 5).size=1:=by rw [zc_u8]; rfl
 have h5:(Tryz.t5).bytes ≠ 0:=by rw [h2]; decide
 have h6:(⟨[.int .u8 x]⟩:Array Value).size=1 * 1:=rfl
 have h7:∀ v ∈ (⟨[.int .u8 x]⟩:Array Value),storable v:=by simp [storable]
 refine St.append (i:=Tryz.t5) (sz:=1) (m:=1) info_u8 h1 (by decide) h4 h5 (by rw [h2]; omega) h h6 h7 ?_
 intro s' w' ho _
 refine hk s' w' ?_
 rw [u8s_append]
 exact ho
end
def wrK (wb L V k:Nat):As:=exA fun s:Sl=>ifA (8 * k≤L∧V < 2 ^ L) <| andA
 (qzc wb [.slice s.a s.len s.cap,.int .u64 ((V / 2 ^ (8 * k):Nat):Int),.int .i64 ((L - 8 * k:Nat):Int)]) (qcc 1 s (u8s (byt V k)))
def wrA (wb L V:Nat):As:=wrK wb L V (L / 8)
def putL (L:Nat) (n:Int):Nat:=if 0≤n∧n≤24 then L+n.toNat else L
def putV (L V:Nat) (v n:Int):Nat:=if 0≤n∧n≤24 then V+2 ^ L * (v % 2 ^ n.toNat).toNat else V
theorem low_lt (v:Int) (t:Nat):(v % 2 ^ t).toNat < 2 ^ t:=by
 have h1:(0:Int) < 2 ^ t:=Int.pow_pos (by decide)
 have h2:=Int.emod_lt_of_pos v h1
 have h3:=Int.emod_nonneg v (show (2:Int) ^ t ≠ 0 by omega)
 have h4:((2 ^ t:Nat):Int)=2 ^ t:=by simp
 omega
theorem put_lt {L V W t:Nat} (hV:V < 2 ^ L) (hW:W < 2 ^ t):V+2 ^ L * W < 2 ^ (L+t):=by
 rw [Nat.pow_add]
 have:2 ^ L * (W+1)≤2 ^ L * 2 ^ t:=Nat.mul_le_mul_left _ hW
 rw [Nat.mul_add,Nat.mul_one] at this
 omega
theorem div_pow_lt {V L k:Nat} (hV:V < 2 ^ L) (hk:8 * k≤L):V / 2 ^ (8 * k) < 2 ^ (L - 8 * k):=by
 rw [Nat.div_lt_iff_lt_mul (Nat.pow_pos (by decide)),← Nat.pow_add]
 rw [show L - 8 * k+8 * k=L by omega]
 exact hV
theorem div_above {V W L k:Nat} (h:8 * k≤L):(V+2 ^ L * W) / 2 ^ (8 * k)=V / 2 ^ (8 * k)+W * 2 ^ (L - 8 * k):=by
 have e:2 ^ L * W=2 ^ (8 * k) * (W * 2 ^ (L - 8 * k)):=by
  rw [Nat.mul_comm W,← Nat.mul_assoc,← Nat.pow_add]
  congr 2
  omega
 rw [e,Nat.add_mul_div_left _ _ (Nat.pow_pos (by decide))]
section
variable {F0:List Nat} {w0 w:World} {ps:List As}
theorem qhb.loop {wb L V k:Nat} {Q:VWP} (h:St F0 w0 w (wrK wb L V k :: ps)) (hL:L≤1099511627776) (hs:L - 8 * k < 64)
 (hq:∀ w',St F0 w0 w' (wrA wb L V :: ps)→Q (.tuple ⟨[]⟩) w'):qhb.l1 (some ⟨wb,0,none⟩) Q w:=by
 refine loop0 (fun k w=>St F0 w0 w (wrK wb L V k :: ps)∧L - 8 * k < 64) (fun k=>L - 8 * k) k ⟨h,hs⟩ ?_
 clear h hs
 rintro k w I μ ⟨h,hs⟩ hin
 obtain ⟨s,h⟩:=h.exE
 obtain ⟨⟨hk,hV⟩,h⟩:=h.ifE
 have h:=h.split
 unfold qhb.b1
 refine qtd (h.blk.ldI (o:=2) rfl ?_)
 refine qnc (fun h8=>?_) (fun h8=>?_)
 · have hk8:8 * (k+1)≤L:=by omega
   refine h.drewK fun w h=>?_
   refine qtd (h.blk.ldL (o:=0) rfl ?_)
   refine qtd (h.blk.ldI (o:=1) rfl ?_)
   refine qn (qck _) ?_
   refine h.new fun nb w h=>?_
   refine h.rdB rfl ?_
   have h:=h.at2
   refine h.append_u8 (by rw [qug]; omega) rfl fun s3 w h=>?_
   have h:=h.at2
   refine qtd (h.st (o:=0) (by simp) trivial fun w h=>?_)
   refine qtd (h.blk.ldI (o:=1) rfl ?_)
   refine ⟨by omega,?_⟩
   refine qn (qti .u64 _ (t:=8) (by decide)) ?_
   refine qtd (h.st (o:=1) (by simp) trivial fun w h=>?_)
   refine qtd (h.blk.ldI (o:=2) rfl ?_)
   refine qn (qd (by omega) (by omega)) ?_
   refine qtd (h.st (o:=2) (by simp) trivial fun w h=>?_)
   refine ⟨rfl,hin (k+1) w ⟨?_,by omega⟩ (by omega)⟩
   have e1:((V / 2 ^ (8 * k):Nat):Int) / 2 ^ 8=((V / 2 ^ (8 * (k+1)):Nat):Int):=by
    rw [show 8 * (k+1)=8 * k+8 by omega,Nat.pow_add,← Nat.div_div_eq_div_mul]
    simp
   have e2:((L - 8 * k:Nat):Int) - 8=((L - 8 * (k+1):Nat):Int):=by omega
   have e3:((V / 2 ^ (8 * k):Nat):Int) % 256=((V / 2 ^ (8 * k) % 256:Nat):Int):=by omega
   rw [e1,e2,e3,← qnq] at h
   have h:=h.join
   have h:=h.ifI (c:=8 * (k+1)≤L∧V < 2 ^ L) ⟨hk8,hV⟩
   exact (h.exI (p:=fun s:Sl=>ifA (8 * (k+1)≤L∧V < 2 ^ L) <| andA (qzc wb [.slice s.a s.len s.cap,.int .u64 ((V / 2 ^ (8 * (k+1)):Nat):Int),.int .i64 ((L - 8 * (k+1):Nat):Int)]) (qcc 1 s (u8s (byt V (k+1))))) s3).tail (fun _ _ _ h=>h.drop)
 · have hkk:k=L / 8:=by omega
   subst hkk
   exact hq w ((h.join.ifI ⟨hk,hV⟩).exI s)
theorem qhb.c {wb L V:Nat} {v n:Int} {K:Ending→World→Prop} (h:St F0 w0 w (wrA wb L V :: ps)) (hL:L≤549755813888)
 (hk:∀ w',St F0 w0 w' (wrA wb (putL L n) (putV L V v n) :: ps)→K (.returned (.tuple ⟨[]⟩)) w'):Calls Tryz.prog 254 ⟨[.pointer (some ⟨wb,0,none⟩),.int .i64 v,.int .i64 n]⟩ w K:=by
 refine qfc (qhb.ok _ _ _ _ _ ?_)
 unfold qhb
 refine qnc (fun h1=>?_) (fun h1=>?_)
 · rw [putL,putV,if_neg (by omega),if_neg (by omega)] at hk
   exact hk w h
 refine qnc (fun h2=>?_) (fun h2=>?_)
 · rw [putL,putV,if_neg (by omega),if_neg (by omega)] at hk
   exact hk w h
 rw [putL,putV,if_pos (by omega),if_pos (by omega)] at hk
 obtain ⟨t,rfl⟩:∃ t:Nat,n=t:=⟨n.toNat,by omega⟩
 have ht:t≤24:=by omega
 rw [Int.toNat_natCast] at hk
 obtain ⟨s,h⟩:=h.exE
 obtain ⟨⟨hk8,hV⟩,h⟩:=h.ifE
 have h:=h.split
 unfold qhb.j1
 refine h.drewK fun w h=>?_
 refine qtd (h.blk.ldI (o:=1) rfl ?_)
 refine qn (qll _) ?_
 refine ⟨by omega,?_⟩
 have hp:(1:Int) * 2 ^ t < 2 ^ (IntKind.u64.bits - 1):=by
  rw [Int.one_mul]
  exact_mod_cast Nat.pow_lt_pow_right (by decide) (show t < IntKind.u64.bits - 1 from Nat.lt_of_le_of_lt ht (by decide))
 have hp0:(0:Int) < 2 ^ t:=Int.pow_pos (by decide)
 refine qn (qfi .u64 (show t≤64 by omega) (by omega) hp) ?_
 rw [Int.one_mul] at hp ⊢
 refine qn (wrap_fit .u64 (by omega) (by omega)) ?_
 refine qn (qtj .u64 _ (show t < 64 by omega)) ?_
 have e0:v % 18446744073709551616 % 2 ^ t=v % 2 ^ t:=Int.emod_emod_of_dvd _ ⟨2 ^ (64 - t),by rw [← Int.pow_add,show t+(64 - t)=64 by omega]; rfl⟩
 rw [e0]
 have hW:=low_lt v t
 have e1:v % 2 ^ t=(((v % 2 ^ t).toNat:Nat):Int):=by
  have:=Int.emod_nonneg v (show (2:Int) ^ t ≠ 0 by omega)
  omega
 rw [e1]
 generalize (v % 2 ^ t).toNat=W at hW hk
 refine qtd (h.blk.ldI (o:=2) rfl ?_)
 refine ⟨by omega,?_⟩
 have hr:L - 8 * (L / 8) < 8:=by omega
 have hbig:W * 2 ^ (L - 8 * (L / 8)) < 2 ^ 32:=by
  have a1:2 ^ (L - 8 * (L / 8))≤2 ^ 7:=Nat.pow_le_pow_right (by decide) (by omega)
  have a2:(2:Nat) ^ t≤2 ^ 24:=Nat.pow_le_pow_right (by decide) ht
  have:=Nat.mul_le_mul (show W≤2 ^ 24 by omega) a1
  omega
 refine qn (qfi .u64 (show L - 8 * (L / 8)≤64 by omega) (by omega) (by
  have:((W * 2 ^ (L - 8 * (L / 8)):Nat):Int)=(W:Int) * 2 ^ (L - 8 * (L / 8)):=by simp
  rw [← this]
  exact_mod_cast Nat.lt_of_lt_of_le hbig (by decide))) ?_
 have hword:=div_pow_lt hV hk8
 have hword2:2 ^ (L - 8 * (L / 8))≤2 ^ 7:=Nat.pow_le_pow_right (by decide) (by omega)
 refine qn (qgp .u64 hword (show _ < (2:Nat) ^ (64 - 1) by omega)) ?_
 have e2:((V / 2 ^ (8 * (L / 8)):Nat):Int)+(W:Int) * 2 ^ (L - 8 * (L / 8))=(((V+2 ^ L * W) / 2 ^ (8 * (L / 8)):Nat):Int):=by
  rw [div_above hk8]
  simp
 rw [e2]
 refine qtd (h.st (o:=1) (by simp) trivial fun w h=>?_)
 refine qtd (h.blk.ldI (o:=2) rfl ?_)
 refine qn (qd (by omega) (by omega)) ?_
 refine qtd (h.st (o:=2) (by simp) trivial fun w h=>?_)
 have e3:((L - 8 * (L / 8):Nat):Int)+(t:Int)=((L+t - 8 * (L / 8):Nat):Int):=by omega
 rw [e3] at h
 rw [← byt_above V W (L / 8) L hk8] at h
 refine qhb.loop (k:=L / 8) ((h.join.ifI (c:=8 * (L / 8)≤L+t∧V+2 ^ L * W < 2 ^ (L+t)) ⟨by omega,put_lt hV hW⟩).exI (p:=fun s:Sl=>ifA (8 * (L / 8)≤L+t∧V+2 ^ L * W < 2 ^ (L+t)) <| andA
  (qzc wb [.slice s.a s.len s.cap,.int .u64 (((V+2 ^ L * W) / 2 ^ (8 * (L / 8)):Nat):Int),.int .i64 ((L+t - 8 * (L / 8):Nat):Int)]) (qcc 1 s (u8s (byt (V+2 ^ L * W) (L / 8))))) s) (by omega) (by omega) hk
end
end Go.Proofs.YtejnemneenjliaaGreat
namespace Go.Proofs.YtejnemneenjliaaGreat
open Go Go.Proofs
set_option linter.unusedVariables false
set_option linter.unusedSimpArgs false
attribute [local irreducible] apK cpK mkK
def Rd (w:World) (sz:Nat) (s:Sl) (cs:List Value):Prop:=cs.length=s.len * sz∧∀ i,i < cs.length→∃ a,s.a=some a∧w.cell? (a.add i)=cs[i]?
theorem Own.rd {sz:Nat} {w:World} {s:Sl} {cs:List Value} {F:List Nat} (h:Own sz w s cs F):Rd w sz s cs:=by
 refine ⟨h.len,fun i hi=>?_⟩
 obtain ⟨ob,h1,h2⟩:=h.cell hi
 exact ⟨⟨ob,0,none⟩,h1,by rw [qvf,Nat.zero_add]; exact h2⟩
theorem Rd.rdO {sz k:Nat} {w:World} {s:Sl} {cs:List Value} {K:Array Value→Prop} (h:Rd w sz s cs) (hk:k=cs.length) (hK:K ⟨cs⟩):rdO w s.a k K:=by
 subst hk
 obtain ⟨h1,h2⟩:=h
 cases e:s.a with
 | none =>
   cases cs with
   | nil=>exact ⟨rfl,hK⟩
   | cons c cs =>
     obtain ⟨a,ha,_⟩:=h2 0 (by simp)
     rw [e] at ha; cases ha
 | some a =>
   refine ⟨⟨cs⟩,rfl,fun i hi=>?_,hK⟩
   obtain ⟨a',ha,hc⟩:=h2 i hi
   rw [e] at ha; cases ha
   rw [hc]; simp
theorem Rd.ix {sz:Nat} {w:World} {s:Sl} {cs:List Value} {i:Int} {K:Addr→Prop} (h:Rd w sz s cs) (hsz:0 < sz) (h0:0≤i) (h1:i < s.len) (hk:∀ a,s.a=some a→K (a.add (i.toNat * sz))):ixS s.a s.len i sz K:=by
 have hl:=h.1
 have:i.toNat * sz < cs.length:=by
  rw [hl]
  exact Nat.mul_lt_mul_of_pos_right (by omega) hsz
 obtain ⟨a,ha,_⟩:=h.2 _ this
 unfold ixS
 rw [ha]
 exact ⟨⟨h0,h1⟩,hk a ha⟩
theorem Rd.cell {sz:Nat} {w:World} {s:Sl} {cs:List Value} (h:Rd w sz s cs) {a:Addr} (ha:s.a=some a) {i:Nat} (hi:i < cs.length):w.cell? (a.add i)=cs[i]?:=by
 obtain ⟨a',ha',hc⟩:=h.2 i hi
 rw [ha] at ha'; cases ha'
 exact hc
theorem qzm (a:Addr) (i j:Nat):(a.add i).add j=a.add (i+j):=by
 obtain ⟨b,o,p⟩:=a
 cases p with
 | none=>rw [qvf,qvf,qvf,Nat.add_assoc]
 | some p =>
   unfold Addr.add
   by_cases hi:i=0
   · by_cases hj:j=0
     · simp [hi,hj]
     · simp [hi,hj]
   · by_cases hj:j=0
     · simp [hi,hj]
     · simp [hi,hj,Nat.add_assoc]
theorem ldI_c {k:IntKind} {w:World} {a:Addr} {n:Int} {K:Int→Prop} (hc:w.cell? a=some (.int k n)) (hk:K n):ldI k w a K:=⟨n,hc,hk⟩
theorem ldL_c {w:World} {a:Addr} {n:Sl} {K:Sl→Prop} (hc:w.cell? a=some (.slice n.a n.len n.cap)) (hk:K n):ldL w a K:=⟨n,hc,hk⟩
theorem Rd.ldI {k:IntKind} {sz:Nat} {w:World} {s:Sl} {cs:List Value} {a:Addr} {i:Nat} {n:Int} {K:Int→Prop} (h:Rd w sz s cs) (ha:s.a=some a) (hv:cs[i]?=some (.int k n)) (hk:K n):ldI k w (a.add i) K:=by
 refine ⟨n,?_,hk⟩
 have hi:i < cs.length:=by
  rcases Nat.lt_or_ge i cs.length with h1 | h1
  · exact h1
  · rw [List.getElem?_eq_none h1] at hv; cases hv
 rw [h.cell ha hi]; exact hv
theorem Rd.ldB {sz:Nat} {w:World} {s:Sl} {cs:List Value} {a:Addr} {i:Nat} {n:Bool} {K:Bool→Prop} (h:Rd w sz s cs) (ha:s.a=some a) (hv:cs[i]?=some (.bool n)) (hk:K n):ldB w (a.add i) K:=by
 refine ⟨n,?_,hk⟩
 have hi:i < cs.length:=by
  rcases Nat.lt_or_ge i cs.length with h1 | h1
  · exact h1
  · rw [List.getElem?_eq_none h1] at hv; cases hv
 rw [h.cell ha hi]; exact hv
theorem cell_lt {w:World} {a:Addr} {v:Value} (h:w.cell? a=some v):a.block < w.heap.size:=by
 unfold World.cell? at h
 rcases Nat.lt_or_ge a.block w.heap.size with h1 | h1
 · exact h1
 · have:w.heap[a.block]?=none:=Array.getElem?_eq_none h1
   simp [this] at h
theorem add_block (a:Addr) (i:Nat):(a.add i).block=a.block:=by unfold Addr.add; split <;> rfl
theorem cell_congr {w w':World} {a:Addr} (h:w'.heap[a.block]?=w.heap[a.block]?):w'.cell? a=w.cell? a:=by
 unfold World.cell?
 rw [h]
theorem Rd.keep {sz:Nat} {w w':World} {s:Sl} {cs:List Value} {G:List Nat} (h:Rd w sz s cs) (m:Mod G w w') (hG:∀ a,s.a=some a→a.block ∉ G):Rd w' sz s cs:=by
 refine ⟨h.1,fun i hi=>?_⟩
 obtain ⟨a,ha,hc⟩:=h.2 i hi
 refine ⟨a,ha,?_⟩
 rw [← hc]
 rw [List.getElem?_eq_getElem hi] at hc
 have hlt:=cell_lt hc
 rw [add_block] at hlt
 apply cell_congr
 rw [add_block]
 exact m.frame _ hlt (hG a ha)
def RBlk (w:World) (b:Nat) (l:List Value):Prop:=∃ t f,w.heap[b]?=some (.cells ⟨l⟩ t f)
theorem Blk.rb {w:World} {b:Nat} {l:List Value} (h:Blk w b l):RBlk w b l:=by
 obtain ⟨t,h⟩:=h
 exact ⟨t,_,h⟩
theorem RBlk.lt {w:World} {b:Nat} {l:List Value} (h:RBlk w b l):b < w.heap.size:=by
 obtain ⟨t,f,h⟩:=h
 exact (Array.getElem?_eq_some_iff.1 h).1
theorem RBlk.keep {F:List Nat} {w w':World} {b:Nat} {l:List Value} (h:RBlk w b l) (m:Mod F w w') (hb:b ∉ F):RBlk w' b l:=by
 have hl:=h.lt
 obtain ⟨t,f,h⟩:=h
 exact ⟨t,f,by rw [m.frame b hl hb]; exact h⟩
theorem RBlk.cell {w:World} {b:Nat} {l:List Value} (h:RBlk w b l) (o:Nat):w.cell? ⟨b,o,none⟩=l[o]?:=by
 obtain ⟨t,f,h⟩:=h
 simp [World.cell?,h]
def rdA (sz:Nat) (s:Sl) (cs:List Value):As where
 hd w F:=cs.length=s.len * sz∧((cs=[]∧F=[]) ∨ ∃ b o l,s.a=some ⟨b,o,none⟩∧RBlk w b l∧F=[b]∧∀ i,i < cs.length→l[o+i]?=cs[i]?)
 keep:=by
  rintro w w' F G ⟨hl,h⟩ m hd
  refine ⟨hl,?_⟩
  rcases h with h | ⟨b,o,l,h1,h2,rfl,h3⟩
  · exact Or.inl h
  · exact Or.inr ⟨b,o,l,h1,h2.keep m (hd b (by simp)),rfl,h3⟩
 lt:=by
  rintro w F ⟨hl,⟨_,rfl⟩ | ⟨b,o,l,h1,h2,rfl,h3⟩⟩ x hx
  · cases hx
  · have:x=b:=by simpa using hx
    subst this; exact h2.lt
section
variable {F0:List Nat} {w0 w:World} {p:As} {ps:List As} {sz:Nat} {s:Sl} {cs:List Value}
theorem St.rd (h:St F0 w0 w (rdA sz s cs :: ps)):Rd w sz s cs:=by
 obtain ⟨F,hl,⟨rfl,rfl⟩ | ⟨b,o,l,h1,h2,rfl,h3⟩⟩:=h.get
 · exact ⟨hl,fun i hi=>by simp at hi⟩
 · refine ⟨hl,fun i hi=>⟨_,h1,?_⟩⟩
   rw [qvf,h2.cell]
   exact h3 i hi
theorem St.ord (h:St F0 w0 w (qcc sz s cs :: ps)):Rd w sz s cs:=by
 obtain ⟨F,h⟩:=h.own; exact h.rd
theorem Own.ro {F:List Nat} (h:Own sz w s cs F):∃ F',(rdA sz s cs).hd w F'∧∀ x ∈ F',x ∈ F:=by
 refine ⟨F,⟨h.len,?_⟩,fun _ h=>h⟩
 rcases h with ⟨_,h1,h2⟩ | ⟨ob,rest,h1,hb,_,_,rfl⟩
 · exact Or.inl ⟨h1,h2⟩
 · exact Or.inr ⟨ob,0,cs ++ rest,h1,hb.rb,rfl,fun i hi=>by rw [Nat.zero_add,List.getElem?_append_left hi]⟩
theorem St.ro (h:St F0 w0 w (qcc sz s cs :: ps)):St F0 w0 w (rdA sz s cs :: ps):=by
 refine h.mp fun F h=>?_
 refine ⟨Own.len h,?_⟩
 rcases h with ⟨_,h1,h2⟩ | ⟨ob,rest,h1,hb,_,_,rfl⟩
 · exact Or.inl ⟨h1,h2⟩
 · exact Or.inr ⟨ob,0,cs ++ rest,h1,hb.rb,rfl,fun i hi=>by rw [Nat.zero_add,List.getElem?_append_left hi]⟩
theorem St.recap {s':Sl} (h:St F0 w0 w (rdA sz s cs :: ps)) (ha:s'.a=s.a) (hl:s'.len=s.len):St F0 w0 w (rdA sz s' cs :: ps):=by
 refine h.mp fun F h=>?_
 unfold rdA at h ⊢
 simp only at h ⊢
 rw [ha,hl]; exact h
end
theorem mkStr_i {F0:List Nat} {w0 w:World} {ps:List As} {b n:Nat} {l:List Value} {K:World→Prop} (h:St F0 w0 w (qzc b l :: ps)) (hn:l.length=n) (hk:∀ w',St F0 w0 w' (rdA 1 ⟨some ⟨b,0,none⟩,n,n⟩ l :: ps)→K w'):mkStr w (some ⟨b,0,none⟩) K:=by
 obtain ⟨f,⟨hb,rfl⟩,hstep⟩:=h.step
 obtain ⟨t,hs⟩:=hb.shape
 have e:w.freeze ⟨b,l.length,none⟩ 1={ w with heap:=w.heap.modify b fun
  | .cells c elem (lo,hi)=>.cells c elem (if (lo == hi)=true then (l.length,l.length+1) else (min lo l.length,max hi (l.length+1)))
  | o=>o }:=rfl
 refine ⟨t,l.length,hs,hk _ (hstep _ [b] _ ?_ (Gr.refl _ _) ⟨by simp [hn],Or.inr ⟨b,0,l,rfl,?_,rfl,fun i hi=>by rw [Nat.zero_add]⟩⟩)⟩
 · rw [e]
   refine ⟨rfl,rfl,rfl,by simp,fun x hx hF=>?_⟩
   simp only [Array.getElem?_modify]
   rw [if_neg]
   intro h
   exact hF (by simp [h])
 · obtain ⟨t,hb⟩:=hb
   refine ⟨t,(l.length,l.length+1),?_⟩
   rw [e]
   simp only [Array.getElem?_modify,if_true,hb,Option.map_some]
   rfl
def val:List Bool→Nat
 | []=>0
 | b :: l=>b.toNat+2 * val l
theorem val_lt (l:List Bool):val l < 2 ^ l.length:=by
 induction l with
 | nil=>simp [val]
 | cons b l ih =>
   rw [val,List.length_cons,Nat.pow_succ]
   have:b.toNat≤1:=by cases b <;> simp
   omega
theorem qzo (a b:List Bool):val (a ++ b)=val a+2 ^ a.length * val b:=by
 induction a with
 | nil=>simp [val]
 | cons x a ih =>
   rw [List.cons_append,val,val,ih,List.length_cons,Nat.pow_succ,Nat.mul_add,← Nat.mul_assoc,Nat.mul_comm 2 (2 ^ a.length)]
   omega
def bt (v:Int) (i:Nat):Bool:=v / 2 ^ i % 2 == 1
def qi (v:Int) (n:Nat):List Bool:=(List.range n).map (bt v)
theorem qk (v:Int) (n:Nat):(qi v n).length=n:=by simp [qi]
theorem bitsOf_succ (v:Int) (n:Nat):qi v (n+1)=qi v n ++ [bt v n]:=by simp [qi,List.range_succ]
theorem qoq (v:Int) (i:Nat):(((bt v i).toNat:Nat):Int)=v / 2 ^ i % 2:=by
 unfold bt
 have h1:0≤v / 2 ^ i % 2:=by omega
 have h2:v / 2 ^ i % 2 < 2:=by omega
 generalize v / 2 ^ i % 2=x at h1 h2
 by_cases h:x=1
 · subst h; rfl
 · have:x=0:=by omega
   subst this; rfl
theorem mod_pow_succ (v:Int) (n:Nat):v % 2 ^ (n+1)=v % 2 ^ n+2 ^ n * (v / 2 ^ n % 2):=by
 have hp:(0:Int) < 2 ^ n:=Int.pow_pos (by decide)
 have h1:=Int.mul_ediv_add_emod v (2 ^ n)
 have h2:=Int.mul_ediv_add_emod (v / 2 ^ n) 2
 have h3:=Int.mul_ediv_add_emod v (2 ^ (n+1))
 have h4:v / 2 ^ (n+1)=v / 2 ^ n / 2:=by
  rw [Int.pow_succ,Int.ediv_ediv_of_nonneg (by omega)]
 rw [h4] at h3
 have e:(2:Int) ^ (n+1) * (v / 2 ^ n / 2)=2 ^ n * (2 * (v / 2 ^ n / 2)):=by
  rw [Int.pow_succ,Int.mul_assoc]
 rw [e] at h3
 have e2:(2:Int) ^ n * (2 * (v / 2 ^ n / 2))=2 ^ n * (v / 2 ^ n) - 2 ^ n * (v / 2 ^ n % 2):=by
  rw [← Int.mul_sub]
  congr 1
  omega
 omega
theorem qxk (v:Int) (n:Nat):((val (qi v n):Nat):Int)=v % 2 ^ n:=by
 induction n with
 | zero=>simp [qi,val,Int.emod_one]
 | succ n ih =>
   rw [bitsOf_succ,qzo,qk,mod_pow_succ,← ih]
   have:val [bt v n]=(bt v n).toNat:=by simp [val]
   rw [this,Int.natCast_add,Int.natCast_mul,qoq]
   simp
theorem qyq (v:Int) (n:Nat):val (qi v n)=(v % 2 ^ n).toNat:=by
 have:=qxk v n
 omega
theorem bt_nat (V i:Nat):bt (V:Int) i=V.testBit i:=by
 unfold bt Nat.testBit
 have e:((V:Int) / 2 ^ i % 2)=((V / 2 ^ i % 2:Nat):Int):=by simp
 rw [e]
 rw [Nat.shiftRight_eq_div_pow]
 have h:V / 2 ^ i % 2 < 2:=Nat.mod_lt _ (by decide)
 generalize V / 2 ^ i=x at h
 rw [Nat.and_comm,Nat.and_one_is_mod]
 generalize x % 2=y at h
 have:y=0 ∨ y=1:=by omega
 rcases this with rfl | rfl <;> rfl
theorem qnn (l:List Bool):qi (val l) l.length=l:=by
 induction l with
 | nil=>rfl
 | cons b l ih =>
   rw [List.length_cons]
   unfold qi at ih ⊢
   rw [List.range_succ_eq_map,List.map_cons,List.map_map]
   congr 1
   · unfold bt
     rw [val]
     cases b <;> simp <;> omega
   · conv=>rhs; rw [← ih]
     apply List.map_congr_left
     intro i _
     unfold bt
     simp only [Function.comp]
     rw [val]
     congr 2
     have:((b.toNat+2 * val l:Nat):Int) / 2 ^ (i+1)=((val l:Nat):Int) / 2 ^ i:=by
      rw [Int.pow_succ,Int.mul_comm,← Int.ediv_ediv_of_nonneg (by decide)]
      congr 1
      have:b.toNat≤1:=by cases b <;> simp
      omega
     exact this
theorem val_inj {a b:List Bool} (hl:a.length=b.length) (h:val a=val b):a=b:=by
 rw [← qnn a,← qnn b,h,hl]
def turnN:Nat→Int→Nat→Nat
 | 0,_,out=>out
 | t+1,v,out=>turnN t (v / 2) (2 * out+(v % 2).toNat)
theorem turnN_val (t:Nat):∀ (v:Int) (l:List Bool),turnN t v (val l)=val ((qi v t).reverse ++ l):=by
 induction t with
 | zero=>intro v l; rfl
 | succ t ih =>
   intro v l
   have e:2 * val l+(v % 2).toNat=val (bt v 0 :: l):=by
    rw [val]
    have:=qoq v 0
    rw [Int.pow_zero,Int.ediv_one] at this
    omega
   rw [turnN,e,ih]
   congr 1
   have:qi v (t+1)=bt v 0 :: qi (v / 2) t:=by
    unfold qi
    rw [List.range_succ_eq_map,List.map_cons,List.map_map]
    congr 1
    apply List.map_congr_left
    intro i _
    simp only [Function.comp,bt]
    congr 2
    rw [Int.pow_succ,Int.mul_comm,← Int.ediv_ediv_of_nonneg (by decide)]
   rw [this,List.reverse_cons,List.append_assoc]
   rfl
theorem turnN_eq (t:Nat) (v:Int):turnN t v 0=val (qi v t).reverse:=by
 have:=turnN_val t v []
 simpa [val] using this
theorem bitsOf_turn (t:Nat) (v:Int):qi (turnN t v 0:Nat) t=(qi v t).reverse:=by
 rw [turnN_eq]
 have:=qnn (qi v t).reverse
 rwa [List.length_reverse,qk] at this
def turn (v n:Int):Int:=if 0≤n∧n≤24 then (turnN n.toNat v 0:Nat) else 0
def pb (v n:Int):List Bool:=if 0≤n∧n≤24 then qi v n.toNat else []
theorem pb_turn (v n:Int):pb (turn v n) n=(pb v n).reverse:=by
 unfold pb turn
 split
 · rw [bitsOf_turn]
 · rfl
theorem putL_pb (l:List Bool) (v n:Int):putL l.length n=(l ++ pb v n).length:=by
 unfold putL pb
 split
 · rw [List.length_append,qk]
 · simp
theorem putV_pb (l:List Bool) (v n:Int):putV l.length (val l) v n=val (l ++ pb v n):=by
 unfold putV pb
 split
 · rw [qzo,qyq]
 · simp
end Go.Proofs.YtejnemneenjliaaGreat
namespace Go.Proofs.YtejnemneenjliaaGreat
open Go Go.Proofs
set_option linter.unusedVariables false
set_option linter.unusedSimpArgs false
attribute [local irreducible] apK cpK mkK
theorem orV_comm (k:IntKind) (a b:Int):orV k a b=orV k b a:=by unfold orV; rw [BitVec.or_comm]
theorem qlo (k:IntKind) {a b:Nat} {t:Nat} (ha:a < 2 ^ t) (hs:a+b * 2 ^ t < 2 ^ (k.bits - 1)):orV k ((b:Int) * 2 ^ t) (a:Int)=(a:Int)+(b:Int) * 2 ^ t:=by
 rw [orV_comm,qgp k ha hs]
theorem andV_one (k:IntKind) (x:Int):qli k x 1=x % 2:=by
 have h:=qtj k x (t:=1) (Nat.lt_of_lt_of_le (by decide) (bits_pos k))
 simpa using h
section
variable {F0:List Nat} {w0 w:World} {ps:List As}
theorem St.nil (sz:Nat) (h:St F0 w0 w ps):St F0 w0 w (qcc sz ⟨none,0,0⟩ [] :: ps) :=
 h.add (f':=[]) (Mod.refl _ _) (Or.inl ⟨rfl,rfl,rfl⟩) (Gr.refl _ _)
def wrL (wb:Nat) (l:List Bool):As:=wrA wb l.length (val l)
theorem wrL_o {wb:Nat} {l:List Bool} (h:St F0 w0 w (wrL wb l :: ps)):∃ s:Sl,St F0 w0 w (qzc wb [.slice s.a s.len s.cap,.int .u64 ((val l / 2 ^ (8 * (l.length / 8)):Nat):Int),.int .i64 ((l.length - 8 * (l.length / 8):Nat):Int)] :: qcc 1 s (u8s (byt (val l) (l.length / 8))) :: ps):=by
 obtain ⟨s,h⟩:=h.exE
 obtain ⟨_,h⟩:=h.ifE
 exact ⟨s,h.split⟩
theorem wrL_i {wb:Nat} {l:List Bool} {s:Sl} (h:St F0 w0 w (qzc wb [.slice s.a s.len s.cap,.int .u64 ((val l / 2 ^ (8 * (l.length / 8)):Nat):Int),.int .i64 ((l.length - 8 * (l.length / 8):Nat):Int)] :: qcc 1 s (u8s (byt (val l) (l.length / 8))) :: ps)):St F0 w0 w (wrL wb l :: ps) :=
 (h.join.ifI (c:=8 * (l.length / 8)≤l.length∧val l < 2 ^ l.length) ⟨by omega,val_lt l⟩).exI (p:=fun s:Sl=>ifA (8 * (l.length / 8)≤l.length∧val l < 2 ^ l.length) <| andA
 (qzc wb [.slice s.a s.len s.cap,.int .u64 ((val l / 2 ^ (8 * (l.length / 8)):Nat):Int),.int .i64 ((l.length - 8 * (l.length / 8):Nat):Int)]) (qcc 1 s (u8s (byt (val l) (l.length / 8))))) s
theorem quf.c {K:Ending→World→Prop} (h:St F0 w0 w ps)
 (hk:∀ wb w',St F0 w0 w' (wrL wb [] :: ps)→K (.returned (.pointer (some ⟨wb,0,none⟩))) w'):Calls Tryz.prog 253 ⟨[]⟩ w K:=by
 refine qfc (quf.ok _ _ ?_)
 unfold quf
 refine (h.nil 1).new fun nb w h=>?_
 refine hk nb w ?_
 exact wrL_i (s:=⟨none,0,0⟩) (l:=[]) h
theorem qhb.cl {wb:Nat} {l:List Bool} {v n:Int} {K:Ending→World→Prop} (h:St F0 w0 w (wrL wb l :: ps)) (hL:l.length≤549755813888)
 (hk:∀ w',St F0 w0 w' (wrL wb (l ++ pb v n) :: ps)→K (.returned (.tuple ⟨[]⟩)) w'):Calls Tryz.prog 254 ⟨[.pointer (some ⟨wb,0,none⟩),.int .i64 v,.int .i64 n]⟩ w K:=by
 refine qhb.c h hL fun w h=>hk w ?_
 rw [putL_pb l v n,putV_pb] at h
 exact h
theorem turn_step {out:Nat} {v:Int} {i:Nat} (ho:out < 2 ^ i) (hi:i < 24):orV .i64 (qqi .i64 (out:Int) 1) (qli .i64 v 1)=((2 * out+(v % 2).toNat:Nat):Int):=by
 have hb:out < 2 ^ 24:=Nat.lt_of_lt_of_le ho (Nat.pow_le_pow_right (by decide) (by omega))
 rw [andV_one,shlV_lit .i64 (x:=(out:Int)) (y:=1) (t:=1) rfl (by decide) (by omega) (by
  show (out:Int) * 2 ^ 1 < 2 ^ 63
  omega)]
 have e:v % 2=((v % 2).toNat:Int):=by omega
 have h2:(v % 2).toNat < 2:=by omega
 rw [e,qlo .i64 (t:=1) (by omega) (by
  show _ < 2 ^ 63
  omega)]
 omega
theorem qod.loop {v:Int} {n out i:Nat} {Q:VWP} (hi:i≤n) (hn:n≤24) (ho:out < 2 ^ i) (hq:Q (.int .i64 (turnN (n - i) v out:Nat)) w):qod.l1 n v out i Q w:=by
 refine loop3 (fun (a:Nat × Nat) v' (out':Int) (i':Int) w'=>out'=a.1∧i'=a.2∧a.2≤n∧a.1 < 2 ^ a.2∧turnN (n - a.2) v' a.1=turnN (n - i) v out∧w'=w) (fun a=>n - a.2) (out,i) ⟨rfl,rfl,hi,ho,rfl,rfl⟩ ?_
 rintro ⟨o,i⟩ v' out' i' w' I μ ⟨rfl,rfl,h1,h2,h3,rfl⟩ hin
 simp only at h1 h2 h3 hin ⊢
 unfold qod.b1
 refine qnc (fun h=>?_) (fun h=>?_)
 · refine ⟨by omega,?_⟩
   refine que (que ?_)
   refine qn (turn_step h2 (by omega)) ?_
   refine ⟨by omega,?_⟩
   refine qn (qti .i64 _ (t:=1) (by decide)) ?_
   refine qn (qd (by omega) (by omega)) ?_
   refine ⟨rfl,hin (2 * o+(v' % 2).toNat,i+1) _ _ _ _ ⟨rfl,by simp,by simp only; omega,by simp only; rw [Nat.pow_succ]; omega,?_,rfl⟩ (by simp only; omega)⟩
   simp only
   rw [← h3,show n - i=(n - (i+1))+1 by omega,turnN]
   rfl
 · have:i=n:=by omega
   subst this
   unfold qod.j3
   rw [Nat.sub_self,turnN] at h3
   rw [h3]; exact hq
theorem qod.c {v n:Int} {K:Ending→World→Prop} (hk:K (.returned (.int .i64 (turn v n))) w):Calls Tryz.prog 320 ⟨[.int .i64 v,.int .i64 n]⟩ w K:=by
 refine qfc (qod.ok _ _ _ _ ?_)
 unfold qod qod.j1
 refine qnc (fun h1=>?_) (fun h1=>?_)
 · rwa [turn,if_neg (by omega)] at hk
 refine qnc (fun h2=>?_) (fun h2=>?_)
 · rwa [turn,if_neg (by omega)] at hk
 rw [turn,if_pos (by omega)] at hk
 obtain ⟨t,rfl⟩:∃ t:Nat,n=t:=⟨n.toNat,by omega⟩
 exact qod.loop (i:=0) (out:=0) (by omega) (by omega) (by decide) hk
theorem qfg.c {wb:Nat} {l:List Bool} {v n:Int} {K:Ending→World→Prop} (h:St F0 w0 w (wrL wb l :: ps)) (hL:l.length≤549755813888)
 (hk:∀ w',St F0 w0 w' (wrL wb (l ++ (pb v n).reverse) :: ps)→K (.returned (.tuple ⟨[]⟩)) w'):Calls Tryz.prog 301 ⟨[.pointer (some ⟨wb,0,none⟩),.int .i64 v,.int .i64 n]⟩ w K:=by
 refine qfc (qfg.ok _ _ _ _ _ ?_)
 unfold qfg
 refine qod.c ⟨_,rfl,?_⟩
 refine qhb.cl h hL fun w h=>⟨rfl,?_⟩
 rw [pb_turn] at h
 exact hk w h
def pad (l:List Bool):List Bool:=List.replicate ((8 - l.length % 8) % 8) false
theorem pb_no (n:Nat) (h:n≤24):pb 0 n=List.replicate n false:=by
 unfold pb
 rw [if_pos (by omega),Int.toNat_natCast]
 apply List.ext_getElem
 · simp [qi]
 · intro i h1 h2
   simp [qi,bt]
theorem qff.c {wb:Nat} {l:List Bool} {K:Ending→World→Prop} (h:St F0 w0 w (wrL wb l :: ps)) (hL:l.length≤549755813888)
 (hk:∀ w',St F0 w0 w' (wrL wb (l ++ pad l) :: ps)→K (.returned (.tuple ⟨[]⟩)) w'):Calls Tryz.prog 255 ⟨[.pointer (some ⟨wb,0,none⟩)]⟩ w K:=by
 refine qfc (qff.ok _ _ _ ?_)
 unfold qff
 obtain ⟨s,h⟩:=wrL_o h
 refine qtd (h.blk.ldI (o:=2) rfl ?_)
 refine qnc (fun h1=>?_) (fun h1=>?_)
 · refine qtd (h.blk.ldI (o:=2) rfl ?_)
   refine qn (qd (by omega) (by omega)) ?_
   have e:(8:Int) - ((l.length - 8 * (l.length / 8):Nat):Int)=((8 - l.length % 8:Nat):Int):=by omega
   rw [e]
   refine qhb.cl (wrL_i h) hL fun w h=>⟨rfl,hk w ?_⟩
   rw [pb_no _ (by omega)] at h
   unfold pad
   rwa [Nat.mod_eq_of_lt (by omega)]
 · have:(8 - l.length % 8) % 8=0:=by omega
   refine hk w ?_
   unfold pad
   rw [this]
   simpa using wrL_i h
theorem qgg.c {wb:Nat} {l:List Bool} {v:Int} {K:Ending→World→Prop} (h:St F0 w0 w (wrL wb l :: ps)) (hL:l.length≤274877906944) (hv:0≤v∧v < 256)
 (hk:∀ w',St F0 w0 w' (wrL wb (l ++ pad l ++ qi v 8) :: ps)→K (.returned (.tuple ⟨[]⟩)) w'):Calls Tryz.prog 256 ⟨[.pointer (some ⟨wb,0,none⟩),.int .u8 v]⟩ w K:=by
 refine qfc (qgg.ok _ _ _ _ ?_)
 unfold qgg
 refine qff.c h (by omega) fun w h=>⟨rfl,?_⟩
 have hm:(l ++ pad l).length % 8=0:=by
  rw [List.length_append,pad,List.length_replicate]; omega
 have hle:(l ++ pad l).length≤l.length+8:=by
  rw [List.length_append,pad,List.length_replicate]; omega
 generalize l ++ pad l=l' at h hm hle hk
 obtain ⟨s,h⟩:=wrL_o h
 refine qtd (h.blk.ldL (o:=0) rfl ?_)
 refine h.new fun nb w h=>?_
 refine h.rdB rfl ?_
 have h:=h.drop.at1
 refine h.append_u8 (by rw [qug]; omega) rfl fun s3 w h=>?_
 have h:=h.at1
 refine qtd (h.st (o:=0) (by simp) trivial fun w h=>?_)
 refine hk w ?_
 have hV:=val_lt l'
 have e0:8 * (l'.length / 8)=l'.length:=by omega
 have e1:(l' ++ qi v 8).length / 8=l'.length / 8+1:=by rw [List.length_append,qk]; omega
 have hw:=val_lt (qi v 8)
 have hw2:=qxk v 8
 rw [qk] at hw
 refine wrL_i (s:=s3) ?_
 have ev:val (l' ++ qi v 8)=val l'+2 ^ l'.length * val (qi v 8):=qzo _ _
 have c1:val (l' ++ qi v 8) / 2 ^ (8 * ((l' ++ qi v 8).length / 8))=0:=by
  have:=val_lt (l' ++ qi v 8)
  rw [e1,show 8 * (l'.length / 8+1)=(l' ++ qi v 8).length by rw [List.length_append,qk]; omega]
  exact Nat.div_eq_of_lt this
 have c2:(l' ++ qi v 8).length - 8 * ((l' ++ qi v 8).length / 8)=0:=by
  rw [e1,List.length_append,qk]; omega
 have c3:byt (val (l' ++ qi v 8)) ((l' ++ qi v 8).length / 8)=byt (val l') (l'.length / 8) ++ [v]:=by
  rw [e1,qnq,ev,byt_above _ _ _ _ (by omega)]
  congr 2
  rw [e0,Nat.add_mul_div_left _ _ (Nat.pow_pos (by decide)),Nat.div_eq_of_lt hV]
  omega
 rw [c1,c2,c3]
 have d1:val l' / 2 ^ (8 * (l'.length / 8))=0:=by rw [e0]; exact Nat.div_eq_of_lt hV
 have d2:l'.length - 8 * (l'.length / 8)=0:=by omega
 rw [d1,d2] at h
 exact h
theorem qid.c {s:Sl} {xs:List Int} {K:Ending→World→Prop} (h:St F0 w0 w ps) (hr:Rd w 1 s (u8s xs)) (hlen:xs.length≤35184372088832)
 (hk:∀ s' w',St F0 w0 w' (qcc 1 s' (u8s xs) :: ps)→K (.returned (.slice s'.a s'.len s'.cap)) w'):Calls Tryz.prog 112 ⟨[.slice s.a s.len s.cap]⟩ w K:=by
 refine qfc (qid.ok _ _ _ ?_)
 unfold qid
 have hl:=hr.1
 rw [qhh] at hl
 refine qne (fun h1=>?_) (fun h1=>?_)
 · have hx:xs=[]:=by
    cases xs with
    | nil=>rfl
    | cons x xs =>
      obtain ⟨a,ha,_⟩:=hr.2 0 (by simp [u8s])
      rw [ha] at h1; cases h1
   subst hx
   exact hk ⟨none,0,0⟩ w (h.nil 1)
 · refine h.newM fun nb w1 hm h=>?_
   have hr1:=hr.keep hm (by simp)
   refine hr1.rdO (by rw [hr1.1]) ?_
   have h1:(Tryz.t5).size=1:=rfl
   have h2:(Tryz.t5).bytes=1:=rfl
   have h4:(zc Tryz.prog 5).size=1:=by rw [zc_u8]; rfl
   have h5:(Tryz.t5).bytes ≠ 0:=by rw [h2]; decide
   have h:St F0 w0 w1 (qcc 1 ⟨some ⟨nb,0,none⟩,0,0⟩ [] :: ps):=by
    refine h.mp ?_
    rintro F ⟨hb,rfl⟩
    exact Or.inr ⟨nb,[],rfl,hb,rfl,rfl,rfl⟩
   refine St.append (i:=Tryz.t5) (sz:=1) (m:=s.len) (s:=⟨some ⟨nb,0,none⟩,0,0⟩) info_u8 h1 (by decide) h4 h5 (by rw [h2]; show (2 * (0+s.len)+1024) * 1≤_; omega) h (by
    show (u8s xs).length=_
    exact hr.1) (by
    intro v hv
    have hv:v ∈ u8s xs:=by simpa using hv
    obtain ⟨n,_,rfl⟩:=List.mem_map.1 hv
    trivial) fun s' w' h _=>hk s' w' h
def bytes (l:List Bool):List Int:=byt (val l) ((l.length+7) / 8)
theorem qfd.c {s:Sl} {cs:List Value} {K:Ending→World→Prop} (h:St F0 w0 w (rdA 1 s cs :: ps)) (hc:s.len≤s.cap)
 (hk:∀ s':Sl,s'.len=s.len→s'.cap=s.len→St F0 w0 w (rdA 1 s' cs :: ps)→K (.returned (.slice s'.a s'.len s'.cap)) w):Calls Tryz.prog 68 ⟨[.slice s.a s.len s.cap]⟩ w K:=by
 refine qfc (qfd.ok _ _ _ ?_)
 unfold qfd
 refine ⟨⟨by omega,by omega⟩,⟨by omega,by omega⟩,que ?_⟩
 refine hk ⟨_,_,_⟩ (by simp) (by simp) (h.recap ?_ (by simp))
 show qgf s.a _ 0 1=s.a
 unfold qgf
 split
 · rfl
 · cases s.a with
   | none=>rfl
   | some a=>simp [Addr.add]
theorem St.cap {sz:Nat} {s:Sl} {cs:List Value} (hsz:0 < sz) (h:St F0 w0 w (qcc sz s cs :: ps)):s.len≤s.cap:=by
 obtain ⟨F,ho⟩:=h.own
 rcases ho with ⟨rfl,_,_⟩ | ⟨ob,rest,_,_,h2,h3,_⟩
 · exact Nat.le_refl 0
 · rw [List.length_append] at h3
   have:s.len * sz≤s.cap * sz:=by omega
   exact Nat.le_of_mul_le_mul_right this hsz
theorem qwe.c {wb:Nat} {l:List Bool} {K:Ending→World→Prop} (h:St F0 w0 w (wrL wb l :: ps)) (hL:l.length≤274877906944)
 (hk:∀ s w',s.len=(l.length+7) / 8→s.cap=s.len→St F0 w0 w' (rdA 1 s (u8s (bytes l)) :: wrL wb l :: ps)→K (.returned (.slice s.a s.len s.cap)) w'):Calls Tryz.prog 257 ⟨[.pointer (some ⟨wb,0,none⟩)]⟩ w K:=by
 refine qfc (qwe.ok _ _ _ ?_)
 unfold qwe
 obtain ⟨s,h⟩:=wrL_o h
 refine qtd (h.blk.ldL (o:=0) rfl ?_)
 refine qid.c h h.at1.ord (by rw [qug]; omega) fun s1 w h=>⟨s1,rfl,?_⟩
 refine qtd (h.blk1.ldI (o:=2) rfl ?_)
 refine qnc (fun h1=>?_) (fun h1=>?_)
 · refine qtd (h.blk1.ldI (o:=1) rfl ?_)
   refine qn (qck _) ?_
   refine h.new fun nb w h=>?_
   refine h.rdB rfl ?_
   have h:=h.drop
   refine h.append_u8 (by rw [qug]; omega) rfl fun s2 w h=>?_
   have e:bytes l=byt (val l) (l.length / 8) ++ [((val l / 2 ^ (8 * (l.length / 8)):Nat):Int) % 256]:=by
    unfold bytes
    rw [show (l.length+7) / 8=l.length / 8+1 by omega,qnq]
    congr 1
   rw [← e] at h
   have hcap:=h.cap (by decide)
   have hlen:=h.len
   rw [qhh,bytes,qug] at hlen
   have h:=h.ro
   refine qfd.c h hcap fun s3 hs1 hs2 h=>⟨s3,rfl,hk s3 w (by omega) (by omega) ?_⟩
   exact h.tail fun _ _ _ h=>wrL_i h
 · have e:bytes l=byt (val l) (l.length / 8):=by
    unfold bytes
    rw [show (l.length+7) / 8=l.length / 8 by omega]
   have hcap:=h.cap (by decide)
   rw [← e] at h
   have hlen:=h.len
   rw [qhh,bytes,qug] at hlen
   have h:=h.ro
   refine qfd.c h hcap fun s3 hs1 hs2 h=>⟨s3,rfl,hk s3 w (by omega) (by omega) ?_⟩
   rw [e] at h ⊢
   exact h.tail fun _ _ _ h=>wrL_i h
end
end Go.Proofs.YtejnemneenjliaaGreat
namespace Go.Proofs.YtejnemneenjliaaGreat
open Go Go.Proofs
set_option linter.unusedVariables false
set_option linter.unusedSimpArgs false
attribute [local irreducible] apK cpK mkK
def rrA (rb V N at':Nat):As:=exA fun s:Sl=>andA (qzc rb [.slice s.a s.len s.cap,.int .i64 (at':Int)]) (qcc 1 s (u8s (byt V N)))
def getOk (N at':Nat) (n:Int):Bool:=decide (0≤n∧n≤24∧n≤8 * (N:Int) - at')
theorem byt_get {V N i:Nat} (h:i < N):(u8s (byt V N))[i]?=some (.int .u8 ((V / 2 ^ (8 * i) % 256:Nat):Int)):=by
 simp [u8s,byt,h]
theorem get_bits (V at' k:Nat) (h:at' % 8+k≤8):V / 2 ^ (8 * (at' / 8)) % 256 / 2 ^ (at' % 8) % 2 ^ k=V / 2 ^ at' % 2 ^ k:=by
 have e:V / 2 ^ at'=V / 2 ^ (8 * (at' / 8)) / 2 ^ (at' % 8):=by
  rw [Nat.div_div_eq_div_mul,← Nat.pow_add]
  congr 2
  omega
 rw [e]
 generalize V / 2 ^ (8 * (at' / 8))=X
 generalize at' % 8=r at h
 have e2:(256:Nat)=2 ^ r * (2 ^ k * 2 ^ (8 - r - k)):=by
  rw [← Nat.pow_add,← Nat.pow_add,show r+(k+(8 - r - k))=8 by omega]
 rw [e2,Nat.mod_mul_right_div_self,Nat.mod_mul_right_mod]
theorem get_step (V a i k:Nat):V / 2 ^ a % 2 ^ i+V / 2 ^ (a+i) % 2 ^ k * 2 ^ i=V / 2 ^ a % 2 ^ (i+k):=by
 rw [Nat.pow_add 2 i k,Nat.mod_mul,Nat.div_div_eq_div_mul,← Nat.pow_add,Nat.mul_comm]
section
variable {F0:List Nat} {w0 w:World} {ps:List As}
theorem rrA_o {rb V N at':Nat} (h:St F0 w0 w (rrA rb V N at' :: ps)):∃ s:Sl,s.len=N∧St F0 w0 w (qzc rb [.slice s.a s.len s.cap,.int .i64 (at':Int)] :: qcc 1 s (u8s (byt V N)) :: ps):=by
 obtain ⟨s,h⟩:=h.exE
 have h:=h.split
 have hl:=h.at1.len
 rw [qhh,qug] at hl
 exact ⟨s,by omega,h⟩
theorem rrA_i {rb V N at':Nat} {s:Sl} (h:St F0 w0 w (qzc rb [.slice s.a s.len s.cap,.int .i64 (at':Int)] :: qcc 1 s (u8s (byt V N)) :: ps)):St F0 w0 w (rrA rb V N at' :: ps) :=
 h.join.exI (p:=fun s:Sl=>andA (qzc rb [.slice s.a s.len s.cap,.int .i64 (at':Int)]) (qcc 1 s (u8s (byt V N)))) s
theorem qjh.c {V N:Nat} {s:Sl} {K:Ending→World→Prop} (h:St F0 w0 w ps) (hr:Rd w 1 s (u8s (byt V N))) (hN:N≤137438953472)
 (hk:∀ rb w',St F0 w0 w' (rrA rb V N 0 :: ps)→K (.returned (.pointer (some ⟨rb,0,none⟩))) w'):Calls Tryz.prog 267 ⟨[.slice s.a s.len s.cap]⟩ w K:=by
 refine qfc (qjh.ok _ _ _ ?_)
 unfold qjh
 refine qid.c h hr (by rw [qug]; omega) fun s' w h=>⟨s',rfl,?_⟩
 refine h.new fun nb w h=>?_
 exact hk nb w (rrA_i h)
theorem qhg.c {rb V N at':Nat} {K:Ending→World→Prop} (h:St F0 w0 w (rrA rb V N at' :: ps)) (hN:N≤137438953472) (ha:at'≤8 * N+8)
 (hk:∀ w',St F0 w0 w' (rrA rb V N at' :: ps)→K (.returned (.int .i64 (8 * (N:Int) - at'))) w'):Calls Tryz.prog 338 ⟨[.pointer (some ⟨rb,0,none⟩)]⟩ w K:=by
 refine qfc (qhg.ok _ _ _ ?_)
 unfold qhg
 refine h.drewK fun w h=>?_
 obtain ⟨s,hs,h⟩:=rrA_o h
 refine qtd (h.blk.ldL (o:=0) rfl ?_)
 refine qn (qd (by omega) (by omega)) ?_
 refine qtd (h.blk.ldI (o:=1) rfl ?_)
 refine qn (qd (by omega) (by omega)) ?_
 rw [hs]
 rw [hs] at h
 exact hk w (rrA_i (by rw [hs]; exact h))
theorem qxe.c {rb V N at':Nat} {K:Ending→World→Prop} (h:St F0 w0 w (rrA rb V N at' :: ps)) (ha:at'≤1099511627784)
 (hk:St F0 w0 w (rrA rb V N at' :: ps)→K (.returned (.int .i64 ((at'+7) / 8:Nat))) w):Calls Tryz.prog 269 ⟨[.pointer (some ⟨rb,0,none⟩)]⟩ w K:=by
 refine qfc (qxe.ok _ _ _ ?_)
 unfold qxe
 obtain ⟨s,hs,h⟩:=rrA_o h
 refine qtd (h.blk.ldI (o:=1) rfl ?_)
 refine qn (qd (by omega) (by omega)) ?_
 refine ⟨by decide,?_⟩
 rw [qar (by omega)]
 refine qn (qd (by omega) (by omega)) ?_
 have e:((at':Int)+7) / 8=((at'+7) / 8:Nat):=by omega
 rw [e]
 exact hk (rrA_i h)
theorem qxf.c {rb V N at':Nat} {K:Ending→World→Prop} (h:St F0 w0 w (rrA rb V N at' :: ps)) (ha:at'≤1099511627784)
 (hk:∀ w',St F0 w0 w' (rrA rb V N (8 * ((at'+7) / 8)) :: ps)→K (.returned (.tuple ⟨[]⟩)) w'):Calls Tryz.prog 322 ⟨[.pointer (some ⟨rb,0,none⟩)]⟩ w K:=by
 refine qfc (qxf.ok _ _ _ ?_)
 unfold qxf
 refine qxe.c h ha fun h=>⟨_,rfl,?_⟩
 refine qn (qd (by omega) (by omega)) ?_
 obtain ⟨s,hs,h⟩:=rrA_o h
 refine qtd (h.st (o:=1) (by simp) trivial fun w h=>?_)
 have e:(8:Int) * ((at'+7) / 8:Nat)=(8 * ((at'+7) / 8):Nat):=by omega
 rw [e] at h
 exact hk w (rrA_i h)
theorem qqb.loop {rb V N at' n:Nat} {Q:VWP} (h:St F0 w0 w (rrA rb V N at' :: ps)) (hN:N≤137438953472) (hn:n≤24) (ha:at'+n≤8 * N)
 (hq:∀ w',St F0 w0 w' (rrA rb V N (at'+n) :: ps)→Q (.tuple ⟨[.int .i64 (V / 2 ^ at' % 2 ^ n:Nat),.bool true]⟩) w'):qqb.l1 (some ⟨rb,0,none⟩) n 0 0 Q w:=by
 refine qkg (fun (i:Nat) (v i':Int) w=>i'=i∧i≤n∧v=(V / 2 ^ at' % 2 ^ i:Nat)∧St F0 w0 w (rrA rb V N (at'+i) :: ps)) (fun i=>n - i) 0 ⟨rfl,by omega,by simp [Nat.mod_one],h⟩ ?_
 clear h
 rintro i v i' w I μ ⟨rfl,hi,rfl,h⟩ hin
 unfold qqb.b1
 refine qnc (fun h1=>?_) (fun h1=>?_)
 · obtain ⟨s,hs,h⟩:=rrA_o h
   refine qtd (h.blk.ldI (o:=1) rfl ?_)
   refine ⟨by decide,?_⟩
   refine qn (qvn (by omega)) ?_
   refine qn (qd (by omega) (by omega)) ?_
   refine qn (qd (by omega) (by omega)) ?_
   obtain ⟨k,hk,hk8,hkn,hk0⟩:∃ k:Nat,(if (n:Int) - i < 8 - ((at'+i:Nat):Int) % 8 then (n:Int) - i else 8 - ((at'+i:Nat):Int) % 8)=(k:Int)∧(at'+i) % 8+k≤8∧i+k≤n∧0 < k:=by
    split
    · exact ⟨n - i,by omega,by omega,by omega,by omega⟩
    · exact ⟨8 - (at'+i) % 8,by omega,by omega,by omega,by omega⟩
   refine qn hk ?_
   refine h.drewK fun w h=>?_
   refine qtd (h.blk.ldL (o:=0) rfl ?_)
   refine qtd (h.blk.ldI (o:=1) rfl ?_)
   refine ⟨by decide,?_⟩
   rw [qar (by omega)]
   refine qn (qd (by omega) (by omega)) ?_
   have hr:=h.at1.ord
   have hlt:(at'+i) / 8 < N:=by omega
   refine hr.ix (by decide) (by omega) (by omega) fun a ha=>?_
   have ei:(((at'+i:Nat):Int) / 8).toNat * 1=(at'+i) / 8:=by omega
   rw [ei]
   refine hr.ldI ha (byt_get hlt) ?_
   have hbyte:V / 2 ^ (8 * ((at'+i) / 8)) % 256 < 256:=Nat.mod_lt _ (by decide)
   refine qn (qd (by omega) (by omega)) ?_
   refine qtd (h.blk.ldI (o:=1) rfl ?_)
   refine ⟨by decide,?_⟩
   refine qn (qvn (by omega)) ?_
   refine ⟨by omega,?_⟩
   have em:((at'+i:Nat):Int) % 8=((at'+i) % 8:Nat):=by omega
   rw [em]
   refine qn (qti .i64 _ (t:=(at'+i) % 8) (by show _≤64; omega)) ?_
   refine ⟨by omega,?_⟩
   have hk24:k≤24:=by omega
   have hpk:(2:Nat) ^ k≤2 ^ 24:=Nat.pow_le_pow_right (by decide) hk24
   have ep:((2 ^ k:Nat):Int)=2 ^ k:=by simp
   have hp0:(0:Int) < 2 ^ k:=Int.pow_pos (by decide)
   refine qn (qfi .i64 (show k≤64 by omega) (by omega) (by show (1:Int) * 2 ^ k < 2 ^ 63; omega)) ?_
   rw [Int.one_mul]
   refine qn (qd (by omega) (by omega)) ?_
   refine qn (qtj .i64 _ (show k < 64 by omega)) ?_
   have eb:((V / 2 ^ (8 * ((at'+i) / 8)) % 256:Nat):Int) / 2 ^ ((at'+i) % 8) % 2 ^ k=((V / 2 ^ (at'+i) % 2 ^ k:Nat):Int):=by
    rw [← get_bits V (at'+i) k hk8]
    simp
   rw [eb]
   refine ⟨by omega,?_⟩
   have hx:V / 2 ^ (at'+i) % 2 ^ k < 2 ^ k:=Nat.mod_lt _ (Nat.pow_pos (by decide))
   have hy:V / 2 ^ at' % 2 ^ i < 2 ^ i:=Nat.mod_lt _ (Nat.pow_pos (by decide))
   have hpi:(2:Nat) ^ i≤2 ^ 24:=Nat.pow_le_pow_right (by decide) (by omega)
   have hm:V / 2 ^ (at'+i) % 2 ^ k * 2 ^ i≤2 ^ 24 * 2 ^ 24:=Nat.mul_le_mul (by omega) hpi
   have ex:((V / 2 ^ (at'+i) % 2 ^ k * 2 ^ i:Nat):Int)=((V / 2 ^ (at'+i) % 2 ^ k:Nat):Int) * 2 ^ i:=by simp
   refine qn (qfi .i64 (show i≤64 by omega) (by omega) (by rw [← ex]; show _ < 2 ^ 63; omega)) ?_
   refine qn (qgp .i64 hy (by show _ < 2 ^ 63; omega)) ?_
   have es:((V / 2 ^ at' % 2 ^ i:Nat):Int)+((V / 2 ^ (at'+i) % 2 ^ k:Nat):Int) * 2 ^ i=((V / 2 ^ at' % 2 ^ (i+k):Nat):Int):=by
    rw [← ex,← Int.natCast_add,get_step]
   refine qn (qd (by omega) (by omega)) ?_
   refine qtd (h.blk.ldI (o:=1) rfl ?_)
   refine qn (qd (by omega) (by omega)) ?_
   refine qtd (h.st (o:=1) (by simp) trivial fun w h=>?_)
   refine ⟨⟨rfl,rfl⟩,hin (i+k) _ _ _ ⟨by simp,hkn,es,?_⟩ (by omega)⟩
   have e:((at'+i:Nat):Int)+k=((at'+(i+k):Nat):Int):=by omega
   rw [e] at h
   exact rrA_i h
 · have:i=n:=by omega
   subst this
   exact hq w h
theorem qqb.c {rb V N at':Nat} {n:Int} {K:Ending→World→Prop} (h:St F0 w0 w (rrA rb V N at' :: ps)) (hN:N≤137438953472) (ha:at'≤8 * N+8)
 (hk:getOk N at' n=true→∀ w',St F0 w0 w' (rrA rb V N (at'+n.toNat) :: ps)→K (.returned (.tuple ⟨[.int .i64 (V / 2 ^ at' % 2 ^ n.toNat:Nat),.bool true]⟩)) w')
 (hk':getOk N at' n=false→∀ w',St F0 w0 w' (rrA rb V N at' :: ps)→K (.returned (.tuple ⟨[.int .i64 0,.bool false]⟩)) w') :
 Calls Tryz.prog 321 ⟨[.pointer (some ⟨rb,0,none⟩),.int .i64 n]⟩ w K:=by
 refine qfc (qqb.ok _ _ _ _ ?_)
 unfold qqb qqb.j1
 refine qnc (fun h1=>?_) (fun h1=>?_)
 · exact hk' (by simp [getOk]; omega) w h
 refine qnc (fun h2=>?_) (fun h2=>?_)
 · exact hk' (by simp [getOk]; omega) w h
 refine qhg.c h hN ha fun w h=>⟨_,rfl,?_⟩
 refine qnc (fun h3=>?_) (fun h3=>?_)
 · exact hk' (by simp [getOk]; omega) w h
 obtain ⟨t,rfl⟩:∃ t:Nat,n=t:=⟨n.toNat,by omega⟩
 exact qqb.loop h hN (by omega) (by omega) (hk (by simp [getOk]; omega))
end
end Go.Proofs.YtejnemneenjliaaGreat
namespace Go.Proofs.YtejnemneenjliaaGreat
open Go Go.Proofs
set_option linter.unusedVariables false
set_option linter.unusedSimpArgs false
attribute [local irreducible] apK cpK mkK
def u8 (xs:List Int):List UInt8:=xs.map fun x=>UInt8.ofNat x.toNat
theorem byt_ok (V N:Nat):∀ x ∈ byt V N,0≤x∧x < 256:=by
 intro x hx
 obtain ⟨i,_,rfl⟩:=List.mem_map.1 hx
 omega
theorem Rd.btS {w:World} {s:Sl} {xs:List Int} {K:ByteArray→Prop} (h:Rd w 1 s (u8s xs)) (hx:∀ x ∈ xs,0≤x∧x < 256) (hk:K ⟨⟨u8 xs⟩⟩):btS w s.a s.len K:=by
 have hl:=h.1
 rw [qhh,Nat.mul_one] at hl
 unfold Go.Proofs.YtejnemneenjliaaGreat.btS
 cases e:s.a with
 | none =>
   cases xs with
   | nil=>exact hk
   | cons x xs =>
     obtain ⟨a,ha,_⟩:=h.2 0 (by simp [u8s])
     rw [e] at ha; cases ha
 | some a =>
   refine ⟨u8 xs,by simp [u8,hl],fun j hj=>?_,hk⟩
   rw [h.cell e (by rw [qhh]; omega)]
   have hj':j < xs.length:=by omega
   simp only [u8s,u8,List.getElem?_map,List.getElem?_eq_getElem hj',Option.map_some]
   have:=hx _ (List.getElem_mem hj')
   congr 2
   rw [UInt8.toNat_ofNat']
   omega
theorem qqt (v:Int) (a b:Nat):qi v (a+b)=qi v a ++ qi (v / 2 ^ a) b:=by
 unfold qi
 rw [List.range_add,List.map_append,List.map_map]
 congr 1
 apply List.map_congr_left
 intro i _
 simp only [Function.comp,bt]
 congr 2
 have h:(0:Int)≤2 ^ a:=Int.le_of_lt (Int.pow_pos (by decide))
 rw [Int.pow_add,Int.ediv_ediv_of_nonneg h]
section
variable {F0:List Nat} {w0 w:World} {ps:List As}
end
end Go.Proofs.YtejnemneenjliaaGreat
namespace Go.Proofs.YtejnemneenjliaaGreat
open Go Go.Proofs
set_option linter.unusedVariables false
set_option maxRecDepth 100000
def qke (r_0:OAd) (Q:VWP) (w:World):Prop :=
 nz r_0 fun a1 =>
 ldI .i64 w (Addr.add a1 1) fun x2 =>
 lt (IntKind.i64.wrap (x2+7)) fun x3 =>
 (8:Int) ≠ 0 ∧
 lt (IntKind.i64.wrap (Int.tdiv x3 8)) fun x4 =>
 lt (IntKind.i64.wrap (x4 * 8)) fun x5 =>
 nz r_0 fun a6 =>
 st w (Addr.add a6 1) (.int .i64 x5) fun w7 =>
 Q (.tuple ⟨[]⟩) w7
theorem qke.ok (r_0:OAd) (Q:VWP) (w:World) (h:qke r_0 Q w):Calls Tryz.prog 308 ⟨[.pointer r_0]⟩ w (Ret Q) :=
 qqc [] qbe Tryz.func308 rfl rfl rfl rfl .lf (by kernel_rfl) h
def qw.j3 (r_0:OAd) (n_1:Int) (v_6:Int) (Q:VWP) (w:World):Prop :=
 nz r_0 fun a1 =>
 ldI .i64 w (Addr.add a1 1) fun x2 =>
 lt (IntKind.i64.wrap (x2+n_1)) fun x3 =>
 nz r_0 fun a4 =>
 st w (Addr.add a4 1) (.int .i64 x3) fun w5 =>
 Q (.tuple ⟨[.int .i64 v_6,.bool true]⟩) w5
def qw.b1 (r_0:OAd) (n_1:Int) (v_6 i_7:Int) (Q:VWP) (nx1:OAd→Int→Int→Int→WP) (w:World):Prop :=
 br (decide (i_7 < n_1)) (
 nz r_0 fun a6 =>
 ldI .i64 w (Addr.add a6 1) fun x7 =>
 lt (IntKind.i64.wrap (x7+i_7)) fun x8 =>
 nz r_0 fun a9 =>
 ldL w (Addr.add a9 0) fun x10 =>
 (8:Int) ≠ 0 ∧
 lt (IntKind.i64.wrap (Int.tdiv x8 8)) fun x11 =>
 ixS x10.a x10.len x11 1 fun a12 =>
 ldI .u8 w a12 fun x13 =>
 (8:Int) ≠ 0 ∧
 lt (Int.tmod x8 8) fun x14 =>
 lt (IntKind.u64.wrap x14) fun x15 =>
 (0:Int)≤x15 ∧
 lt (qbj .u8 x13 x15) fun x16 =>
 lt (qli .u8 x16 1) fun x17 =>
 lt (IntKind.i64.wrap x17) fun x18 =>
 lt (IntKind.u64.wrap i_7) fun x19 =>
 (0:Int)≤x19 ∧
 lt (qqi .i64 x18 x19) fun x20 =>
 lt (orV .i64 v_6 x20) fun x21 =>
 lt (IntKind.i64.wrap (i_7+1)) fun x22 =>
 nx1 r_0 n_1 x21 x22 w) (
 qw.j3 r_0 n_1 v_6 Q w)
def qw.l1 (r_0:OAd) (n_1:Int) (v_6 i_7:Int) (Q:VWP) (w:World):Prop :=
 ∃ (I:Int→Int→WP) (μ:Int→Int→World→Nat),I v_6 i_7 w∧∀ v_6:Int,∀ i_7:Int,∀ w:World,I v_6 i_7 w→qw.b1 r_0 n_1 v_6 i_7 Q (fun r_0' n_1' v_6' i_7' w'=>(r_0'=r_0∧n_1'=n_1)∧I v_6' i_7' w'∧μ v_6' i_7' w' < μ v_6 i_7 w) w
def qw.j4 (r_0:OAd) (n_1:Int) (v_6 i_7:Int) (Q:VWP) (w:World):Prop :=
 qw.l1 r_0 n_1 v_6 i_7 Q w
def qw.j2 (r_0:OAd) (n_1:Int) (v_6:Int) (Q:VWP) (w:World):Prop :=
 qw.j4 r_0 n_1 v_6 0 Q w
def qw.j1 (r_0:OAd) (n_1:Int) (Q:VWP) (w:World):Prop :=
 br (decide (n_1 < 0)) (
 Q (.tuple ⟨[.int .i64 0,.bool false]⟩) w) (
 br (decide (n_1 > 24)) (
 Q (.tuple ⟨[.int .i64 0,.bool false]⟩) w) (
 qxi 331 [.pointer r_0] w fun r25 w24 =>
 br (decide (n_1 > r25)) (
 Q (.tuple ⟨[.int .i64 0,.bool false]⟩) w24) (
 qw.j2 r_0 n_1 0 Q w24)))
def qw (r_0:OAd) (n_1:Int) (Q:VWP) (w:World):Prop :=
 qw.j1 r_0 n_1 Q w
theorem qw.ok (r_0:OAd) (n_1:Int) (Q:VWP) (w:World) (h:qw r_0 n_1 Q w):Calls Tryz.prog 307 ⟨[.pointer r_0,.int .i64 n_1]⟩ w (Ret Q) :=
 qqc [.tmp 4,.tmp 5] qbe Tryz.func307 rfl rfl rfl rfl (.sq [sP 0,sI 1] (fun a b w=>qw.j1 a b Q w) .lf (.pr 1 [sP 0,sI 1,sI 6] (fun a b c w=>qw.j2 a b c Q w) (.sq [sP 0,sI 1,sI 6] (fun a b c w=>qw.j3 a b c Q w) (.sq [sP 0,sI 1,sI 6,sI 7] (fun a b c d w=>qw.j4 a b c d Q w) .lf (.bk (.lo [sP 0,sI 1] [sI 6,sI 7] (fun a b c d w=>qw.l1 a b c d Q w) (fun nx1 a b c d w=>qw.b1 a b c d Q nx1 w) fun nx1=>.lf))) .lf))) (by kernel_rfl) h
def qoe (r_0:OAd) (Q:VWP) (w:World):Prop :=
 lt (World.drew w) fun w1 =>
 nz r_0 fun a2 =>
 ldL w1 (Addr.add a2 0) fun x3 =>
 lt (IntKind.i64.wrap (8 * (x3.len:Int))) fun x4 =>
 nz r_0 fun a5 =>
 ldI .i64 w1 (Addr.add a5 1) fun x6 =>
 lt (IntKind.i64.wrap (x4 - x6)) fun x7 =>
 Q (.int .i64 x7) w1
theorem qoe.ok (r_0:OAd) (Q:VWP) (w:World) (h:qoe r_0 Q w):Calls Tryz.prog 331 ⟨[.pointer r_0]⟩ w (Ret Q) :=
 qqc [.tmp 2] qbe Tryz.func331 rfl rfl rfl rfl .lf (by kernel_rfl) h
def qae (r_0:OAd) (Q:VWP) (w:World):Prop :=
 nz r_0 fun a1 =>
 ldI .i64 w (Addr.add a1 1) fun x2 =>
 lt (IntKind.i64.wrap (x2+7)) fun x3 =>
 (8:Int) ≠ 0 ∧
 lt (IntKind.i64.wrap (Int.tdiv x3 8)) fun x4 =>
 Q (.int .i64 x4) w
theorem qae.ok (r_0:OAd) (Q:VWP) (w:World) (h:qae r_0 Q w):Calls Tryz.prog 235 ⟨[.pointer r_0]⟩ w (Ret Q) :=
 qqc [.tmp 2] qbe Tryz.func235 rfl rfl rfl rfl .lf (by kernel_rfl) h
end Go.Proofs.YtejnemneenjliaaGreat
namespace Go.Proofs.YtejnemneenjliaaGreat
open Go Go.Proofs
set_option linter.unusedVariables false
set_option linter.unusedSimpArgs false
attribute [local irreducible] apK cpK mkK
theorem wf_u8 {n:Int} (h:(Lit.int .u8 n).wf=true):0≤n∧n < 256:=by
 have h:IntKind.u8.min≤n∧n≤IntKind.u8.max:=by simpa [Lit.wf] using h
 have h1:IntKind.u8.min=0:=rfl
 have h2:IntKind.u8.max=255:=rfl
 omega
theorem wf_i64 {n:Int} (h:(Lit.int .i64 n).wf=true) : -9223372036854775808≤n∧n < 9223372036854775808:=by
 have h:IntKind.i64.min≤n∧n≤IntKind.i64.max:=by simpa [Lit.wf] using h
 have h1:IntKind.i64.min = -9223372036854775808:=rfl
 have h2:IntKind.i64.max=9223372036854775807:=rfl
 omega
theorem byt_ex:∀ (xs:List Int),(∀ x ∈ xs,0≤x∧x < 256)→∃ V,xs=byt V xs.length
 | [],_=>⟨0,rfl⟩
 | x :: xs,h=>by
   obtain ⟨V,hV⟩:=byt_ex xs (fun y hy=>h y (by simp [hy]))
   refine ⟨x.toNat+256 * V,?_⟩
   have hx:=h x (by simp)
   unfold byt at hV ⊢
   rw [List.length_cons,List.range_succ_eq_map,List.map_cons,List.map_map]
   congr 1
   · simp; omega
   · refine hV.trans ?_
     apply List.map_congr_left
     intro i _
     simp only [Function.comp]
     congr 1
     rw [show 8 * i.succ=8+8 * i by omega,Nat.pow_add,← Nat.div_div_eq_div_mul]
     congr 2
     have:(x.toNat+256 * V) / 2 ^ 8=V:=by omega
     rw [this]
section
variable {F0:List Nat} {w0 w:World} {ps:List As}
def rfA (rb:Nat) (s:Sl) (at':Nat):As:=qzc rb [.slice s.a s.len s.cap,.int .i64 (at':Int)]
theorem qoe.c {rb at':Nat} {s:Sl} {K:Ending→World→Prop} (h:St F0 w0 w (rfA rb s at' :: ps)) (hN:s.len≤137438953472) (ha:at'≤8 * s.len+8)
 (hk:∀ w',St F0 w0 w' (rfA rb s at' :: ps)→K (.returned (.int .i64 (8 * (s.len:Int) - at'))) w'):Calls Tryz.prog 331 ⟨[.pointer (some ⟨rb,0,none⟩)]⟩ w K:=by
 refine qfc (qoe.ok _ _ _ ?_)
 unfold qoe
 refine h.drewK fun w h=>?_
 refine qtd (h.blk.ldL (o:=0) rfl ?_)
 refine qn (qd (by omega) (by omega)) ?_
 refine qtd (h.blk.ldI (o:=1) rfl ?_)
 refine qn (qd (by omega) (by omega)) ?_
 exact hk w h
theorem qae.c {rb at':Nat} {s:Sl} {K:Ending→World→Prop} (h:St F0 w0 w (rfA rb s at' :: ps)) (ha:at'≤1099511627784)
 (hk:K (.returned (.int .i64 ((at'+7) / 8:Nat))) w):Calls Tryz.prog 235 ⟨[.pointer (some ⟨rb,0,none⟩)]⟩ w K:=by
 refine qfc (qae.ok _ _ _ ?_)
 unfold qae
 refine qtd (h.blk.ldI (o:=1) rfl ?_)
 refine qn (qd (by omega) (by omega)) ?_
 refine ⟨by decide,?_⟩
 rw [qar (by omega)]
 refine qn (qd (by omega) (by omega)) ?_
 have e:((at':Int)+7) / 8=((at'+7) / 8:Nat):=by omega
 rw [e]
 exact hk
theorem qke.c {rb at':Nat} {s:Sl} {K:Ending→World→Prop} (h:St F0 w0 w (rfA rb s at' :: ps)) (ha:at'≤1099511627784)
 (hk:∀ w',St F0 w0 w' (rfA rb s (8 * ((at'+7) / 8)) :: ps)→K (.returned (.tuple ⟨[]⟩)) w'):Calls Tryz.prog 308 ⟨[.pointer (some ⟨rb,0,none⟩)]⟩ w K:=by
 refine qfc (qke.ok _ _ _ ?_)
 unfold qke
 refine qtd (h.blk.ldI (o:=1) rfl ?_)
 refine qn (qd (by omega) (by omega)) ?_
 refine ⟨by decide,?_⟩
 rw [qar (by omega)]
 refine qn (qd (by omega) (by omega)) ?_
 refine qn (qd (by omega) (by omega)) ?_
 refine qtd (h.st (o:=1) (by simp) trivial fun w h=>?_)
 have e:((at':Int)+7) / 8 * 8=(8 * ((at'+7) / 8):Nat):=by omega
 rw [e] at h
 exact hk w h
theorem qw.loop {rb V N at' n:Nat} {s:Sl} {Q:VWP} (h:St F0 w0 w (rfA rb s at' :: ps)) (hr:∀ w',St F0 w0 w' (rfA rb s at' :: ps)→Rd w' 1 s (u8s (byt V N))) (hN:N≤137438953472) (hn:n≤24) (ha:at'+n≤8 * N)
 (hq:∀ w',St F0 w0 w' (rfA rb s (at'+n) :: ps)→Q (.tuple ⟨[.int .i64 (V / 2 ^ at' % 2 ^ n:Nat),.bool true]⟩) w'):qw.l1 (some ⟨rb,0,none⟩) n 0 0 Q w:=by
 refine qkg (fun (i:Nat) (v i':Int) w=>i'=i∧i≤n∧v=(V / 2 ^ at' % 2 ^ i:Nat)∧St F0 w0 w (rfA rb s at' :: ps)) (fun i=>n - i) 0 ⟨rfl,by omega,by simp [Nat.mod_one],h⟩ ?_
 clear h
 rintro i v i' w I μ ⟨rfl,hi,rfl,h⟩ hin
 have hr:=hr w h
 have hs:=hr.1
 rw [qhh,qug] at hs
 unfold qw.b1
 refine qnc (fun h1=>?_) (fun h1=>?_)
 · refine qtd (h.blk.ldI (o:=1) rfl ?_)
   refine qn (qd (by omega) (by omega)) ?_
   refine qtd (h.blk.ldL (o:=0) rfl ?_)
   refine ⟨by decide,?_⟩
   rw [qar (by omega)]
   refine qn (qd (by omega) (by omega)) ?_
   have hlt:(at'+i) / 8 < N:=by omega
   refine hr.ix (by decide) (by omega) (by omega) fun a ha=>?_
   have ei:(((at':Int)+i) / 8).toNat * 1=(at'+i) / 8:=by omega
   rw [ei]
   refine hr.ldI ha (byt_get hlt) ?_
   have hbyte:V / 2 ^ (8 * ((at'+i) / 8)) % 256 < 256:=Nat.mod_lt _ (by decide)
   refine ⟨by decide,?_⟩
   refine qn (qvn (by omega)) ?_
   have em:((at':Int)+i) % 8=((at'+i) % 8:Nat):=by omega
   rw [em]
   refine qn (show IntKind.u64.wrap (((at'+i) % 8:Nat):Int)=((at'+i) % 8:Nat) by rw [qll]; omega) ?_
   refine ⟨by omega,?_⟩
   refine qn (qti .u8 _ (t:=(at'+i) % 8) (by show _≤8; omega)) ?_
   refine qn (andV_one .u8 _) ?_
   have eb:((V / 2 ^ (8 * ((at'+i) / 8)) % 256:Nat):Int) / 2 ^ ((at'+i) % 8) % 2=((V / 2 ^ (at'+i) % 2:Nat):Int):=by
    have:=get_bits V (at'+i) 1 (by omega)
    rw [Nat.pow_one] at this
    rw [← this]
    simp
   rw [eb]
   have hx:V / 2 ^ (at'+i) % 2 < 2:=Nat.mod_lt _ (by decide)
   refine qn (qd (by omega) (by omega)) ?_
   refine qn (show IntKind.u64.wrap (i:Int)=i by rw [qll]; omega) ?_
   refine ⟨by omega,?_⟩
   have hy:V / 2 ^ at' % 2 ^ i < 2 ^ i:=Nat.mod_lt _ (Nat.pow_pos (by decide))
   have hpi:(2:Nat) ^ i≤2 ^ 24:=Nat.pow_le_pow_right (by decide) (by omega)
   have hm:V / 2 ^ (at'+i) % 2 * 2 ^ i≤2 * 2 ^ 24:=Nat.mul_le_mul (by omega) hpi
   have ex:((V / 2 ^ (at'+i) % 2 * 2 ^ i:Nat):Int)=((V / 2 ^ (at'+i) % 2:Nat):Int) * 2 ^ i:=by simp
   refine qn (qfi .i64 (show i≤64 by omega) (by omega) (by rw [← ex]; show _ < 2 ^ 63; omega)) ?_
   refine qn (qgp .i64 hy (by show _ < 2 ^ 63; omega)) ?_
   have es:((V / 2 ^ at' % 2 ^ i:Nat):Int)+((V / 2 ^ (at'+i) % 2:Nat):Int) * 2 ^ i=((V / 2 ^ at' % 2 ^ (i+1):Nat):Int):=by
    have:=get_step V at' i 1
    rw [Nat.pow_one] at this
    rw [← ex,← Int.natCast_add,this]
   refine qn (qd (by omega) (by omega)) ?_
   exact ⟨⟨rfl,rfl⟩,hin (i+1) _ _ _ ⟨by simp,by omega,es,h⟩ (by omega)⟩
 · have:i=n:=by omega
   subst this
   unfold qw.j3
   refine qtd (h.blk.ldI (o:=1) rfl ?_)
   refine qn (qd (by omega) (by omega)) ?_
   refine qtd (h.st (o:=1) (by simp) trivial fun w h=>?_)
   have e:(at':Int)+i=((at'+i:Nat):Int):=by omega
   rw [e] at h
   exact hq w h
theorem qw.c {rb V N at':Nat} {s:Sl} {n:Int} {K:Ending→World→Prop} (h:St F0 w0 w (rfA rb s at' :: ps)) (hr:∀ w',St F0 w0 w' (rfA rb s at' :: ps)→Rd w' 1 s (u8s (byt V N))) (hN:N≤137438953472) (ha:at'≤8 * N)
 (hk:getOk N at' n=true→∀ w',St F0 w0 w' (rfA rb s (at'+n.toNat) :: ps)→K (.returned (.tuple ⟨[.int .i64 (V / 2 ^ at' % 2 ^ n.toNat:Nat),.bool true]⟩)) w')
 (hk':getOk N at' n=false→∀ w',St F0 w0 w' (rfA rb s at' :: ps)→K (.returned (.tuple ⟨[.int .i64 0,.bool false]⟩)) w') :
 Calls Tryz.prog 307 ⟨[.pointer (some ⟨rb,0,none⟩),.int .i64 n]⟩ w K:=by
 have hs:=(hr w h).1
 rw [qhh,qug] at hs
 refine qfc (qw.ok _ _ _ _ ?_)
 unfold qw qw.j1
 refine qnc (fun h1=>?_) (fun h1=>?_)
 · exact hk' (by simp [getOk]; omega) w h
 refine qnc (fun h2=>?_) (fun h2=>?_)
 · exact hk' (by simp [getOk]; omega) w h
 refine qoe.c h (by omega) (by omega) fun w h=>⟨_,rfl,?_⟩
 refine qnc (fun h3=>?_) (fun h3=>?_)
 · exact hk' (by simp [getOk]; omega) w h
 obtain ⟨t,rfl⟩:∃ t:Nat,n=t:=⟨n.toNat,by omega⟩
 exact qw.loop h hr hN (by omega) (by omega) (hk (by simp [getOk]; omega))
end
end Go.Proofs.YtejnemneenjliaaGreat
namespace Go.Proofs.YtejnemneenjliaaGreat
open Go Go.Proofs
set_option linter.unusedVariables false
set_option linter.unusedSimpArgs false
attribute [local irreducible] apK cpK mkK
theorem wrap_uns {k:IntKind} (hk:k.signed=false) (x:Int):k.wrap x=x % 2 ^ k.bits:=by
 simp [IntKind.wrap,hk]
theorem wrap_unat {k:IntKind} (hk:k.signed=false) {n:Nat} (h:n < 2 ^ k.bits):k.wrap (n:Int)=n:=by
 rw [wrap_uns hk]
 exact Int.emod_eq_of_lt (by omega) (by exact_mod_cast h)
theorem orV_unat {k:IntKind} (hk:k.signed=false) {a b:Nat} (ha:a < 2 ^ k.bits) (hb:b < 2 ^ k.bits):orV k (a:Int) (b:Int)=((a ||| b:Nat):Int):=by
 unfold orV
 rw [BitVec.toNat_or,qpi _ _ ha,qpi _ _ hb]
 exact wrap_unat hk (Nat.or_lt_two_pow ha hb)
theorem orV_uadd {k:IntKind} (hk:k.signed=false) {a b:Nat} {t:Nat} (ha:a < 2 ^ t) (hs:a+b * 2 ^ t < 2 ^ k.bits):orV k (a:Int) ((b:Int) * 2 ^ t)=(a:Int)+(b:Int) * 2 ^ t:=by
 have e:(b:Int) * 2 ^ t=((b * 2 ^ t:Nat):Int):=by simp
 rw [e,orV_unat hk (by omega) (by omega),Nat.or_comm]
 have:=Nat.two_pow_add_eq_or_of_lt ha b
 rw [Nat.mul_comm b,← this]
 simp
 omega
theorem shlV_u {k:IntKind} (hk:k.signed=false) {x:Nat} {t:Nat} (ht:t≤k.bits) (hs:x * 2 ^ t < 2 ^ k.bits):qqi k (x:Int) (t:Int)=(x:Int) * 2 ^ t:=by
 unfold qqi
 rw [Int.toNat_natCast,Nat.min_eq_left ht]
 have e:(x:Int) * 2 ^ t=((x * 2 ^ t:Nat):Int):=by simp
 rw [e,wrap_unat hk hs]
section
variable {F0:List Nat} {w0 w:World} {ps:List As}
theorem St.append1 {P:Program} {e:TypeId} {i:TypeInfo} {z v:Value} {s:Sl} {cs:List Value} {c:Array Value} {K:Sl→World→Prop}
 (hi:P.info? e=some i) (hsz:i.size=1) (hz:zc P e=#[z]) (hb0:i.bytes ≠ 0) (hb:i.bytes≤16)
 (h:St F0 w0 w (qcc 1 s cs :: ps)) (hlen:cs.length≤1099511627776) (hc:c=⟨[v]⟩) (hv:storable v)
 (hk:∀ s' w',St F0 w0 w' (qcc 1 s' (cs ++ [v]) :: ps)→K s' w'):apK P e w s.a s.len s.cap 1 c K:=by
 subst hc
 have hl:=h.len
 refine St.append (i:=i) (sz:=1) (m:=1) hi hsz (by decide) (by rw [hz]; rfl) hb0 ?_ h (by rfl) (by simpa using hv) (fun s' w' h _=>hk s' w' h)
 refine Nat.le_trans (Nat.mul_le_mul_left _ hb) ?_
 have hl2:s.len≤1099511627776:=by omega
 clear hk h
 generalize s.len=n at hl2
 omega
theorem St.setO {sz:Nat} {s:Sl} {cs:List Value} {i:Nat} {v:Value} {a:Addr} {K:World→Prop} (h:St F0 w0 w (qcc sz s cs :: ps)) (ha:s.a=some a) (hi:i < cs.length) (hs:storable v)
 (hk:∀ w',St F0 w0 w' (qcc sz s (cs.set i v) :: ps)→K w'):Go.Proofs.YtejnemneenjliaaGreat.st w (a.add i) v K:=by
 obtain ⟨f,ho,hstep⟩:=h.step
 rcases ho with ⟨rfl,rfl,_⟩ | ⟨ob,rest,h1,hb,h2,h3,rfl⟩
 · simp at hi
 · rw [h1] at ha
   cases ha
   rw [qvf,Nat.zero_add]
   refine hb.st (by rw [List.length_append]; omega) hs fun w' hm hb'=>hk w' (hstep w' [ob] _ hm (Gr.refl _ _) (Or.inr ⟨ob,rest,h1,?_,by simpa using h2,by simpa using h3,rfl⟩))
   rw [List.set_append_left _ _ hi] at hb'
   exact hb'
theorem repL_one (n:Nat) (z:Value):qpl n [z]=List.replicate n z:=by
 induction n with
 | zero=>rfl
 | succ n ih=>rw [qpl,ih,List.replicate_succ]; rfl
theorem St.make1 {P:Program} {e:TypeId} {z:Value} {n:Nat} {l c:Int} {K:Sl→World→Prop} (hz:zc P e=#[z]) (hl:l=n) (hc:c=n) (hn:n≤1099511627776) (hb:P.bytesOf e≤16) (h:St F0 w0 w ps)
 (hk:∀ s w',s.len=n→s.cap=n→St F0 w0 w' (qcc 1 s (List.replicate n z) :: ps)→K s w'):mkK P e w l c K:=by
 subst hl hc
 unfold mkK
 refine ⟨⟨by omega,by omega,by omega,?_⟩,?_⟩
 · have:P.bytesOf e * n≤16 * n:=Nat.mul_le_mul_right _ hb
   have e2:((P.bytesOf e:Int) * (n:Int))=((P.bytesOf e * n:Nat):Int):=by simp
   rw [e2]
   have:((P.bytesOf e * n:Nat):Int)≤((16 * n:Nat):Int):=by exact_mod_cast this
   have h3:(2:Int) ^ 48=281474976710656:=by decide
   omega
 · refine hk ⟨newAt w,_,_⟩ _ (by simp) (by simp) ?_
   rw [hz]
   refine h.add (f':=[w.heap.size]) (Mod.alloc _ _) (Or.inr ⟨w.heap.size,[],rfl,?_,by simp,by simp,rfl⟩) (fun x hx=>Or.inr (by have:x=w.heap.size:=(by simpa using hx); omega))
   have:=Blk.new w (qpl ((n:Int)).toNat #[z].toList) e
   rw [List.append_nil]
   rw [Int.toNat_natCast] at this ⊢
   rw [show (#[z]:Array Value).toList=[z] from rfl,repL_one] at this ⊢
   exact this
end
section
variable {F0:List Nat} {w0 w:World} {ps:List As}
end
end Go.Proofs.YtejnemneenjliaaGreat
namespace Go.Proofs.YtejnemneenjliaaGreat
open Go Go.Proofs
set_option linter.unusedVariables false
set_option linter.unusedSimpArgs false
attribute [local irreducible] apK cpK mkK
class PkA (p:As) (ps:List As) (rest:outParam (List As)):Prop where
 pk:∀ {F0:List Nat} {w0 w:World},St F0 w0 w ps→St F0 w0 w (p :: rest)
instance PkA.tl {p q:As} {ps rest:List As} [i:PkA p ps rest]:PkA p (q :: ps) (q :: rest):=⟨fun h=>(h.tail fun _ _ _ h=>i.pk h).at1⟩
instance PkA.hd {p:As} {ps:List As}:PkA p (p :: ps) ps:=⟨id⟩
class PkB (b:Nat) (ps:List As) (l:outParam (List Value)) (rest:outParam (List As)):Prop where
 pk:∀ {F0:List Nat} {w0 w:World},St F0 w0 w ps→St F0 w0 w (qzc b l :: rest)
instance PkB.tl {b:Nat} {l:List Value} {q:As} {ps rest:List As} [i:PkB b ps l rest]:PkB b (q :: ps) l (q :: rest):=⟨fun h=>(h.tail fun _ _ _ h=>i.pk h).at1⟩
instance PkB.hd {b:Nat} {l:List Value} {ps:List As}:PkB b (qzc b l :: ps) l ps:=⟨id⟩
class PkO (s:Sl) (ps:List As) (sz:outParam Nat) (cs:outParam (List Value)) (rest:outParam (List As)):Prop where
 pk:∀ {F0:List Nat} {w0 w:World},St F0 w0 w ps→St F0 w0 w (qcc sz s cs :: rest)
instance PkO.tl {s:Sl} {sz:Nat} {cs:List Value} {q:As} {ps rest:List As} [i:PkO s ps sz cs rest]:PkO s (q :: ps) sz cs (q :: rest):=⟨fun h=>(h.tail fun _ _ _ h=>i.pk h).at1⟩
instance PkO.hd {s:Sl} {sz:Nat} {cs:List Value} {ps:List As}:PkO s (qcc sz s cs :: ps) sz cs ps:=⟨id⟩
class Sub (ps qs:List As):Prop where
 sub:∀ {F0:List Nat} {w0 w:World},St F0 w0 w ps→St F0 w0 w qs
instance (priority:=100) Sub.dr {q:As} {ps qs:List As} [i:Sub ps qs]:Sub (q :: ps) qs:=⟨fun h=>i.sub h.drop⟩
instance (priority:=500) Sub.cons {p:As} {ps rest qs:List As} [i:PkA p ps rest] [j:Sub rest qs]:Sub ps (p :: qs):=⟨fun h=>(i.pk h).tail fun _ _ _ h=>j.sub h⟩
instance (priority:=2000) Sub.refl {ps:List As}:Sub ps ps:=⟨id⟩
instance (priority:=3000) Sub.nil {ps:List As}:Sub ps []:=⟨fun h=>⟨h.1,[],rfl,fun x hx=>by cases hx⟩⟩
class Rdb (F0:List Nat) (w0:World) (s:Sl) (ps:List As) (sz:outParam Nat) (cs:outParam (List Value)):Prop where
 rd:∀ {w:World},St F0 w0 w ps→Rd w sz s cs
instance Rdb.tl {F0:List Nat} {w0:World} {s:Sl} {q:As} {ps:List As} {sz:Nat} {cs:List Value} [i:Rdb F0 w0 s ps sz cs]:Rdb F0 w0 s (q :: ps) sz cs:=⟨fun h=>i.rd h.drop⟩
instance Rdb.own {F0:List Nat} {w0:World} {s:Sl} {ps:List As} {sz:Nat} {cs:List Value}:Rdb F0 w0 s (qcc sz s cs :: ps) sz cs:=⟨fun h=>h.ord⟩
instance Rdb.rdo {F0:List Nat} {w0:World} {s:Sl} {ps:List As} {sz:Nat} {cs:List Value}:Rdb F0 w0 s (rdA sz s cs :: ps) sz cs:=⟨fun h=>h.rd⟩
theorem Rdb.nil {F0:List Nat} {w0:World} {ps:List As} (n:Nat):Rdb F0 w0 ⟨none,0,n⟩ ps 1 []:=⟨fun h=>⟨rfl,fun i hi=>by simp at hi⟩⟩
theorem Rdb.start {w0:World} {s:Sl} {ps:List As} {sz:Nat} {cs:List Value} (h:Rd w0 sz s cs):Rdb [] w0 s ps sz cs:=⟨fun k=>h.keep k.mod (by simp)⟩
theorem Rd.cut {w:World} {sz n m:Nat} {s:Sl} {cs:List Value} (h:Rd w sz s cs) (hsz:0 < sz) (hm:m≤s.len) (hn:n≤m) (hc:s.len≤s.cap) (c':Nat):Rd w sz ⟨qgf s.a s.cap n sz,m - n,c'⟩ ((cs.drop (n * sz)).take ((m - n) * sz)):=by
 have hl:=h.1
 have hms:m * sz≤s.len * sz:=Nat.mul_le_mul_right _ hm
 have hns:(m - n) * sz=m * sz - n * sz:=Nat.sub_mul _ _ _
 have hnm:n * sz≤m * sz:=Nat.mul_le_mul_right _ hn
 refine ⟨by rw [List.length_take,List.length_drop,hl]; show _=(m - n) * sz; omega,fun i hi=>?_⟩
 rw [List.length_take,List.length_drop,hl] at hi
 have hne:¬ s.cap=n:=by
  intro e
  have:m - n=0:=by omega
  rw [this] at hi
  simp at hi
 obtain ⟨a,ha,hcell⟩:=h.2 (n * sz+i) (by omega)
 refine ⟨a.add (n * sz),?_,?_⟩
 · show qgf s.a s.cap n sz=_
   unfold qgf
   rw [if_neg hne,ha]
   rfl
 · rw [qzm,hcell,List.getElem?_take,if_pos (by omega),List.getElem?_drop]
class GetL (l:List Value) (o:Nat) (v:outParam Value):Prop where
 get:l[o]?=some v
instance GetL.z {v:Value} {l:List Value}:GetL (v :: l) 0 v:=⟨rfl⟩
instance GetL.s {v u:Value} {l:List Value} {n:Nat} [i:GetL l n v]:GetL (u :: l) (n+1) v:=⟨by simpa using i.get⟩
class SetL (l:List Value) (o:Nat) (v:Value) (l':outParam (List Value)):Prop where
 set:l.set o v=l'
 lt:o < l.length
instance SetL.z {v u:Value} {l:List Value}:SetL (u :: l) 0 v (v :: l):=⟨rfl,by simp⟩
instance SetL.s {v u:Value} {l l':List Value} {n:Nat} [i:SetL l n v l']:SetL (u :: l) (n+1) v (u :: l'):=⟨by simp [i.set],by have:=i.lt; simp; omega⟩
section
variable {F0:List Nat} {w0 w:World} {ps qs rest:List As} {b o:Nat} {l l':List Value}
theorem St.sub [i:Sub ps qs] (h:St F0 w0 w ps):St F0 w0 w qs:=i.sub h
theorem St.toB (b:Nat) [i:PkB b ps l rest] (h:St F0 w0 w ps):St F0 w0 w (qzc b l :: rest):=i.pk h
theorem St.toO (s:Sl) {sz:Nat} {cs:List Value} [i:PkO s ps sz cs rest] (h:St F0 w0 w ps):St F0 w0 w (qcc sz s cs :: rest):=i.pk h
theorem St.rdb (s:Sl) {sz:Nat} {cs:List Value} [i:Rdb F0 w0 s ps sz cs] (h:St F0 w0 w ps):Rd w sz s cs:=i.rd h
theorem St.fI {k:IntKind} {n:Int} {K:Int→Prop} (h:St F0 w0 w ps) [PkB b ps l rest] [g:GetL l o (.int k n)] (hk:K n):ldI k w ⟨b,o,none⟩ K:=(h.toB b).blk.ldI g.get hk
theorem St.fP {n:Option Addr} {K:Option Addr→Prop} (h:St F0 w0 w ps) [PkB b ps l rest] [g:GetL l o (.pointer n)] (hk:K n):ldP w ⟨b,o,none⟩ K:=(h.toB b).blk.ldP g.get hk
theorem St.fL {a:Option Addr} {n c:Nat} {K:Sl→Prop} (h:St F0 w0 w ps) [PkB b ps l rest] [g:GetL l o (.slice a n c)] (hk:K ⟨a,n,c⟩):ldL w ⟨b,o,none⟩ K:=(h.toB b).blk.ldL (n:=⟨a,n,c⟩) g.get hk
theorem St.fM {n:Option Nat} {K:Option Nat→Prop} (h:St F0 w0 w ps) [PkB b ps l rest] [g:GetL l o (.map n)] (hk:K n):ldM w ⟨b,o,none⟩ K:=(h.toB b).blk.ldM g.get hk
theorem St.fst {v:Value} {K:World→Prop} (h:St F0 w0 w ps) [PkB b ps l rest] [g:SetL l o v l'] (hs:storable v) (hk:∀ w',St F0 w0 w' (qzc b l' :: rest)→K w'):Go.Proofs.YtejnemneenjliaaGreat.st w ⟨b,o,none⟩ v K :=
 (h.toB b).st g.lt hs fun w' h=>hk w' (by rw [g.set] at h; exact h)
abbrev ivs (k:IntKind) (l:List Int):List Value:=l.map (Value.int k)
theorem ql (k:IntKind) (l:List Int):(ivs k l).length=l.length:=by simp [ivs]
theorem qxn {k:IntKind} {l:List Int} {i:Nat} (h:i < l.length):(ivs k l)[i]?=some (.int k (l.getD i 0)):=by
 simp [ivs,h,List.getD,List.getElem?_eq_getElem h]
theorem ivs_set (k:IntKind) (l:List Int) (i:Nat) (v:Int):(ivs k l).set i (.int k v)=ivs k (l.set i v):=by
 unfold ivs; rw [List.map_set]
theorem qtf {k:IntKind} {l:List Int}:∀ v ∈ (⟨ivs k l⟩:Array Value),storable v:=by
 intro v hv
 have hv:v ∈ ivs k l:=by simpa using hv
 obtain ⟨n,_,rfl⟩:=List.mem_map.1 hv
 trivial
theorem qor (k:IntKind) (l m:List Int):ivs k l ++ ivs k m=ivs k (l ++ m):=by simp [ivs]
theorem qno (k:IntKind) (l:List Int) (n:Nat):(ivs k l).take n=ivs k (l.take n):=by simp [ivs,List.map_take]
theorem ivs_drop (k:IntKind) (l:List Int) (n:Nat):(ivs k l).drop n=ivs k (l.drop n):=by simp [ivs,List.map_drop]
theorem ivs_rep (k:IntKind) (n:Nat) (v:Int):List.replicate n (Value.int k v)=ivs k (List.replicate n v):=by simp [ivs]
theorem Rd.at {k:IntKind} {s:Sl} {zs:List Int} {i:Int} {K:Int→Prop} (h:Rd w 1 s (ivs k zs)) (j:Nat) (hi:i=j) (hj:j < zs.length) (hk:K (zs.getD j 0)):ixS s.a s.len i 1 fun a=>Go.Proofs.YtejnemneenjliaaGreat.ldI k w a K:=by
 subst hi
 have hl:=h.1
 rw [ql] at hl
 refine h.ix (by decide) (by omega) (by omega) fun a ha=>?_
 rw [show ((j:Int)).toNat * 1=j by omega]
 exact h.ldI ha (qxn hj) hk
theorem St.lx {k:IntKind} {s:Sl} {zs:List Int} {i:Int} {K:Int→Prop} (h:St F0 w0 w ps) [Rdb F0 w0 s ps 1 (ivs k zs)] (j:Nat) (hi:i=j) (hj:j < zs.length) (hk:K (zs.getD j 0)):ixS s.a s.len i 1 fun a=>Go.Proofs.YtejnemneenjliaaGreat.ldI k w a K :=
 (h.rdb s).at j hi hj hk
theorem St.sx {k:IntKind} {s:Sl} {zs:List Int} {i v:Int} {K:World→Prop} (h:St F0 w0 w ps) [PkO s ps 1 (ivs k zs) rest] (j:Nat) (hi:i=j) (hj:j < zs.length) (hk:∀ w',St F0 w0 w' (qcc 1 s (ivs k (zs.set j v)) :: rest)→K w'):ixS s.a s.len i 1 fun a=>Go.Proofs.YtejnemneenjliaaGreat.st w a (.int k v) K:=by
 subst hi
 have h:=h.toO s
 have hr:=h.ord
 have hl:=hr.1
 rw [ql] at hl
 refine hr.ix (by decide) (by omega) (by omega) fun a ha=>?_
 rw [show ((j:Int)).toNat * 1=j by omega]
 refine h.setO ha (by rw [ql]; exact hj) trivial fun w h=>hk w ?_
 rw [ivs_set] at h
 exact h
theorem ixA_b' {b o n sz:Nat} {i:Int} {K:Addr→Prop} (h0:0≤i) (h1:i < (n:Int)) (hk:K ⟨b,o+i.toNat * sz,none⟩):ixA ⟨b,o,none⟩ n i sz K:=by
 unfold ixA
 rw [qvf]
 exact ⟨⟨h0,h1⟩,hk⟩
theorem St.la {k:IntKind} {n:Nat} {zs:List Int} {i:Int} {K:Int→Prop} (h:St F0 w0 w ps) [PkB b ps (ivs k zs) rest] (j:Nat) (hi:i=j) (hn:zs.length=n) (hj:j < n) (hk:K (zs.getD j 0)):ixA ⟨b,0,none⟩ n i 1 fun a=>Go.Proofs.YtejnemneenjliaaGreat.ldI k w a K:=by
 subst hi
 refine ixA_b' (by omega) (by omega) ?_
 refine (h.toB b).blk.ldI ?_ hk
 rw [show 0+((j:Int)).toNat * 1=j by omega]
 exact qxn (by omega)
theorem St.sa {k:IntKind} {n:Nat} {zs:List Int} {i v:Int} {K:World→Prop} (h:St F0 w0 w ps) [PkB b ps (ivs k zs) rest] (j:Nat) (hi:i=j) (hn:zs.length=n) (hj:j < n) (hk:∀ w',St F0 w0 w' (qzc b (ivs k (zs.set j v)) :: rest)→K w'):ixA ⟨b,0,none⟩ n i 1 fun a=>Go.Proofs.YtejnemneenjliaaGreat.st w a (.int k v) K:=by
 subst hi
 refine ixA_b' (by omega) (by omega) ?_
 rw [show 0+((j:Int)).toNat * 1=j by omega]
 refine (h.toB b).st (by rw [ql]; omega) trivial fun w h=>hk w ?_
 rw [ivs_set] at h
 exact h
theorem St.lA {n:Nat} {K:Array Value→Prop} (h:St F0 w0 w ps) [PkB b ps l rest] (hl:l.length=n) (hk:K ⟨l⟩):ldA w ⟨b,0,none⟩ n K :=
 (h.toB b).blk.ldA (cs:=⟨l⟩) hl (fun j hj=>by rw [Nat.zero_add]; simp) hk
theorem St.sA {n:Nat} {K:World→Prop} (h:St F0 w0 w ps) [PkB b ps l rest] (hl:l.length=n) (hl':l'.length=n) (hs:∀ v ∈ (⟨l'⟩:Array Value),storable v) (hk:∀ w',St F0 w0 w' (qzc b l' :: rest)→K w'):Go.Proofs.YtejnemneenjliaaGreat.stA w ⟨b,0,none⟩ ⟨l'⟩ K:=by
 refine (h.toB b).stA (o:=0) (by show 0+l'.length≤l.length; omega) hs fun w' h=>hk w' ?_
 have e:l.take 0 ++ (⟨l'⟩:Array Value).toList ++ l.drop (0+(⟨l'⟩:Array Value).size)=l':=by
  rw [List.take_zero,List.nil_append,List.drop_eq_nil_of_le (by show l.length≤0+l'.length; omega),List.append_nil]
 rwa [e] at h
end
end Go.Proofs.YtejnemneenjliaaGreat
namespace Go.Proofs.YtejnemneenjliaaGreat
open Go Go.Proofs
set_option linter.unusedVariables false
set_option linter.unusedSimpArgs false
attribute [local irreducible] apK cpK mkK
class PkF {α:Type} (f:Nat→α→As) (b:Nat) (ps:List As) (x:outParam α) (rest:outParam (List As)):Prop where
 pk:∀ {F0:List Nat} {w0 w:World},St F0 w0 w ps→St F0 w0 w (f b x :: rest)
instance PkF.tl {α:Type} {f:Nat→α→As} {b:Nat} {x:α} {q:As} {ps rest:List As} [i:PkF f b ps x rest]:PkF f b (q :: ps) x (q :: rest):=⟨fun h=>(h.tail fun _ _ _ h=>i.pk h).at1⟩
instance PkF.hd {α:Type} {f:Nat→α→As} {b:Nat} {x:α} {ps:List As}:PkF f b (f b x :: ps) x ps:=⟨id⟩
theorem St.toF {α:Type} (f:Nat→α→As) (b:Nat) {F0:List Nat} {w0 w:World} {ps rest:List As} {x:α} [i:PkF f b ps x rest] (h:St F0 w0 w ps):St F0 w0 w (f b x :: rest):=i.pk h
theorem eqA_i {k:IntKind} {n:Nat} {xs ys:List Int} {K:Bool→Prop} (h1:xs.length=n) (h2:ys.length=n) (hk:K (xs == ys)):eqA k n ⟨ivs k xs⟩ ⟨ivs k ys⟩ K:=⟨xs,ys,rfl,rfl,h1,h2,hk⟩
theorem eqA_s {k:IntKind} {n:Nat} {xs:List Int} {K:Bool→Prop} (h1:xs.length=n) (hk:K true):eqA k n ⟨ivs k xs⟩ ⟨ivs k xs⟩ K:=eqA_i h1 h1 (by simpa using hk)
theorem qym {A B:Prop} (h:A):br true A B:=h
theorem qsj {A B:Prop} (h:B):br false A B:=h
theorem qde {b:Bool} {A B:Prop} (hb:b=true) (h:A):br b A B:=by subst hb; exact h
theorem qle {b:Bool} {A B:Prop} (hb:b=false) (h:B):br b A B:=by subst hb; exact h
theorem qvk {i:Int} {y n:Nat} {K:Nat→Prop} (hn:i=n) (h:n≤y) (hk:K n):bd i y K:=by subst hn; exact ⟨⟨by omega,by omega⟩,by rw [Int.toNat_natCast]; exact hk⟩
theorem qnm {F0:List Nat} {w0 w:World} {ps:List As} {nb:Nat} {l m:List Value} (e:l=m) (h:St F0 w0 w (qzc nb (⟨l⟩:Array Value).toList :: ps)):St F0 w0 w (qzc nb m :: ps):=by
 subst e; exact h
class Elt (P:Program) (e:TypeId) (z:outParam Value):Prop where
 info:∃ i,P.info? e=some i∧i.size=1∧i.bytes ≠ 0∧i.bytes≤16
 zc:Go.Proofs.YtejnemneenjliaaGreat.zc P e=#[z]
theorem Elt.bytes {P:Program} {e:TypeId} {z:Value} [h:Elt P e z]:P.bytesOf e≤16:=by
 obtain ⟨i,h1,_,_,h4⟩:=h.info
 simp [Program.bytesOf,h1,h4]
instance elt_u8:Elt Tryz.prog 5 (.int .u8 0):=⟨⟨Tryz.t5,by kernel_rfl,rfl,by decide,by decide⟩,by kernel_rfl⟩
instance elt_u32:Elt Tryz.prog 40 (.int .u32 0):=⟨⟨Tryz.t40,by kernel_rfl,rfl,by decide,by decide⟩,by kernel_rfl⟩
instance elt_int:Elt Tryz.prog 3 (.int .i64 0):=⟨⟨Tryz.t3,by kernel_rfl,rfl,by decide,by decide⟩,by kernel_rfl⟩
instance elt_bool:Elt Tryz.prog 4 (.bool false):=⟨⟨Tryz.t4,by kernel_rfl,rfl,by decide,by decide⟩,by kernel_rfl⟩
section
variable {F0:List Nat} {w0 w:World} {ps rest:List As} {P:Program} {e:TypeId} {z:Value} {s:Sl} {cs:List Value}
theorem St.push {v:Value} {K:Sl→World→Prop} [he:Elt P e z] (h:St F0 w0 w ps) [PkO s ps 1 cs rest] (hlen:cs.length≤1099511627776) (hv:storable v)
 (hk:∀ s' w',St F0 w0 w' (qcc 1 s' (cs ++ [v]) :: rest)→K s' w') :
 lt (⟨World.heapSize w,0,none⟩:Addr) fun a=>lt (World.alloc w (.cells ⟨[v]⟩ e)) fun w1=>rdO w1 (some a) (1 * 1) fun c=>apK P e w1 s.a s.len s.cap 1 c K:=by
 refine (h.toO s).new fun nb w h=>?_
 refine h.rdB rfl ?_
 obtain ⟨i,h1,h2,h3,h4⟩:=he.info
 exact h.drop.append1 h1 h2 he.zc h3 h4 hlen rfl hv hk
theorem St.pushI {k:IntKind} {zs:List Int} {x:Int} {K:Sl→World→Prop} [he:Elt P e z] (h:St F0 w0 w ps) [PkO s ps 1 (ivs k zs) rest] (hlen:zs.length≤1099511627776)
 (hk:∀ s' w',St F0 w0 w' (qcc 1 s' (ivs k (zs ++ [x])) :: rest)→K s' w') :
 lt (⟨World.heapSize w,0,none⟩:Addr) fun a=>lt (World.alloc w (.cells ⟨[.int k x]⟩ e)) fun w1=>rdO w1 (some a) (1 * 1) fun c=>apK P e w1 s.a s.len s.cap 1 c K :=
 h.push (by rw [ql]; exact hlen) trivial fun s' w h=>hk s' w (by rw [← qor]; exact h)
theorem St.app {n:Nat} {cs2:List Value} {c:Array Value} {K:Sl→World→Prop} [he:Elt P e z] (h:St F0 w0 w ps) [PkO s ps 1 cs rest] (hc:c=⟨cs2⟩) (hn:cs2.length=n) (hlen:cs.length+n≤1099511627776) (hv:∀ v ∈ (⟨cs2⟩:Array Value),storable v)
 (hk:∀ s' w',St F0 w0 w' (qcc 1 s' (cs ++ cs2) :: rest)→K s' w'):apK P e w s.a s.len s.cap n c K:=by
 subst hc
 obtain ⟨i,h1,h2,h3,h4⟩:=he.info
 have h:=h.toO s
 have hl:=h.len
 refine St.append (i:=i) (sz:=1) (m:=n) h1 h2 (by decide) (by rw [he.zc]; rfl) h3 ?_ h (by show cs2.length=n * 1; omega) hv (fun s' w' h _=>hk s' w' h)
 refine Nat.le_trans (Nat.mul_le_mul_left _ h4) ?_
 have hl2:s.len+n≤1099511627776:=by omega
 clear hk h
 generalize s.len+n=m at hl2
 omega
theorem St.appI {k:IntKind} {s2:Sl} {zs ys:List Int} {K:Sl→World→Prop} [he:Elt P e z] (h:St F0 w0 w ps) [PkO s ps 1 (ivs k zs) rest] [Rdb F0 w0 s2 ps 1 (ivs k ys)] (hlen:zs.length+ys.length≤1099511627776)
 (hk:∀ s' w',St F0 w0 w' (qcc 1 s' (ivs k (zs ++ ys)) :: rest)→K s' w'):rdO w s2.a (s2.len * 1) fun c=>apK P e w s.a s.len s.cap s2.len c K:=by
 have hr:=h.rdb s2
 have hl:=hr.1
 rw [ql] at hl
 refine hr.rdO (by rw [ql]; omega) ?_
 exact h.app (cs:=ivs k zs) (cs2:=ivs k ys) rfl (by rw [ql]; omega) (by rw [ql]; omega) qtf fun s' w h=>hk s' w (by rw [← qor]; exact h)
theorem St.own0 {nb:Nat} (h:St F0 w0 w (qzc nb [] :: ps)):St F0 w0 w (qcc 1 ⟨some ⟨nb,0,none⟩,0,0⟩ [] :: ps):=by
 refine h.mp ?_
 rintro F ⟨hb,rfl⟩
 exact Or.inr ⟨nb,[],rfl,hb,rfl,rfl,rfl⟩
theorem St.ownB {nb n:Nat} {l:List Value} (h:St F0 w0 w (qzc nb l :: ps)) (hn:l.length=n):St F0 w0 w (qcc 1 ⟨some ⟨nb,0,none⟩,n,n⟩ l :: ps):=by
 refine h.mp ?_
 rintro F ⟨hb,rfl⟩
 exact Or.inr ⟨nb,[],rfl,by simpa using hb,by simp [hn],by simp [hn],rfl⟩
theorem St.clone {k:IntKind} {s2:Sl} {ys:List Int} {K:Sl→World→Prop} [he:Elt P e z] (h:St F0 w0 w ps) [Rdb F0 w0 s2 ps 1 (ivs k ys)] (hlen:ys.length≤1099511627776)
 (hk:∀ s' w',St F0 w0 w' (qcc 1 s' (ivs k ys) :: ps)→K s' w') :
 lt (⟨World.heapSize w,0,none⟩:Addr) fun a=>lt (World.alloc w (.cells ⟨[]⟩ e)) fun w1=>rdO w1 s2.a (s2.len * 1) fun c=>apK P e w1 (some a) 0 0 s2.len c K:=by
 refine h.new fun nb w h=>?_
 have h:=h.own0
 exact St.appI (s:=⟨some ⟨nb,0,none⟩,0,0⟩) (zs:=[]) (k:=k) (ys:=ys) h (by simpa using hlen) fun s' w h=>hk s' w h
theorem St.make {n:Nat} {l c:Int} {K:Sl→World→Prop} [he:Elt P e z] (h:St F0 w0 w ps) (hl:l=n) (hc:c=n) (hn:n≤1099511627776)
 (hk:∀ s w',s.len=n→s.cap=n→St F0 w0 w' (qcc 1 s (List.replicate n z) :: ps)→K s w'):mkK P e w l c K :=
 St.make1 he.zc hl hc hn he.bytes h hk
theorem St.makeI {k:IntKind} {n:Nat} {l c:Int} {K:Sl→World→Prop} [he:Elt P e (.int k 0)] (h:St F0 w0 w ps) (hl:l=n) (hc:c=n) (hn:n≤1099511627776)
 (hk:∀ s w',s.len=n→s.cap=n→St F0 w0 w' (qcc 1 s (ivs k (List.replicate n 0)) :: ps)→K s w'):mkK P e w l c K :=
 h.make hl hc hn fun s w h1 h2 h=>hk s w h1 h2 (by rw [← ivs_rep]; exact h)
theorem St.bt {s:Sl} {xs:List Int} {K:ByteArray→Prop} (h:St F0 w0 w ps) [Rdb F0 w0 s ps 1 (ivs .u8 xs)] (hx:∀ x ∈ xs,0≤x∧x < 256) (hk:K ⟨⟨u8 xs⟩⟩):btS w s.a s.len K :=
 (h.rdb s).btS hx hk
theorem Rdb.cut {k:IntKind} {xs:List Int} (hr:Rdb F0 w0 s ps 1 (ivs k xs)) (n m c':Nat) (hm:m≤s.len) (hn:n≤m) (hc:s.len≤s.cap):Rdb F0 w0 ⟨qgf s.a s.cap n 1,m - n,c'⟩ ps 1 (ivs k ((xs.drop n).take (m - n))):=⟨fun h=>by
 have:=(hr.rd h).cut (n:=n) (m:=m) (by decide) hm hn hc c'
 rw [Nat.mul_one,Nat.mul_one,ivs_drop,qno] at this
 exact this⟩
theorem Rdb.cutAs {k:IntKind} {xs ys:List Int} (hr:Rdb F0 w0 s ps 1 (ivs k xs)) (n m c':Nat) (hm:m≤s.len) (hn:n≤m) (hc:s.len≤s.cap) (e:(xs.drop n).take (m - n)=ys):Rdb F0 w0 ⟨qgf s.a s.cap n 1,m - n,c'⟩ ps 1 (ivs k ys):=e ▸ hr.cut n m c' hm hn hc
theorem St.cutR {k:IntKind} {xs ys:List Int} (h:St F0 w0 w ps) (s:Sl) [hr:Rdb F0 w0 s ps 1 (ivs k xs)] (n m c':Nat) (hm:m≤s.len) (hn:n≤m) (hc:s.len≤s.cap) (e:(xs.drop n).take (m - n)=ys):Rdb F0 w0 ⟨qgf s.a s.cap n 1,m - n,c'⟩ ps 1 (ivs k ys):=hr.cutAs n m c' hm hn hc e
theorem St.str {b n:Nat} {l:List Value} {K:World→Prop} (h:St F0 w0 w ps) [PkB b ps l rest] (hn:l.length=n) (hk:∀ w',St F0 w0 w' (rdA 1 ⟨some ⟨b,0,none⟩,n,n⟩ l :: rest)→K w'):mkStr w (some ⟨b,0,none⟩) K :=
 mkStr_i (h.toB b) hn hk
end
end Go.Proofs.YtejnemneenjliaaGreat
namespace Go.Proofs.YtejnemneenjliaaGreat
open Go Go.Proofs
set_option linter.unusedVariables false
set_option linter.unusedSimpArgs false
attribute [local irreducible] apK cpK mkK
def lf (x n:Int):Int:=orV .u32 (qqi .u32 x n) (qbj .u32 x (32 - n))
def no32 (b:Int):Int:=qyl .u32 4294967295 b
def mixF (t:Nat) (b c d:Int):Int × Int :=
 if t < 20 then (orV .u32 (qli .u32 b c) (qli .u32 (no32 b) d),1518500249)
 else if t < 40 then (qyl .u32 (qyl .u32 b c) d,1859775393)
 else if t < 60 then (orV .u32 (orV .u32 (qli .u32 b c) (qli .u32 b d)) (qli .u32 c d),2400959708)
 else (qyl .u32 (qyl .u32 b c) d,3395469782)
structure W5 where
 a:Int
 b:Int
 c:Int
 d:Int
 e:Int
def stepF (t:Nat) (x:Int) (s:W5):W5 :=
 ⟨IntKind.u32.wrap (IntKind.u32.wrap (IntKind.u32.wrap (IntKind.u32.wrap (lf s.a 5+(mixF t s.b s.c s.d).1)+s.e)+(mixF t s.b s.c s.d).2)+x),s.a,lf s.b 30,s.c,s.d⟩
def rounds (l:List Int):Nat→W5→W5
 | 0,s=>s
 | n+1,s=>stepF n (l.getD n 0) (rounds l n s)
def nextW (l:List Int):Int:=lf (qyl .u32 (qyl .u32 (qyl .u32 (l.getD (l.length - 3) 0) (l.getD (l.length - 8) 0)) (l.getD (l.length - 14) 0)) (l.getD (l.length - 16) 0)) 1
def growW:Nat→List Int→List Int
 | 0,l=>l
 | n+1,l=>growW n (l ++ [nextW l])
def be (l:List Int):Int:=l.foldl (fun a x=>a * 256+x) 0
theorem be_snoc (l:List Int) (x:Int):be (l ++ [x])=be l * 256+x:=by simp [be]
def base16 (p:List Int):List Int:=(List.range 16).map fun t=>be ((p.drop (4 * t)).take 4)
def addW (s x:W5):W5:=⟨IntKind.u32.wrap (s.a+x.a),IntKind.u32.wrap (s.b+x.b),IntKind.u32.wrap (s.c+x.c),IntKind.u32.wrap (s.d+x.d),IntKind.u32.wrap (s.e+x.e)⟩
def blkF (s:W5) (p:List Int):W5:=addW s (rounds (growW 64 (base16 p)) 80 s)
def W5.l (s:W5):List Int:=[s.a,s.b,s.c,s.d,s.e]
def init5:W5:=⟨1732584193,4023233417,2562383102,271733878,3285377520⟩
def hs (xs:List Int):Nat→W5
 | 0=>init5
 | n+1=>blkF (hs xs n) ((xs.drop (64 * n)).take 64)
def be8 (n:Int):List Int:=(List.range 8).map fun i=>n / 2 ^ (8 * (7 - i)) % 256
def zeros (n:Nat):List Int:=List.replicate ((119 - n % 64) % 64) 0
def padded (xs:List Int):List Int:=xs ++ [128] ++ zeros xs.length ++ be8 (8 * xs.length)
def sumW (xs:List Int):W5:=hs (padded xs) ((padded xs).length / 64)
def word4 (x:Int):List Int:=[x / 2 ^ 24 % 256,x / 2 ^ 16 % 256,x / 2 ^ 8 % 256,x % 256]
def sumB (xs:List Int):List Int:=(sumW xs).l.flatMap word4
section
variable {F0:List Nat} {w0 w:World} {ps:List As}
end
end Go.Proofs.YtejnemneenjliaaGreat
namespace Go.Proofs.YtejnemneenjliaaGreat
open Go Go.Proofs
set_option linter.unusedVariables false
set_option linter.unusedSimpArgs false
attribute [local irreducible] apK cpK mkK
attribute [local irreducible] rounds growW
def allB (l:List Int):Prop:=∀ x ∈ l,0≤x∧x < 256
theorem be_lt:∀ (l:List Int),allB l→0≤be l∧be l < 256 ^ l.length:=by
 intro l
 have key:∀ (l:List Int) (a:Int) (k:Nat),allB l→0≤a→a < 256 ^ k→0≤l.foldl (fun a x=>a * 256+x) a∧l.foldl (fun a x=>a * 256+x) a < 256 ^ (k+l.length):=by
  intro l
  induction l with
  | nil=>intro a k _ h0 h1; exact ⟨h0,h1⟩
  | cons x l ih =>
    intro a k hb h0 h1
    have hx:=hb x (by simp)
    have:=ih (a * 256+x) (k+1) (fun y hy=>hb y (by simp [hy])) (by omega) (by rw [Int.pow_succ]; omega)
    rw [List.foldl_cons,List.length_cons,show k+(l.length+1)=k+1+l.length by omega]
    exact this
 intro hb
 have:=key l 0 0 hb (by omega) (by decide)
 rwa [Nat.zero_add] at this
section
variable {F0:List Nat} {w0 w:World} {ps:List As}
end
end Go.Proofs.YtejnemneenjliaaGreat
namespace Go.Proofs.YtejnemneenjliaaGreat
open Go Go.Proofs
set_option linter.unusedVariables false
set_option maxRecDepth 100000
def qlg.j2 (out_7:Sl) (Q:VWP) (w:World):Prop :=
 qij 68 [sV out_7] w fun r3 w2 =>
 Q (sV r3) w2
def qlg.b1 (v_1 bits_2:Int) (out_7:Sl) (Q:VWP) (nx1:Int→Int→Sl→WP) (w:World):Prop :=
 br (decide (bits_2 > 0)) (
 lt (IntKind.i64.wrap (bits_2 - 8)) fun x4 =>
 (0:Int)≤x4 ∧
 lt (qbj .i64 v_1 x4) fun x5 =>
 lt (IntKind.u8.wrap x5) fun x6 =>
 nw w ⟨[.int .u8 x6]⟩ 5 fun a7 w8 =>
 rdO w8 (some a7) (1 * 1) fun c9 =>
 apK Tryz.prog 5 w8 out_7.a out_7.len out_7.cap 1 c9 fun s10 w11 =>
 nx1 v_1 x4 s10 w11) (
 qlg.j2 out_7 Q w)
def qlg.l1 (v_1 bits_2:Int) (out_7:Sl) (Q:VWP) (w:World):Prop :=
 ∃ (I:Int→Sl→WP) (μ:Int→Sl→World→Nat),I bits_2 out_7 w∧∀ bits_2:Int,∀ out_7:Sl,∀ w:World,I bits_2 out_7 w→qlg.b1 v_1 bits_2 out_7 Q (fun v_1' bits_2' out_7' w'=>(v_1'=v_1)∧I bits_2' out_7' w'∧μ bits_2' out_7' w' < μ bits_2 out_7 w) w
def qlg.j1 (v_1 bits_2:Int) (out_7:Sl) (Q:VWP) (w:World):Prop :=
 qlg.l1 v_1 bits_2 out_7 Q w
def qlg (b_0:Sl) (v_1:Int) (bits_2:Int) (Q:VWP) (w:World):Prop :=
 qij 112 [sV b_0] w fun r14 w13 =>
 qlg.j1 v_1 bits_2 r14 Q w13
theorem qlg.ok (b_0:Sl) (v_1:Int) (bits_2:Int) (Q:VWP) (w:World) (h:qlg b_0 v_1 bits_2 Q w):Calls Tryz.prog 144 ⟨[sV b_0,.int .i64 v_1,.int .i64 bits_2]⟩ w (Ret Q) :=
 qqc [.tmp 6] qbe Tryz.func144 rfl rfl rfl rfl (.pr 1 [sI 1,sI 2,sL 7] (fun a b c w=>qlg.j1 a b c Q w) (.sq [sL 7] (fun a w=>qlg.j2 a Q w) (.bk (.lo [sI 1] [sI 2,sL 7] (fun a b c w=>qlg.l1 a b c Q w) (fun nx1 a b c w=>qlg.b1 a b c Q nx1 w) fun nx1=>.lf)) .lf)) (by kernel_rfl) h
def qil (b_0:Sl) (v_1:Int) (Q:VWP) (w:World):Prop :=
 qij 144 [sV b_0,.int .i64 v_1,.int .i64 32] w fun r3 w2 =>
 Q (sV r3) w2
theorem qil.ok (b_0:Sl) (v_1:Int) (Q:VWP) (w:World) (h:qil b_0 v_1 Q w):Calls Tryz.prog 63 ⟨[sV b_0,.int .i64 v_1]⟩ w (Ret Q) :=
 qqc [.tmp 4] qbe Tryz.func63 rfl rfl rfl rfl .lf (by kernel_rfl) h
end Go.Proofs.YtejnemneenjliaaGreat
namespace Go.Proofs.YtejnemneenjliaaGreat
open Go Go.Proofs
set_option linter.unusedVariables false
set_option linter.unusedSimpArgs false
attribute [local irreducible] apK cpK mkK hs
def beJ (n j:Nat) (v:Int):List Int:=(List.range j).map fun i=>v / 2 ^ (8 * (n - 1 - i)) % 256
theorem qst (n j:Nat) (v:Int):(beJ n j v).length=j:=by simp [beJ]
theorem beJ_succ (n j:Nat) (v:Int):beJ n (j+1) v=beJ n j v ++ [v / 2 ^ (8 * (n - 1 - j)) % 256]:=by simp [beJ,List.range_succ]
theorem beJ_ok (n j:Nat) (v:Int):allB (beJ n j v):=by
 intro x hx
 obtain ⟨i,_,rfl⟩:=List.mem_map.1 hx
 omega
section
variable {F0:List Nat} {w0 w:World} {ps:List As}
theorem St.blkrd {b n:Nat} {l:List Value} (h:St F0 w0 w (qzc b l :: ps)) (hn:l.length=n):St F0 w0 w (rdA 1 ⟨some ⟨b,0,none⟩,n,n⟩ l :: ps):=by
 refine h.mp ?_
 rintro F ⟨hb,rfl⟩
 exact ⟨by simp [hn],Or.inr ⟨b,0,l,rfl,hb.rb,rfl,fun i hi=>by rw [Nat.zero_add]⟩⟩
theorem qlg.c {s:Sl} {xs:List Int} {v:Int} {n:Nat} {K:Ending→World→Prop} (h:St F0 w0 w ps) (hr:Rd w 1 s (u8s xs)) (hL:xs.length≤1099511627776) (hn:n≤8)
 (hk:∀ s' w',s'.len=xs.length+n→s'.cap=s'.len→St F0 w0 w' (rdA 1 s' (u8s (xs ++ beJ n n v)) :: ps)→K (.returned (.slice s'.a s'.len s'.cap)) w'):Calls Tryz.prog 144 ⟨[.slice s.a s.len s.cap,.int .i64 v,.int .i64 ((8 * n:Nat):Int)]⟩ w K:=by
 refine qfc (qlg.ok _ _ _ _ _ ?_)
 unfold qlg
 refine qid.c h hr (by omega) fun s1 w h=>⟨s1,rfl,?_⟩
 unfold qlg.j1
 refine qkg (fun (j:Nat) (b':Int) (o':Sl) w=>b'=((8 * (n - j):Nat):Int)∧j≤n∧St F0 w0 w (qcc 1 o' (u8s (xs ++ beJ n j v)) :: ps)) (fun j=>n - j) 0 ⟨rfl,by omega,by simpa [beJ] using h⟩ ?_
 clear h
 rintro j b' o w I μ ⟨rfl,hj,h⟩ hin
 unfold qlg.b1
 refine qnc (fun h1=>?_) (fun h1=>?_)
 · refine qn (qd (by omega) (by omega)) ?_
   have e:((8 * (n - j):Nat):Int) - 8=((8 * (n - 1 - j):Nat):Int):=by omega
   rw [e]
   refine ⟨by omega,?_⟩
   refine qn (qti .i64 _ (show 8 * (n - 1 - j)≤64 by omega)) ?_
   refine qn (qck _) ?_
   refine h.new fun nb w h=>?_
   refine h.rdB rfl ?_
   refine h.drop.append_u8 (by rw [List.length_append,qst]; omega) rfl fun s2 w h=>?_
   refine ⟨rfl,hin (j+1) _ _ _ ⟨?_,by omega,?_⟩ (by omega)⟩
   · rw [show n - 1 - j=n - (j+1) by omega]
   · rw [beJ_succ,← List.append_assoc]
     exact h
 · have:j=n:=by omega
   subst this
   have hcap:=h.cap (by decide)
   have hlen:=h.len
   rw [qhh,List.length_append,qst] at hlen
   unfold qlg.j2
   refine qfd.c h.ro hcap fun s3 hs1 hs2 h=>⟨s3,rfl,hk s3 w (by omega) (by omega) h⟩
end
end Go.Proofs.YtejnemneenjliaaGreat
namespace Go.Proofs.YtejnemneenjliaaGreat
open Go Go.Proofs
set_option linter.unusedVariables false
set_option maxRecDepth 100000
def qpp (b_0:Sl) (Q:VWP) (w:World):Prop :=
 qij 112 [sV b_0] w fun r3 w2 =>
 nw w2 (⟨[sV r3,.int .i64 0,.int .i64 0]⟩:Array Value) 306 fun a4 w5 =>
 Q (.pointer (some a4)) w5
theorem qpp.ok (b_0:Sl) (Q:VWP) (w:World) (h:qpp b_0 Q w):Calls Tryz.prog 149 ⟨[sV b_0]⟩ w (Ret Q) :=
 qqc [.tmp 2] qbe Tryz.func149 rfl rfl rfl rfl .lf (by kernel_rfl) h
def qlh (r_0:OAd) (Q:VWP) (w:World):Prop :=
 nz r_0 fun a1 =>
 ldI .i64 w (Addr.add a1 2) fun x2 =>
 Q (.int .i64 x2) w
theorem qlh.ok (r_0:OAd) (Q:VWP) (w:World) (h:qlh r_0 Q w):Calls Tryz.prog 154 ⟨[.pointer r_0]⟩ w (Ret Q) :=
 qqc [.tmp 2] qbe Tryz.func154 rfl rfl rfl rfl .lf (by kernel_rfl) h
def qvg (r_0:OAd) (Q:VWP) (w:World):Prop :=
 nz r_0 fun a1 =>
 ldI .i64 w (Addr.add a1 2) fun x2 =>
 br (x2 != 0) (
 Q (.int .i64 0) w) (
 lt (World.drew w) fun w3 =>
 nz r_0 fun a4 =>
 ldL w3 (Addr.add a4 0) fun x5 =>
 nz r_0 fun a6 =>
 ldI .i64 w3 (Addr.add a6 1) fun x7 =>
 lt (IntKind.i64.wrap ((x5.len:Int) - x7)) fun x8 =>
 Q (.int .i64 x8) w3)
theorem qvg.ok (r_0:OAd) (Q:VWP) (w:World) (h:qvg r_0 Q w):Calls Tryz.prog 152 ⟨[.pointer r_0]⟩ w (Ret Q) :=
 qqc [.tmp 2] qbe Tryz.func152 rfl rfl rfl rfl .lf (by kernel_rfl) h
def qld.j1 (r_0:OAd) (n_1:Int) (Q:VWP) (w:World):Prop :=
 nz r_0 fun a1 =>
 ldI .i64 w (Addr.add a1 2) fun x2 =>
 br (x2 != 0) (
 Q (.slice none 0 0) w) (
 nz r_0 fun a3 =>
 ldI .i64 w (Addr.add a3 1) fun x4 =>
 lt (IntKind.i64.wrap (x4+n_1)) fun x5 =>
 nz r_0 fun a6 =>
 st w (Addr.add a6 1) (.int .i64 x5) fun w7 =>
 lt (World.drew w7) fun w8 =>
 nz r_0 fun a9 =>
 ldL w8 (Addr.add a9 0) fun x10 =>
 nz r_0 fun a11 =>
 ldI .i64 w8 (Addr.add a11 1) fun x12 =>
 lt (IntKind.i64.wrap (x12 - n_1)) fun x13 =>
 nz r_0 fun a14 =>
 ldI .i64 w8 (Addr.add a14 1) fun x15 =>
 bd x15 x10.cap fun n16 =>
 bd x13 n16 fun n17 =>
 lt (⟨qgf x10.a x10.cap n17 1,n16 - n17,x10.cap - n17⟩:Sl) fun s18 =>
 Q (sV s18) w8)
def qld (r_0:OAd) (n_1:Int) (Q:VWP) (w:World):Prop :=
 nz r_0 fun a19 =>
 ldI .i64 w (Addr.add a19 2) fun x20 =>
 br (x20 == 0) (
 br (decide (n_1 < 0)) (
 nz r_0 fun a21 =>
 st w (Addr.add a21 2) (.int .i64 3) fun w22 =>
 qld.j1 r_0 n_1 Q w22) (
 qxi 152 [.pointer r_0] w fun r25 w24 =>
 br (decide (n_1 > r25)) (
 nz r_0 fun a26 =>
 st w24 (Addr.add a26 2) (.int .i64 3) fun w27 =>
 qld.j1 r_0 n_1 Q w27) (
 qld.j1 r_0 n_1 Q w24))) (
 qld.j1 r_0 n_1 Q w)
theorem qld.ok (r_0:OAd) (n_1:Int) (Q:VWP) (w:World) (h:qld r_0 n_1 Q w):Calls Tryz.prog 207 ⟨[.pointer r_0,.int .i64 n_1]⟩ w (Ret Q) :=
 qqc [.tmp 4] qbe Tryz.func207 rfl rfl rfl rfl (.pr 1 [sP 0,sI 1] (fun a b w=>qld.j1 a b Q w) .lf) (by kernel_rfl) h
def qpb.j2 (v_5:Int) (Q:VWP) (w:World):Prop :=
 Q (.int .i64 v_5) w
def qpb.b1 (t10:Sl) (t11:Int) (v_5 t12:Int) (Q:VWP) (nx1:Sl→Int→Int→Int→WP) (w:World):Prop :=
 br (decide (t12 < t11)) (
 ixS t10.a t10.len t12 1 fun a1 =>
 ldI .u8 w a1 fun x2 =>
 (0:Int)≤8 ∧
 lt (qqi .i64 v_5 8) fun x3 =>
 lt (IntKind.i64.wrap x2) fun x4 =>
 lt (orV .i64 x3 x4) fun x5 =>
 lt (IntKind.i64.wrap (t12+1)) fun x6 =>
 nx1 t10 t11 x5 x6 w) (
 qpb.j2 v_5 Q w)
def qpb.l1 (t10:Sl) (t11:Int) (v_5 t12:Int) (Q:VWP) (w:World):Prop :=
 ∃ (I:Int→Int→WP) (μ:Int→Int→World→Nat),I v_5 t12 w∧∀ v_5:Int,∀ t12:Int,∀ w:World,I v_5 t12 w→qpb.b1 t10 t11 v_5 t12 Q (fun t10' t11' v_5' t12' w'=>(t10'=t10∧t11'=t11)∧I v_5' t12' w'∧μ v_5' t12' w' < μ v_5 t12 w) w
def qpb.j3 (v_5:Int) (t10:Sl) (t11 t12:Int) (Q:VWP) (w:World):Prop :=
 qpb.l1 t10 t11 v_5 t12 Q w
def qpb.j1 (r_0:OAd) (n_1:Int) (v_5:Int) (Q:VWP) (w:World):Prop :=
 qij 207 [.pointer r_0,.int .i64 n_1] w fun r9 w8 =>
 qpb.j3 v_5 r9 (r9.len:Int) 0 Q w8
def qpb (r_0:OAd) (n_1:Int) (Q:VWP) (w:World):Prop :=
 qpb.j1 r_0 n_1 0 Q w
theorem qpb.ok (r_0:OAd) (n_1:Int) (Q:VWP) (w:World) (h:qpb r_0 n_1 Q w):Calls Tryz.prog 205 ⟨[.pointer r_0,.int .i64 n_1]⟩ w (Ret Q) :=
 qqc [.tmp 4] qbe Tryz.func205 rfl rfl rfl rfl (.pr 1 [sP 0,sI 1,sI 5] (fun a b c w=>qpb.j1 a b c Q w) (.sq [sI 5] (fun a w=>qpb.j2 a Q w) (.sq [sI 5,sL 10,sI 11,sI 12] (fun a b c d w=>qpb.j3 a b c d Q w) .lf (.bk (.lo [sL 10,sI 11] [sI 5,sI 12] (fun a b c d w=>qpb.l1 a b c d Q w) (fun nx1 a b c d w=>qpb.b1 a b c d Q nx1 w) fun nx1=>.lf))) .lf)) (by kernel_rfl) h
def qkh (r_0:OAd) (Q:VWP) (w:World):Prop :=
 qxi 205 [.pointer r_0,.int .i64 4] w fun r3 w2 =>
 Q (.int .i64 r3) w2
theorem qkh.ok (r_0:OAd) (Q:VWP) (w:World) (h:qkh r_0 Q w):Calls Tryz.prog 150 ⟨[.pointer r_0]⟩ w (Ret Q) :=
 qqc [.tmp 2] qbe Tryz.func150 rfl rfl rfl rfl .lf (by kernel_rfl) h
def qjc.j3 (out_5 l_6:Sl) (Q:VWP) (w:World):Prop :=
 ct_ 173 [sV l_6] w fun w2 =>
 rdO w2 l_6.a (l_6.len * 1) fun c3 =>
 apK Tryz.prog 5 w2 out_5.a out_5.len out_5.cap l_6.len c3 fun s4 w5 =>
 qij 68 [sV s4] w5 fun r8 w7 =>
 Q (sV r8) w7
def qjc.b1 (out_5:Sl) (v_1:Int) (l_6:Sl) (Q:VWP) (nx1:Sl→Int→Sl→WP) (w:World):Prop :=
 br (decide (v_1 > 0)) (
 lt (IntKind.i64.wrap (v_1 - 1)) fun x9 =>
 lt (qli .i64 x9 127) fun x10 =>
 lt (orV .i64 x10 128) fun x11 =>
 lt (IntKind.u8.wrap x11) fun x12 =>
 nw w ⟨[.int .u8 x12]⟩ 5 fun a13 w14 =>
 rdO w14 (some a13) (1 * 1) fun c15 =>
 apK Tryz.prog 5 w14 l_6.a l_6.len l_6.cap 1 c15 fun s16 w17 =>
 (0:Int)≤7 ∧
 lt (qbj .i64 x9 7) fun x18 =>
 nx1 out_5 x18 s16 w17) (
 qjc.j3 out_5 l_6 Q w)
def qjc.l1 (out_5:Sl) (v_1:Int) (l_6:Sl) (Q:VWP) (w:World):Prop :=
 ∃ (I:Int→Sl→WP) (μ:Int→Sl→World→Nat),I v_1 l_6 w∧∀ v_1:Int,∀ l_6:Sl,∀ w:World,I v_1 l_6 w→qjc.b1 out_5 v_1 l_6 Q (fun out_5' v_1' l_6' w'=>(out_5'=out_5)∧I v_1' l_6' w'∧μ v_1' l_6' w' < μ v_1 l_6 w) w
def qjc.j4 (v_1:Int) (out_5:Sl) (l_6:Sl) (Q:VWP) (w:World):Prop :=
 qjc.l1 out_5 v_1 l_6 Q w
def qjc.j2 (v_1:Int) (out_5:Sl) (l_6:Sl) (Q:VWP) (w:World):Prop :=
 (0:Int)≤7 ∧
 lt (qbj .i64 v_1 7) fun x19 =>
 qjc.j4 x19 out_5 l_6 Q w
def qjc.j1 (v_1:Int) (out_5:Sl) (Q:VWP) (w:World):Prop :=
 br (decide (v_1 < 0)) (
 Q (sV out_5) w) (
 lt (qli .i64 v_1 127) fun x20 =>
 lt (IntKind.u8.wrap x20) fun x21 =>
 nw w ⟨[.int .u8 x21]⟩ 5 fun a22 w23 =>
 qjc.j2 v_1 out_5 ⟨(some a22),1,1⟩ Q w23)
def qjc (b_0:Sl) (v_1:Int) (Q:VWP) (w:World):Prop :=
 qij 112 [sV b_0] w fun r26 w25 =>
 qjc.j1 v_1 r26 Q w25
theorem qjc.ok (b_0:Sl) (v_1:Int) (Q:VWP) (w:World) (h:qjc b_0 v_1 Q w):Calls Tryz.prog 113 ⟨[sV b_0,.int .i64 v_1]⟩ w (Ret Q) :=
 qqc [.tmp 4] qbe Tryz.func113 rfl rfl rfl rfl (.pr 1 [sI 1,sL 5] (fun a b w=>qjc.j1 a b Q w) (.pr 1 [sI 1,sL 5,sL 6] (fun a b c w=>qjc.j2 a b c Q w) (.sq [sL 5,sL 6] (fun a b w=>qjc.j3 a b Q w) (.sq [sI 1,sL 5,sL 6] (fun a b c w=>qjc.j4 a b c Q w) .lf (.bk (.lo [sL 5] [sI 1,sL 6] (fun a b c w=>qjc.l1 a b c Q w) (fun nx1 a b c w=>qjc.b1 a b c Q nx1 w) fun nx1=>.lf))) .lf))) (by kernel_rfl) h
def qic.j2 (b_0:Sl) (Q:VWP) (w:World):Prop :=
 br (decide ((b_0.len:Int) ≥ 8)) (
 Q (.tuple ⟨[.int .i64 0,.int .i64 0,.int .i64 5]⟩) w) (
 Q (.tuple ⟨[.int .i64 0,.int .i64 0,.int .i64 3]⟩) w)
def qic.j5 (b_0:Sl) (v_2:Int) (t7:Sl) (t8:Int) (t9:Int) (Q:VWP) (nx1:Sl→Sl→Int→Int→Int→WP) (w:World):Prop :=
 lt (IntKind.i64.wrap (t9+1)) fun x1 =>
 nx1 b_0 t7 t8 v_2 x1 w
def qic.j7 (b_0:Sl) (v_2:Int) (i_5 c_6:Int) (t7:Sl) (t8 t9:Int) (Q:VWP) (nx1:Sl→Sl→Int→Int→Int→WP) (w:World):Prop :=
 lt (qli .u8 c_6 127) fun x2 =>
 lt (IntKind.i64.wrap x2) fun x3 =>
 lt (orV .i64 v_2 x3) fun x4 =>
 br (decide (c_6 < 128)) (
 lt (IntKind.i64.wrap (i_5+1)) fun x5 =>
 Q (.tuple ⟨[.int .i64 x4,.int .i64 x5,.int .i64 0]⟩) w) (
 qic.j5 b_0 x4 t7 t8 t9 Q nx1 w)
def qic.j6 (b_0:Sl) (v_2:Int) (i_5 c_6:Int) (t7:Sl) (t8 t9:Int) (Q:VWP) (nx1:Sl→Sl→Int→Int→Int→WP) (w:World):Prop :=
 br (i_5 == 8) (
 Q (.tuple ⟨[.int .i64 0,.int .i64 0,.int .i64 5]⟩) w) (
 br (decide (i_5 > 0)) (
 lt (IntKind.i64.wrap (v_2+1)) fun x6 =>
 (0:Int)≤7 ∧
 lt (qqi .i64 x6 7) fun x7 =>
 qic.j7 b_0 x7 i_5 c_6 t7 t8 t9 Q nx1 w) (
 qic.j7 b_0 v_2 i_5 c_6 t7 t8 t9 Q nx1 w))
def qic.j4 (b_0:Sl) (v_2:Int) (t7:Sl) (t8:Int) (t9:Int) (Q:VWP) (nx1:Sl→Sl→Int→Int→Int→WP) (w:World):Prop :=
 ixS t7.a t7.len t9 1 fun a8 =>
 ldI .u8 w a8 fun x9 =>
 qic.j6 b_0 v_2 t9 x9 t7 t8 t9 Q nx1 w
def qic.b1 (b_0 t7:Sl) (t8:Int) (v_2 t9:Int) (Q:VWP) (nx1:Sl→Sl→Int→Int→Int→WP) (w:World):Prop :=
 br (decide (t9 < t8)) (
 qic.j4 b_0 v_2 t7 t8 t9 Q nx1 w) (
 qic.j2 b_0 Q w)
def qic.l1 (b_0 t7:Sl) (t8:Int) (v_2 t9:Int) (Q:VWP) (w:World):Prop :=
 ∃ (I:Int→Int→WP) (μ:Int→Int→World→Nat),I v_2 t9 w∧∀ v_2:Int,∀ t9:Int,∀ w:World,I v_2 t9 w→qic.b1 b_0 t7 t8 v_2 t9 Q (fun b_0' t7' t8' v_2' t9' w'=>(b_0'=b_0∧t7'=t7∧t8'=t8)∧I v_2' t9' w'∧μ v_2' t9' w' < μ v_2 t9 w) w
def qic.j3 (b_0:Sl) (v_2:Int) (t7:Sl) (t8:Int) (t9:Int) (Q:VWP) (w:World):Prop :=
 qic.l1 b_0 t7 t8 v_2 t9 Q w
def qic.j1 (b_0:Sl) (v_2:Int) (Q:VWP) (w:World):Prop :=
 qic.j3 b_0 v_2 b_0 (b_0.len:Int) 0 Q w
def qic (b_0:Sl) (Q:VWP) (w:World):Prop :=
 qic.j1 b_0 0 Q w
theorem qic.ok (b_0:Sl) (Q:VWP) (w:World) (h:qic b_0 Q w):Calls Tryz.prog 231 ⟨[sV b_0]⟩ w (Ret Q) :=
 qqc [.tmp 2,.tmp 3,.tmp 4] qbe Tryz.func231 rfl rfl rfl rfl (.sq [sL 0,sI 2] (fun a b w=>qic.j1 a b Q w) .lf (.sq [sL 0] (fun a w=>qic.j2 a Q w) (.sq [sL 0,sI 2,sL 7,sI 8,sI 9] (fun a b c d e w=>qic.j3 a b c d e Q w) .lf (.bk (.lo [sL 0,sL 7,sI 8] [sI 2,sI 9] (fun a b c d e w=>qic.l1 a b c d e Q w) (fun nx1 a b c d e w=>qic.b1 a b c d e Q nx1 w) fun nx1=>(.pr 1 [sL 0,sI 2,sL 7,sI 8,sI 9] (fun a b c d e w=>qic.j4 a b c d e Q nx1 w) (.sq [sL 0,sI 2,sL 7,sI 8,sI 9] (fun a b c d e w=>qic.j5 a b c d e Q nx1 w) (.bk (.sq [sL 0,sI 2,sI 5,(6,.I .u8),sL 7,sI 8,sI 9] (fun a b c d e f g w=>qic.j6 a b c d e f g Q nx1 w) .lf (.pr 1 [sL 0,sI 2,sI 5,(6,.I .u8),sL 7,sI 8,sI 9] (fun a b c d e f g w=>qic.j7 a b c d e f g Q nx1 w) .lf))) .lf))))) .lf)) (by kernel_rfl) h
end Go.Proofs.YtejnemneenjliaaGreat
namespace Go.Proofs.YtejnemneenjliaaGreat
open Go Go.Proofs
set_option linter.unusedVariables false
set_option maxRecDepth 100000
def qmb.j3 (b_0 x_5:Sl) (Q:VWP) (w:World):Prop :=
 rdO w x_5.a (x_5.len * 1) fun c1 =>
 apK Tryz.prog 5 w b_0.a b_0.len b_0.cap x_5.len c1 fun s2 w3 =>
 Q (sV s2) w3
def qmb.b1 (b_0:Sl) (v_1:Int) (x_5:Sl) (Q:VWP) (nx1:Sl→Int→Sl→WP) (w:World):Prop :=
 br (decide (v_1 > 0)) (
 lt (IntKind.i64.wrap (v_1 - 1)) fun x4 =>
 lt (qli .i64 x4 127) fun x5 =>
 lt (orV .i64 x5 128) fun x6 =>
 lt (IntKind.u8.wrap x6) fun x7 =>
 nw w ⟨[.int .u8 x7]⟩ 5 fun a8 w9 =>
 rdO w9 x_5.a (x_5.len * 1) fun c10 =>
 apK Tryz.prog 5 w9 (some a8) 1 1 x_5.len c10 fun s11 w12 =>
 (0:Int)≤7 ∧
 lt (qbj .i64 x4 7) fun x13 =>
 nx1 b_0 x13 s11 w12) (
 qmb.j3 b_0 x_5 Q w)
def qmb.l1 (b_0:Sl) (v_1:Int) (x_5:Sl) (Q:VWP) (w:World):Prop :=
 ∃ (I:Int→Sl→WP) (μ:Int→Sl→World→Nat),I v_1 x_5 w∧∀ v_1:Int,∀ x_5:Sl,∀ w:World,I v_1 x_5 w→qmb.b1 b_0 v_1 x_5 Q (fun b_0' v_1' x_5' w'=>(b_0'=b_0)∧I v_1' x_5' w'∧μ v_1' x_5' w' < μ v_1 x_5 w) w
def qmb.j2 (b_0:Sl) (v_1:Int) (x_5:Sl) (Q:VWP) (w:World):Prop :=
 qmb.l1 b_0 v_1 x_5 Q w
def qmb.j1 (b_0:Sl) (v_1:Int) (Q:VWP) (w:World):Prop :=
 lt (qli .i64 v_1 127) fun x14 =>
 lt (IntKind.u8.wrap x14) fun x15 =>
 nw w ⟨[.int .u8 x15]⟩ 5 fun a16 w17 =>
 (0:Int)≤7 ∧
 lt (qbj .i64 v_1 7) fun x18 =>
 qmb.j2 b_0 x18 ⟨(some a16),1,1⟩ Q w17
def qmb (b_0:Sl) (v_1:Int) (Q:VWP) (w:World):Prop :=
 br (decide (v_1 < 0)) (
 Q (sV b_0) w) (
 qmb.j1 b_0 v_1 Q w)
theorem qmb.ok (b_0:Sl) (v_1:Int) (Q:VWP) (w:World) (h:qmb b_0 v_1 Q w):Calls Tryz.prog 115 ⟨[sV b_0,.int .i64 v_1]⟩ w (Ret Q) :=
 qqc [.tmp 4] qbe Tryz.func115 rfl rfl rfl rfl (.pr 1 [sL 0,sI 1] (fun a b w=>qmb.j1 a b Q w) (.pr 1 [sL 0,sI 1,sL 5] (fun a b c w=>qmb.j2 a b c Q w) (.sq [sL 0,sL 5] (fun a b w=>qmb.j3 a b Q w) (.bk (.lo [sL 0] [sI 1,sL 5] (fun a b c w=>qmb.l1 a b c Q w) (fun nx1 a b c w=>qmb.b1 a b c Q nx1 w) fun nx1=>.lf)) .lf))) (by kernel_rfl) h
def qab.j2  (Q:VWP) (w:World):Prop :=
 Q (.tuple ⟨[.int .i64 0,.int .i64 0,.int .i64 5]⟩) w
def qab.j5 (b_0:Sl) (v_5:Int) (i_6:Int) (Q:VWP) (nx1:Sl→Int→Int→WP) (w:World):Prop :=
 lt (IntKind.i64.wrap (i_6+1)) fun x1 =>
 nx1 b_0 v_5 x1 w
def qab.j6 (b_0:Sl) (v_5:Int) (i_6:Int) (Q:VWP) (nx1:Sl→Int→Int→WP) (w:World):Prop :=
 (0:Int)≤7 ∧
 lt (qqi .i64 v_5 7) fun x2 =>
 ixS b_0.a b_0.len i_6 1 fun a3 =>
 ldI .u8 w a3 fun x4 =>
 lt (qli .u8 x4 127) fun x5 =>
 lt (IntKind.i64.wrap x5) fun x6 =>
 lt (orV .i64 x2 x6) fun x7 =>
 ixS b_0.a b_0.len i_6 1 fun a8 =>
 ldI .u8 w a8 fun x9 =>
 br (decide (x9 < 128)) (
 lt (IntKind.i64.wrap (i_6+1)) fun x10 =>
 Q (.tuple ⟨[.int .i64 x7,.int .i64 x10,.int .i64 0]⟩) w) (
 qab.j5 b_0 x7 i_6 Q nx1 w)
def qab.j4 (b_0:Sl) (v_5:Int) (i_6:Int) (Q:VWP) (nx1:Sl→Int→Int→WP) (w:World):Prop :=
 br (i_6 == (b_0.len:Int)) (
 Q (.tuple ⟨[.int .i64 0,.int .i64 0,.int .i64 3]⟩) w) (
 br (decide (i_6 > 0)) (
 lt (IntKind.i64.wrap (v_5+1)) fun x11 =>
 qab.j6 b_0 x11 i_6 Q nx1 w) (
 qab.j6 b_0 v_5 i_6 Q nx1 w))
def qab.b1 (b_0:Sl) (v_5:Int) (i_6:Int) (Q:VWP) (nx1:Sl→Int→Int→WP) (w:World):Prop :=
 br (decide (i_6 < 8)) (
 qab.j4 b_0 v_5 i_6 Q nx1 w) (
 qab.j2 Q w)
def qab.l1 (b_0:Sl) (v_5:Int) (i_6:Int) (Q:VWP) (w:World):Prop :=
 ∃ (I:Int→Int→WP) (μ:Int→Int→World→Nat),I v_5 i_6 w∧∀ v_5:Int,∀ i_6:Int,∀ w:World,I v_5 i_6 w→qab.b1 b_0 v_5 i_6 Q (fun b_0' v_5' i_6' w'=>(b_0'=b_0)∧I v_5' i_6' w'∧μ v_5' i_6' w' < μ v_5 i_6 w) w
def qab.j3 (b_0:Sl) (v_5:Int) (i_6:Int) (Q:VWP) (w:World):Prop :=
 qab.l1 b_0 v_5 i_6 Q w
def qab.j1 (b_0:Sl) (v_5:Int) (Q:VWP) (w:World):Prop :=
 qab.j3 b_0 v_5 0 Q w
def qab (b_0:Sl) (Q:VWP) (w:World):Prop :=
 qab.j1 b_0 0 Q w
theorem qab.ok (b_0:Sl) (Q:VWP) (w:World) (h:qab b_0 Q w):Calls Tryz.prog 119 ⟨[sV b_0]⟩ w (Ret Q) :=
 qqc [.tmp 2,.tmp 3,.tmp 4] qbe Tryz.func119 rfl rfl rfl rfl (.pr 1 [sL 0,sI 5] (fun a b w=>qab.j1 a b Q w) (.sq [] (fun  w=>qab.j2 Q w) (.sq [sL 0,sI 5,sI 6] (fun a b c w=>qab.j3 a b c Q w) .lf (.bk (.lo [sL 0] [sI 5,sI 6] (fun a b c w=>qab.l1 a b c Q w) (fun nx1 a b c w=>qab.b1 a b c Q nx1 w) fun nx1=>(.sq [sL 0,sI 5,sI 6] (fun a b c w=>qab.j4 a b c Q nx1 w) .lf (.sq [sL 0,sI 5,sI 6] (fun a b c w=>qab.j5 a b c Q nx1 w) (.bk (.pr 1 [sL 0,sI 5,sI 6] (fun a b c w=>qab.j6 a b c Q nx1 w) .lf)) .lf))))) .lf)) (by kernel_rfl) h
end Go.Proofs.YtejnemneenjliaaGreat
namespace Go.Proofs.YtejnemneenjliaaGreat
open Go Go.Proofs
set_option linter.unusedVariables false
set_option linter.unusedSimpArgs false
attribute [local irreducible] apK cpK mkK
theorem qys (k:IntKind) {x y:Int} (h:x % 2 ^ k.bits=y % 2 ^ k.bits):k.wrap x=k.wrap y:=by simp only [IntKind.wrap,h]
theorem wrap_mod (k:IntKind) (x:Int):k.wrap x % 2 ^ k.bits=x % 2 ^ k.bits:=by
 simp only [IntKind.wrap]
 split
 · rw [Int.sub_emod_right,Int.emod_emod]
 · rw [Int.emod_emod]
theorem or_byte64 {k:IntKind} (hb:k.bits=64) {v c:Int} (hc:0≤c∧c < 256):orV k (qqi k v 8) c=k.wrap (v * 256+c):=by
 obtain ⟨n,rfl⟩:∃ n:Nat,c=n:=⟨c.toNat,by omega⟩
 unfold orV qqi
 have h8:min (8:Int).toNat k.bits=8:=by rw [hb]; rfl
 rw [h8]
 have e1:=qwn k.bits (k.wrap (v * 2 ^ 8))
 rw [wrap_mod] at e1
 have e2:(BitVec.ofInt k.bits (n:Int)).toNat=n:=qpi _ _ (by rw [hb]; omega)
 rw [BitVec.toNat_or,e2]
 generalize (BitVec.ofInt k.bits (k.wrap (v * 2 ^ 8))).toNat=A at e1
 have h28:(2:Int) ^ 8=256:=by decide
 have h64:(2:Int) ^ k.bits=18446744073709551616:=by rw [hb]; decide
 rw [h28,h64] at e1
 obtain ⟨q,rfl⟩:∃ q,A=2 ^ 8 * q:=⟨A / 256,by omega⟩
 have:=Nat.two_pow_add_eq_or_of_lt (i:=8) (b:=n) (by omega) q
 rw [← this]
 apply qys
 rw [h64]
 have h28n:(2:Nat) ^ 8=256:=by decide
 rw [h28n] at e1 ⊢
 omega
theorem be_fold (k:IntKind) (hb:k.bits=64) (a:Int) (l:List Int) (c:Int) (hc:0≤c∧c < 256):orV k (qqi k (k.wrap (be l)) 8) c=k.wrap (be (l ++ [c])):=by
 rw [or_byte64 hb hc,be_snoc]
 apply qys
 have h64:(2:Int) ^ k.bits=18446744073709551616:=by rw [hb]; decide
 have:=wrap_mod k (be l)
 rw [h64] at this ⊢
 omega
theorem be_beJ (n:Nat) (v:Int):∀ j,j≤n→be (beJ n j v)=v / 2 ^ (8 * (n - j)) % 2 ^ (8 * j):=by
 intro j
 induction j with
 | zero=>intro _; simp [beJ,be,Int.emod_one]
 | succ j ih =>
   intro hj
   rw [beJ_succ,be_snoc,ih (by omega),show n - 1 - j=n - (j+1) by omega]
   have e1:v / 2 ^ (8 * (n - j))=v / 2 ^ (8 * (n - (j+1))) / 256:=by
    rw [show 8 * (n - j)=8 * (n - (j+1))+8 by omega,Int.pow_add,show (2:Int) ^ 8=256 by decide,Int.ediv_ediv_of_nonneg (Int.le_of_lt (Int.pow_pos (by decide)))]
   have e2:(2:Int) ^ (8 * (j+1))=256 * 2 ^ (8 * j):=by rw [show 8 * (j+1)=8+8 * j by omega,Int.pow_add]; rfl
   rw [e1,e2]
   generalize v / 2 ^ (8 * (n - (j+1)))=x
   have hp:(0:Int) < 2 ^ (8 * j):=Int.pow_pos (by decide)
   generalize (2:Int) ^ (8 * j)=m at hp
   have h1:=Int.mul_ediv_add_emod (x / 256) m
   have h2:=Int.mul_ediv_add_emod x 256
   have h3:=Int.emod_lt_of_pos (x / 256) hp
   have h4:=Int.emod_nonneg (x / 256) (show m ≠ 0 by omega)
   have h5:x=(x / 256 % m * 256+x % 256)+(x / 256 / m) * (256 * m):=by
    have e:(x / 256 / m) * (256 * m)=256 * (m * (x / 256 / m)):=by rw [← Int.mul_assoc,Int.mul_comm (x / 256 / m) 256,Int.mul_assoc,Int.mul_comm (x / 256 / m) m]
    rw [e]; omega
   have h6:=Int.add_mul_emod_self_right (x / 256 % m * 256+x % 256) (x / 256 / m) (256 * m)
   rw [← h5] at h6
   have h7:(x / 256 % m * 256+x % 256) % (256 * m)=x / 256 % m * 256+x % 256:=Int.emod_eq_of_lt (by omega) (by omega)
   rw [h6,h7]
theorem be_beJ' (n:Nat) (v:Int):be (beJ n n v)=v % 2 ^ (8 * n):=by
 rw [be_beJ n v n (Nat.le_refl _),Nat.sub_self,Nat.mul_zero,Int.pow_zero,Int.ediv_one]
theorem be_lt8 {l:List Int} (h:allB l) {n:Nat} (hn:l.length≤n):0≤be l∧be l < 2 ^ (8 * n):=by
 have:=be_lt l h
 refine ⟨this.1,Int.lt_of_lt_of_le this.2 ?_⟩
 have e:(256:Int) ^ l.length=2 ^ (8 * l.length):=by rw [show (256:Int)=2 ^ 8 by decide,← Int.pow_mul]
 rw [e]
 exact_mod_cast Nat.pow_le_pow_right (by decide) (show 8 * l.length≤8 * n by omega)
def tkS (xs:List Int) (at':Nat) (err n:Int):List Int × Nat × Int :=
 if err=0∧0≤n∧n≤xs.length - at' then ((xs.drop at').take n.toNat,at'+n.toNat,0) else ([],at',if err=0 then 3 else err)
def nuS (xs:List Int) (at':Nat) (err:Int) (n:Nat):Int × Nat × Int :=
 if 9223372036854775807 < be (tkS xs at' err n).1 then (0,at',5) else (be (tkS xs at' err n).1,(tkS xs at' err n).2)
def brA (rb:Nat) (x:List Int × Nat × Int):As:=exA fun s:Sl=>ifA (x.2.1≤x.1.length∧s.len≤s.cap∧allB x.1∧x.1.length≤1099511627776) <| andA (qzc rb [.slice s.a s.len s.cap,.int .i64 (x.2.1:Int),.int .i64 x.2.2]) (qcc 1 s (u8s x.1))
section
variable {F0:List Nat} {w0 w:World} {ps rest:List As} {rb at':Nat} {xs:List Int} {err:Int}
theorem brA_o (h:St F0 w0 w ps) [PkF brA rb ps (xs,at',err) rest]:∃ s:Sl,at'≤xs.length∧s.len≤s.cap∧s.len=xs.length∧allB xs∧xs.length≤1099511627776∧St F0 w0 w (qzc rb [.slice s.a s.len s.cap,.int .i64 (at':Int),.int .i64 err] :: qcc 1 s (u8s xs) :: rest):=by
 obtain ⟨s,h⟩:=(h.toF brA rb).exE
 obtain ⟨⟨h1,h2,h3,h4⟩,h⟩:=h.ifE
 have h:=h.split
 have hl:=h.at1.len
 rw [ql] at hl
 exact ⟨s,h1,h2,by simp only at hl; omega,h3,h4,h⟩
theorem brA_i {s:Sl} (h1:at'≤xs.length) (h2:s.len≤s.cap) (h3:allB xs) (h4:xs.length≤1099511627776) (h:St F0 w0 w (qzc rb [.slice s.a s.len s.cap,.int .i64 (at':Int),.int .i64 err] :: qcc 1 s (u8s xs) :: rest)):St F0 w0 w (brA rb (xs,at',err) :: rest) :=
 (h.join.ifI (c:=at'≤xs.length∧s.len≤s.cap∧allB xs∧xs.length≤1099511627776) ⟨h1,h2,h3,h4⟩).exI (p:=fun s:Sl=>ifA (at'≤xs.length∧s.len≤s.cap∧allB xs∧xs.length≤1099511627776) <| andA (qzc rb [.slice s.a s.len s.cap,.int .i64 (at':Int),.int .i64 err]) (qcc 1 s (u8s xs))) s
theorem qpp.c {s:Sl} {K:Ending→World→Prop} (h:St F0 w0 w ps) [Rdb F0 w0 s ps 1 (u8s xs)] (hx:allB xs) (hL:xs.length≤1099511627776)
 (hk:∀ nb w',St F0 w0 w' (brA nb (xs,0,0) :: ps)→K (.returned (.pointer (some ⟨nb,0,none⟩))) w'):Calls Tryz.prog 149 ⟨[.slice s.a s.len s.cap]⟩ w K:=by
 refine qfc (qpp.ok _ _ _ ?_)
 unfold qpp
 refine qid.c h (h.rdb s) (by omega) fun s1 w h=>⟨s1,rfl,?_⟩
 have hc:=h.cap (by decide)
 refine h.new fun nb w h=>?_
 exact hk nb w (brA_i (Nat.zero_le _) hc hx hL h)
theorem qlh.c {K:Ending→World→Prop} (h:St F0 w0 w ps) [PkF brA rb ps (xs,at',err) rest] (hk:K (.returned (.int .i64 err)) w):Calls Tryz.prog 154 ⟨[.pointer (some ⟨rb,0,none⟩)]⟩ w K:=by
 refine qfc (qlh.ok _ _ _ ?_)
 unfold qlh
 obtain ⟨s,h1,h2,h3,h4,h5,h⟩:=brA_o (rb:=rb) h
 exact qtd (h.fI hk)
theorem qvg.r {s:Sl} {K:Ending→World→Prop} (h:St F0 w0 w (qzc rb [.slice s.a s.len s.cap,.int .i64 (at':Int),.int .i64 err] :: rest)) (hl:at'≤s.len) (hL:s.len≤1099511627776)
 (hk:∀ w',St F0 w0 w' (qzc rb [.slice s.a s.len s.cap,.int .i64 (at':Int),.int .i64 err] :: rest)→K (.returned (.int .i64 (if err=0 then (s.len:Int) - at' else 0))) w'):Calls Tryz.prog 152 ⟨[.pointer (some ⟨rb,0,none⟩)]⟩ w K:=by
 refine qfc (qvg.ok _ _ _ ?_)
 unfold qvg
 refine qtd (h.fI (qne (fun g=>?_) (fun g=>?_)))
 · rw [if_neg (by simpa using g)] at hk
   exact hk w h
 · rw [if_pos (by simpa using g)] at hk
   refine h.drewK fun w h=>?_
   refine qtd (h.fL (qtd (h.fI ?_)))
   refine qn (qd (by simp only; omega) (by simp only; omega)) ?_
   exact hk w h
theorem qld.r {s:Sl} {n:Int} {K:Ending→World→Prop} (h:St F0 w0 w (qzc rb [.slice s.a s.len s.cap,.int .i64 (at':Int),.int .i64 err] :: rest)) (hl:at'≤s.len) (hc:s.len≤s.cap) (hL:s.len≤1099511627776)
 (hk:∀ (m:Nat) w',err=0→n=m→m≤s.len - at'→St F0 w0 w' (qzc rb [.slice s.a s.len s.cap,.int .i64 ((at'+m:Nat):Int),.int .i64 0] :: rest)→K (.returned (.slice (qgf s.a s.cap at' 1) (at'+m - at') (s.cap - at'))) w')
 (hk2:∀ w',¬(err=0∧0≤n∧n≤(s.len:Int) - at')→St F0 w0 w' (qzc rb [.slice s.a s.len s.cap,.int .i64 (at':Int),.int .i64 (if err=0 then 3 else err)] :: rest)→K (.returned (.slice none 0 0)) w') :
 Calls Tryz.prog 207 ⟨[.pointer (some ⟨rb,0,none⟩),.int .i64 n]⟩ w K:=by
 refine qfc (qld.ok _ _ _ _ ?_)
 unfold qld
 have bad:∀ (e:Int) w',e ≠ 0→e=(if err=0 then 3 else err)→¬(err=0∧0≤n∧n≤(s.len:Int) - at')→St F0 w0 w' (qzc rb [.slice s.a s.len s.cap,.int .i64 (at':Int),.int .i64 e] :: rest)→qld.j1 (some ⟨rb,0,none⟩) n (fun v w'=>K (.returned v) w') w':=by
  intro e w he e1 hn h
  unfold qld.j1
  refine qtd (h.fI (qde (by simpa using he) ?_))
  subst e1
  exact hk2 w hn h
 refine qtd (h.fI (qne (fun g=>?_) (fun g=>?_)))
 · have g:err=0:=by simpa using g
   subst g
   refine qnc (fun g=>?_) (fun g=>?_)
   · refine qtd (h.fst trivial fun w h=>?_)
     exact bad 3 w (by decide) rfl (by omega) h
   · refine qvg.r h hl hL fun w h=>⟨_,rfl,?_⟩
     rw [if_pos rfl]
     refine qnc (fun g2=>?_) (fun g2=>?_)
     · refine qtd (h.fst trivial fun w h=>?_)
       exact bad 3 w (by decide) rfl (by omega) h
     · obtain ⟨m,rfl⟩:∃ m:Nat,n=m:=⟨n.toNat,by omega⟩
       unfold qld.j1
       refine qtd (h.fI (qle (by simp) ?_))
       refine qtd (h.fI ?_)
       refine qn (qd (by omega) (by omega)) ?_
       refine qtd (h.fst trivial fun w h=>?_)
       refine h.drewK fun w h=>?_
       refine qtd (h.fL (qtd (h.fI ?_)))
       refine qn (qd (by omega) (by omega)) ?_
       refine qtd (h.fI ?_)
       refine qvk (n:=at'+m) (by omega) (by simp only; omega) ?_
       refine qvk (n:=at') (by omega) (by omega) (que ?_)
       exact hk m w rfl rfl (by omega) (by rw [Int.natCast_add]; exact h)
 · have g:err ≠ 0:=by simpa using g
   exact bad err w g (by rw [if_neg g]) (fun e=>g e.1) h
end
end Go.Proofs.YtejnemneenjliaaGreat
namespace Go.Proofs.YtejnemneenjliaaGreat
open Go Go.Proofs
set_option linter.unusedVariables false
set_option linter.unusedSimpArgs false
attribute [local irreducible] apK cpK mkK
theorem tkS_ok {xs:List Int} (hx:allB xs) (at':Nat) (err n:Int):allB (tkS xs at' err n).1∧(tkS xs at' err n).1.length≤n.toNat∧(tkS xs at' err n).1.length≤xs.length∧(at'≤xs.length→(tkS xs at' err n).2.1≤xs.length):=by
 unfold tkS
 split
 · refine ⟨fun x h=>hx x (List.mem_of_mem_drop (List.mem_of_mem_take h)),by simp; omega,by simp; omega,fun _=>by simp only; omega⟩
 · exact ⟨fun x h=>by simp at h,by simp,by simp,fun h=>h⟩
theorem take_snoc {xs:List Int} {i:Nat} (h:i < xs.length):xs.take (i+1)=xs.take i ++ [xs.getD i 0]:=by
 rw [List.take_succ_eq_append_getElem h]
 simp [List.getD,List.getElem?_eq_getElem h]
theorem qms {xs:List Int} (hx:allB xs) {i:Nat} (h:i < xs.length):0≤xs.getD i 0∧xs.getD i 0 < 256:=by
 have:xs.getD i 0=xs[i]:=by simp [List.getD,List.getElem?_eq_getElem h]
 rw [this]; exact hx _ (List.getElem_mem h)
section
variable {F0:List Nat} {w0 w:World} {ps rest:List As} {rb at':Nat} {xs:List Int} {err:Int}
theorem qpb.loop {t:Sl} {ys:List Int} {Q:VWP} (h:St F0 w0 w ps) [Rdb F0 w0 t ps 1 (u8s ys)] (hy:allB ys) (hL:ys.length≤1099511627776)
 (hk:∀ w',St F0 w0 w' ps→Q (.int .i64 (IntKind.i64.wrap (be ys))) w'):qpb.j3 0 t ((t.len:Nat):Int) 0 Q w:=by
 unfold qpb.j3
 have hl:=(h.rdb t).1
 rw [ql] at hl
 refine qkg (fun (i:Nat) (v i':Int) w'=>i'=i∧i≤ys.length∧v=IntKind.i64.wrap (be (ys.take i))∧St F0 w0 w' ps) (fun i=>ys.length - i) 0 ⟨rfl,by omega,rfl,h⟩ ?_
 clear h
 rintro i v i' w I μ ⟨rfl,hi,rfl,h⟩ hin
 unfold qpb.b1
 refine qnc (fun g=>?_) (fun g=>?_)
 · have hiy:i < ys.length:=by omega
   have hc:=qms hy hiy
   refine h.lx i rfl hiy ⟨by decide,que ?_⟩
   refine qn (qd (by omega) (by omega)) ?_
   refine qn (be_fold .i64 rfl 0 _ _ hc) ?_
   rw [← take_snoc hiy]
   refine qn (qd (by omega) (by omega)) ?_
   exact ⟨⟨rfl,rfl⟩,hin (i+1) _ _ _ ⟨by omega,by omega,rfl,h⟩ (by omega)⟩
 · have:i=ys.length:=by omega
   subst this
   rw [List.take_length]
   exact hk w h
theorem qpb.c {n:Nat} {K:Ending→World→Prop} (h:St F0 w0 w ps) [PkF brA rb ps (xs,at',err) rest]
 (hk:∀ w',St F0 w0 w' (brA rb (xs,(tkS xs at' err n).2) :: rest)→K (.returned (.int .i64 (IntKind.i64.wrap (be (tkS xs at' err n).1)))) w'):Calls Tryz.prog 205 ⟨[.pointer (some ⟨rb,0,none⟩),.int .i64 (n:Int)]⟩ w K:=by
 refine qfc (qpb.ok _ _ _ _ ?_)
 unfold qpb qpb.j1
 obtain ⟨s,h1,h2,h3,h4,h5,h⟩:=brA_o (rb:=rb) h
 refine qld.r h (by omega) h2 (by omega) (fun m w e1 e2 e3 g=>⟨⟨_,_,_⟩,rfl,?_⟩) (fun w hn h=>⟨⟨none,0,0⟩,rfl,?_⟩)
 · have e2:n=m:=by omega
   subst e2 e1
   have h:=g
   have et:tkS xs at' 0 n=((xs.drop at').take n,at'+n,0):=by unfold tkS; rw [if_pos ⟨rfl,by omega,by omega⟩,Int.toNat_natCast]
   rw [et] at hk
   haveI:=h.cutR s at' (at'+n) (s.cap - at') (ys:=(xs.drop at').take n) (by omega) (by omega) h2 (by rw [show at'+n - at'=n by omega])
   refine qpb.loop (t:=⟨qgf s.a s.cap at' 1,at'+n - at',s.cap - at'⟩) (ys:=(xs.drop at').take n) h (fun x hx=>h4 x (List.mem_of_mem_drop (List.mem_of_mem_take hx))) (by simp; omega) fun w h=>?_
   exact hk w (brA_i (by omega) h2 h4 h5 h)
 · have et:tkS xs at' err n=([],at',if err=0 then 3 else err):=by unfold tkS; rw [if_neg (by omega)]
   rw [et] at hk
   haveI:=Rdb.nil (F0:=F0) (w0:=w0) (ps:=qzc rb [.slice s.a s.len s.cap,.int .i64 (at':Int),.int .i64 (if err=0 then 3 else err)] :: qcc 1 s (u8s xs) :: rest) 0
   refine qpb.loop (t:=⟨none,0,0⟩) (ys:=[]) h (fun x hx=>by cases hx) (by simp) fun w h=>?_
   exact hk w (brA_i h1 h2 h4 h5 h)
theorem nuS_small {n:Nat} (hx:allB xs) (hn:n≤4):IntKind.i64.wrap (be (tkS xs at' err n).1)=(nuS xs at' err n).1∧(nuS xs at' err n).2=(tkS xs at' err n).2:=by
 have h:=tkS_ok hx at' err n
 have h2:=be_lt8 h.1 (n:=4) (by omega)
 have h3:(2:Int) ^ (8 * 4)=4294967296:=by decide
 rw [h3] at h2
 unfold nuS
 rw [if_neg (by omega),qd (by omega) (by omega)]
 exact ⟨rfl,rfl⟩
theorem qkh.c {K:Ending→World→Prop} (h:St F0 w0 w ps) [PkF brA rb ps (xs,at',err) rest] (hx:allB xs)
 (hk:∀ w',St F0 w0 w' (brA rb (xs,(nuS xs at' err 4).2) :: rest)→K (.returned (.int .i64 (nuS xs at' err 4).1)) w'):Calls Tryz.prog 150 ⟨[.pointer (some ⟨rb,0,none⟩)]⟩ w K:=by
 refine qfc (qkh.ok _ _ _ ?_)
 unfold qkh
 obtain ⟨e1,e2⟩:=nuS_small (at':=at') (err:=err) hx (show 4≤4 by decide)
 refine qpb.c (n:=4) h fun w h=>⟨_,rfl,?_⟩
 rw [← e2] at h
 rw [e1]
 exact hk w h
end
end Go.Proofs.YtejnemneenjliaaGreat
namespace Go.Proofs.YtejnemneenjliaaGreat
set_option linter.unusedVariables false
set_option linter.unusedSimpArgs false
def qdi (u:Nat):List Int:=if h:u=0 then [] else qdi ((u - 1) / 128) ++ [(((u - 1) % 128+128:Nat):Int)]
termination_by u
decreasing_by omega
def qsc (v:Nat):List Int:=qdi (v / 128) ++ [((v % 128:Nat):Int)]
theorem ofsHi_big (u:Nat):∀ y ∈ qdi u,128≤y:=by
 induction u using qdi.induct with
 | case1=>rw [qdi,dif_pos rfl]; simp
 | case2 u h ih =>
   rw [qdi,dif_neg h]
   intro y hy
   rcases List.mem_append.1 hy with hy | hy
   · exact ih y hy
   · have:=List.mem_singleton.1 hy; omega
theorem qrh (u:Nat):(qdi u).length=if u=0 then 0 else (qdi ((u - 1) / 128)).length+1:=by
 conv=>lhs; rw [qdi]
 split <;> simp
def ofsDec:Nat→Int→List Int→Int × Int × Int
 | i,_,[]=>if 8≤i then (0,0,5) else (0,0,3)
 | i,v,c :: r=>if i=8 then (0,0,5) else
   if c < 128 then ((if 0 < i then (v+1) * 128 else v)+c % 128,i+1,0) else ofsDec (i+1) ((if 0 < i then (v+1) * 128 else v)+c % 128) r
theorem ofsDec_hi (t:List Int):∀ (u:Nat),(qdi u).length≤7→ofsDec 0 0 (qdi u ++ t)=ofsDec (qdi u).length (if u=0 then 0 else (u:Int) - 1) t:=by
 intro u
 induction u using qdi.induct generalizing t with
 | case1=>intro _; rw [qdi,dif_pos rfl]; rfl
 | case2 u h ih =>
   intro hl
   rw [qrh,if_neg h] at hl ⊢
   rw [qdi,dif_neg h,List.append_assoc,ih _ (by omega),List.singleton_append,ofsDec,if_neg (by omega),if_neg (by omega)]
   congr 1
   rw [if_neg h]
   by_cases h0:(u - 1) / 128=0
   · have:(qdi ((u - 1) / 128)).length=0:=by rw [h0,qrh,if_pos rfl]
     rw [this,if_neg (by omega),if_pos h0]
     omega
   · have:0 < (qdi ((u - 1) / 128)).length:=by rw [qrh,if_neg h0]; omega
     rw [if_pos this,if_neg h0]
     omega
theorem qhp (t:List Int) (v:Nat) (h:(qsc v).length≤8):ofsDec 0 0 (qsc v ++ t)=((v:Int),((qsc v).length:Int),0):=by
 have hl:(qsc v).length=(qdi (v / 128)).length+1:=by simp [qsc]
 rw [hl] at h ⊢
 rw [qsc,List.append_assoc,ofsDec_hi _ _ (by omega),List.singleton_append,ofsDec,if_neg (by omega),if_pos (by omega)]
 refine Prod.ext ?_ (Prod.ext rfl rfl)
 by_cases h0:v / 128=0
 · have:(qdi (v / 128)).length=0:=by rw [h0,qrh,if_pos rfl]
   show (if 0 < (qdi (v / 128)).length then ((if v / 128=0 then (0:Int) else ((v / 128:Nat):Int) - 1)+1) * 128 else (if v / 128=0 then (0:Int) else ((v / 128:Nat):Int) - 1))+((v % 128:Nat):Int) % 128=(v:Int)
   rw [this,if_neg (by omega),if_pos h0]
   omega
 · have:0 < (qdi (v / 128)).length:=by rw [qrh,if_neg h0]; omega
   simp only [this,h0,if_true,if_false]
   omega
theorem qdq:∀ (n u:Nat),u < 128 ^ n→(qdi u).length≤n:=by
 intro n
 induction n with
 | zero=>intro u h; rw [qrh,if_pos (by omega)]; omega
 | succ n ih =>
   intro u h
   rw [qrh]
   split
   · omega
   · have:=ih ((u - 1) / 128) (by rw [Nat.pow_succ] at h; omega); omega
end Go.Proofs.YtejnemneenjliaaGreat
namespace Go.Proofs.YtejnemneenjliaaGreat
open Go Go.Proofs
set_option linter.unusedVariables false
set_option linter.unusedSimpArgs false
attribute [local irreducible] apK cpK mkK
theorem and127 {k:IntKind} (hk:7 < k.bits) (x:Int):qli k x 127=x % 128:=by
 have h:=qtj k x hk
 rw [show (2:Int) ^ 7 - 1=127 by decide,show (2:Int) ^ 7=128 by decide] at h
 exact h
theorem or128 {x:Int} (h:0≤x∧x < 128):orV .i64 x 128=x+128:=by
 obtain ⟨n,rfl⟩:∃ n:Nat,x=n:=⟨x.toNat,by omega⟩
 have e:=qgp .i64 (a:=n) (b:=1) (t:=7) (by omega) (by show n+1 * 2 ^ 7 < 2 ^ 63; omega)
 rw [show ((1:Nat):Int) * 2 ^ 7=128 by decide] at e
 exact e
theorem shr7 (n:Nat):qbj .i64 (n:Int) 7=((n / 128:Nat):Int):=by
 have h:=qti .i64 (n:Int) (t:=7) (by decide)
 rw [show (2:Int) ^ 7=128 by decide] at h
 rw [Int.natCast_ediv]
 exact h
section
variable {F0:List Nat} {w0 w:World} {ps rest:List As} {xs:List Int}
theorem qid.d {s:Sl} {K:Ending→World→Prop} (h:St F0 w0 w ps) [Rdb F0 w0 s ps 1 (u8s xs)] (hlen:xs.length≤35184372088832)
 (hk:∀ s' w',St F0 w0 w' (qcc 1 s' (u8s xs) :: ps)→K (.returned (.slice s'.a s'.len s'.cap)) w'):Calls Tryz.prog 112 ⟨[.slice s.a s.len s.cap]⟩ w K :=
 qid.c h (h.rdb s) hlen hk
theorem qfd.d {s:Sl} {ys:List Int} {K:Ending→World→Prop} (h:St F0 w0 w (qcc 1 s (u8s ys) :: ps))
 (hk:∀ s':Sl,s'.len=ys.length→s'.cap=s'.len→St F0 w0 w (rdA 1 s' (u8s ys) :: ps)→K (.returned (.slice s'.a s'.len s'.cap)) w):Calls Tryz.prog 68 ⟨[.slice s.a s.len s.cap]⟩ w K:=by
 have hl:=h.len
 rw [ql] at hl
 exact qfd.c h.ro (h.cap (by decide)) fun s' h1 h2 h=>hk s' (by omega) (by omega) h
theorem qic.c {s:Sl} {K:Ending→World→Prop} (h:St F0 w0 w ps) [Rdb F0 w0 s ps 1 (u8s xs)] (hx:allB xs) (hL:xs.length≤1000000000)
 (hk:∀ w',St F0 w0 w' ps→K (.returned (.tuple ⟨[.int .i64 (ofsDec 0 0 xs).1,.int .i64 (ofsDec 0 0 xs).2.1,.int .i64 (ofsDec 0 0 xs).2.2]⟩)) w') :
 Calls Tryz.prog 231 ⟨[.slice s.a s.len s.cap]⟩ w K:=by
 refine qfc (qic.ok _ _ _ ?_)
 unfold qic qic.j1 qic.j3
 have hl:=(h.rdb s).1
 rw [ql] at hl
 refine qkg (fun (i:Nat) (v i':Int) w'=>i'=i∧i≤xs.length∧i≤8∧0≤v∧(i=0→v=0)∧(0 < i→v * 128+384≤130 * 128 ^ i)∧ofsDec i v (xs.drop i)=ofsDec 0 0 xs∧St F0 w0 w' ps) (fun i=>xs.length - i) 0 ⟨rfl,by omega,by omega,by omega,fun _=>rfl,fun g=>by omega,rfl,h⟩ ?_
 clear h
 rintro i v i' w I μ ⟨rfl,hi,hi9,hv0,hz,hv1,hd,h⟩ hin
 unfold qic.b1
 refine qnc (fun g=>?_) (fun g=>?_)
 · have hix:i < xs.length:=by omega
   have hc:=qms hx hix
   have ed:xs.drop i=xs.getD i 0 :: xs.drop (i+1):=by
    rw [List.drop_eq_getElem_cons hix]
    simp [List.getD,List.getElem?_eq_getElem hix]
   unfold qic.j4
   refine h.lx i rfl hix ?_
   rw [ed] at hd
   generalize xs.getD i 0=c at hc hd ⊢
   rw [ofsDec] at hd
   unfold qic.j6
   refine qne (fun g2=>?_) (fun g2=>?_)
   · have:i=8:=by have:(i:Int)=8:=by simpa using g2
                  omega
     rw [if_pos this] at hd
     rw [← hd] at hk
     exact hk w h
   · have:i ≠ 8:=by have:¬ (i:Int)=8:=by simpa using g2
                    omega
     rw [if_neg this] at hd
     have hP:(128:Int) ^ i≤128 ^ 7:=by exact_mod_cast Nat.pow_le_pow_right (by decide) (show i≤7 by omega)
     rw [show (128:Int) ^ 7=562949953421312 by decide] at hP
     have hP0:(0:Int) < 128 ^ i:=Int.pow_pos (by decide)
     have hP1:(128:Int) ^ (i+1)=128 * 128 ^ i:=by rw [Int.pow_succ,Int.mul_comm]
     have end7:∀ u:Int,0≤u→u≤1000000000000000→(if 0 < i then (v+1) * 128 else v)=u * 128→(0 < i→u=v+1)→qic.j7 s (u * 128) (i:Int) c s ((s.len:Nat):Int) (i:Int) (fun v w'=>K (.returned v) w') (fun b_0' t7' t8' v_2' t9' w'=>(b_0'=s∧t7'=s∧t8'=((s.len:Nat):Int))∧I v_2' t9' w'∧μ v_2' t9' w' < μ v i w) w:=by
      intro u hu0 hu1 hu2 hu3
      rw [hu2] at hd
      obtain ⟨u,rfl⟩:∃ t:Nat,u=t:=⟨u.toNat,by omega⟩
      obtain ⟨m,hm⟩:∃ m:Nat,c % 128=m:=⟨(c % 128).toNat,by omega⟩
      rw [hm] at hd
      unfold qic.j7
      refine qn (and127 (by decide) _) ?_
      refine qn (qd (by omega) (by omega)) ?_
      rw [hm]
      have eo:=qlo .i64 (a:=m) (b:=u) (t:=7) (by omega) (by show m+u * 2 ^ 7 < 2 ^ 63; omega)
      rw [show (2:Int) ^ 7=128 by decide] at eo
      refine qn eo ?_
      rw [Int.add_comm (m:Int)]
      refine qnc (fun g3=>?_) (fun g3=>?_)
      · rw [if_pos g3] at hd
        refine qn (qd (by omega) (by omega)) ?_
        rw [← hd] at hk
        exact hk w h
      · rw [if_neg g3] at hd
        unfold qic.j5
        refine qn (qd (by omega) (by omega)) ?_
        refine ⟨⟨rfl,rfl,rfl⟩,hin (i+1) _ _ _ ⟨by omega,by omega,by omega,by omega,by omega,fun _=>?_,hd,h⟩ (by omega)⟩
        by_cases h0:0 < i
        · have h5:=hv1 h0
          have h6:=hu3 h0
          omega
        · have h1:i=0:=by omega
          have h2:=hz h1
          rw [if_neg h0] at hu2
          subst h1
          rw [hP1]
          simp only [Int.pow_zero] at hP ⊢
          omega
     refine qnc (fun g3=>?_) (fun g3=>?_)
     · have h0:0 < i:=by omega
       have h5:=hv1 h0
       refine qn (qd (by omega) (by omega)) ?_
       refine ⟨by decide,?_⟩
       have es:=qfi .i64 (x:=v+1) (t:=7) (by decide) (by omega) (by rw [show (2:Int) ^ (IntKind.i64.bits - 1)=9223372036854775808 by decide,show (2:Int) ^ 7=128 by decide]; omega)
       rw [show (2:Int) ^ 7=128 by decide] at es
       refine qn es ?_
       exact end7 (v+1) (by omega) (by omega) (by rw [if_pos h0]) (fun _=>rfl)
     · have h0:i=0:=by omega
       have:=end7 0 (by omega) (by omega) (by rw [if_neg (by omega),hz h0]; rfl) (fun g=>by omega)
       rw [show (0:Int) * 128=v by rw [hz h0]; rfl] at this
       exact this
 · have:i=xs.length:=by omega
   subst this
   rw [List.drop_length,ofsDec] at hd
   unfold qic.j2
   rw [← hd] at hk
   refine qnc (fun g=>?_) (fun g=>?_)
   · rw [if_pos (by omega)] at hk
     exact hk w h
   · rw [if_neg (by omega)] at hk
     exact hk w h
def rvL (xs:List Int) (i:Nat):List Int:=(List.range xs.length).map fun j=>if j < i ∨ xs.length - i≤j then xs.getD (xs.length - 1 - j) 0 else xs.getD j 0
theorem qtg (xs:List Int) (i:Nat):(rvL xs i).length=xs.length:=by simp [rvL]
theorem qcn (xs:List Int) (i:Nat) {j:Nat} (h:j < xs.length):(rvL xs i).getD j 0=if j < i ∨ xs.length - i≤j then xs.getD (xs.length - 1 - j) 0 else xs.getD j 0:=by
 unfold rvL
 rw [List.getD_eq_getElem?_getD,List.getElem?_map,List.getElem?_range h]
 rfl
theorem ext_getD {l m:List Int} (hl:l.length=m.length) (h:∀ j,j < l.length→l.getD j 0=m.getD j 0):l=m:=by
 apply List.ext_getElem hl
 intro j h1 h2
 have:=h j h1
 simpa [List.getD,List.getElem?_eq_getElem h1,List.getElem?_eq_getElem h2] using this
theorem getD_set {l:List Int} {i j:Nat} {v:Int} (h:i < l.length):(l.set i v).getD j 0=if i=j then v else l.getD j 0:=by
 rw [List.getD_eq_getElem?_getD,List.getElem?_set]
 split
 · rename_i e; subst e; simp [h]
 · rw [List.getD_eq_getElem?_getD]
theorem rvL_zero (xs:List Int):rvL xs 0=xs:=ext_getD (qtg xs 0) fun j h=>by
 rw [qtg] at h
 rw [qcn xs 0 h,if_neg (by omega)]
theorem getD_reverse {xs:List Int} {j:Nat} (h:j < xs.length):xs.reverse.getD j 0=xs.getD (xs.length - 1 - j) 0:=by
 rw [List.getD_eq_getElem?_getD,List.getElem?_reverse h,List.getD_eq_getElem?_getD]
theorem rvL_end {xs:List Int} {i:Nat} (h:xs.length - 1≤2 * i) (h2:2 * i≤xs.length+1):rvL xs i=xs.reverse:=ext_getD (by rw [qtg,List.length_reverse]) fun j hj=>by
 rw [qtg] at hj
 rw [qcn xs i hj,getD_reverse hj]
 split
 · rfl
 · congr 1; omega
theorem rvL_step {xs:List Int} {i:Nat} (h:i < xs.length - 1 - i):((rvL xs i).set i ((rvL xs i).getD (xs.length - 1 - i) 0)).set (xs.length - 1 - i) ((rvL xs i).getD i 0)=rvL xs (i+1):=ext_getD (by simp [rvL]) fun j hj=>by
 simp only [List.length_set,qtg] at hj
 have e1:(rvL xs i).getD (xs.length - 1 - i) 0=xs.getD (xs.length - 1 - i) 0:=by rw [qcn xs i (by omega),if_neg (by omega)]
 have e2:(rvL xs i).getD i 0=xs.getD i 0:=by rw [qcn xs i (by omega),if_neg (by omega)]
 rw [getD_set (by rw [List.length_set,qtg]; omega),getD_set (by rw [qtg]; omega),e1,e2,qcn xs i hj,qcn xs (i+1) hj]
 by_cases h1:xs.length - 1 - i=j
 · rw [if_pos h1,if_pos (by omega)]
   congr 1; omega
 · rw [if_neg h1]
   by_cases h2:i=j
   · rw [if_pos h2,if_pos (by omega)]
     congr 1; omega
   · rw [if_neg h2]
     by_cases h3:j < i ∨ xs.length - i≤j
     · rw [if_pos h3,if_pos (by omega)]
     · rw [if_neg h3,if_neg (by omega)]
theorem qpc.c {s:Sl} {K:Ending→World→Prop} (h:St F0 w0 w ps) [PkO s ps 1 (u8s xs) rest] (hL:xs.length≤1000000000000)
 (hk:∀ w',St F0 w0 w' (qcc 1 s (u8s xs.reverse) :: rest)→K (.returned (.tuple ⟨[]⟩)) w'):Calls Tryz.prog 173 ⟨[.slice s.a s.len s.cap]⟩ w K:=by
 refine qfc (qpc.ok _ _ _ ?_)
 unfold qpc
 have h:=h.toO s
 have hl:=h.len
 rw [ql] at hl
 refine qn (qd (by omega) (by omega)) ?_
 unfold qpc.j1
 refine qkg (fun (i:Nat) (i' j':Int) w'=>i'=i∧j'=(xs.length:Int) - 1 - i∧2 * i≤xs.length+1∧St F0 w0 w' (qcc 1 s (u8s (rvL xs i)) :: rest)) (fun i=>xs.length - i) 0 ⟨rfl,by omega,by omega,by rw [rvL_zero]; exact h⟩ ?_
 clear h
 rintro i i' j' w I μ ⟨rfl,rfl,hi,h⟩ hin
 unfold qpc.b1
 refine qnc (fun g=>?_) (fun g=>?_)
 · have hlt:i < xs.length - 1 - i:=by omega
   refine h.drewK fun w h=>?_
   refine h.lx (xs.length - 1 - i) (by omega) (by rw [qtg]; omega) ?_
   refine h.lx i rfl (by rw [qtg]; omega) ?_
   refine h.sx i rfl (by rw [qtg]; omega) fun w h=>?_
   refine h.sx (xs.length - 1 - i) (by omega) (by rw [List.length_set,qtg]; omega) fun w h=>?_
   refine qn (qd (by omega) (by omega)) ?_
   refine qn (qd (by omega) (by omega)) ?_
   rw [rvL_step hlt] at h
   exact ⟨rfl,hin (i+1) _ _ _ ⟨by omega,by omega,by omega,h⟩ (by omega)⟩
 · rw [rvL_end (by omega) hi] at h
   exact hk w h
theorem qjc.c {s:Sl} {n:Nat} {K:Ending→World→Prop} (h:St F0 w0 w ps) [Rdb F0 w0 s ps 1 (u8s xs)] (hL:xs.length≤1000000000) (hn:n < 9223372036854775808)
 (hk:∀ s' w',s'.len=xs.length+(qsc n).length→s'.cap=s'.len→St F0 w0 w' (rdA 1 s' (u8s (xs ++ qsc n)) :: ps)→K (.returned (.slice s'.a s'.len s'.cap)) w') :
 Calls Tryz.prog 113 ⟨[.slice s.a s.len s.cap,.int .i64 (n:Int)]⟩ w K:=by
 refine qfc (qjc.ok _ _ _ _ ?_)
 unfold qjc qjc.j1
 refine qid.d h (by omega) fun s1 w h=>⟨s1,rfl,?_⟩
 refine qnc (fun g=>by omega) fun _=>?_
 refine qn (and127 (by decide) _) ?_
 refine qn (show IntKind.u8.wrap ((n:Int) % 128)=((n % 128:Nat):Int) by rw [qck]; omega) ?_
 refine h.new fun nb w h=>?_
 have h:=h.ownB (n:=1) rfl
 unfold qjc.j2 qjc.j4
 refine ⟨by decide,qn (shr7 n) ?_⟩
 have h9:=qdq 9 (n / 128) (by rw [show (128:Nat) ^ 9=9223372036854775808 by decide]; omega)
 refine qkg (fun (a:Nat × List Int) (v:Int) (o:Sl) w'=>v=a.1∧a.1≤n∧qdi a.1 ++ a.2.reverse=qdi (n / 128)∧St F0 w0 w' (qcc 1 o (u8s ([((n % 128:Nat):Int)] ++ a.2)) :: qcc 1 s1 (u8s xs) :: ps)) (fun a=>a.1) (n / 128,[]) ⟨rfl,by simp only; omega,by simp,by simpa using h⟩ ?_
 clear h
 rintro ⟨v,p⟩ v' o w I μ ⟨rfl,hv,hp,h⟩ hin
 simp only at hv hp h hin ⊢
 have hpl:p.length≤9:=by have:=congrArg List.length hp; rw [List.length_append,List.length_reverse] at this; omega
 unfold qjc.b1
 refine qnc (fun g=>?_) (fun g=>?_)
 · refine qn (show IntKind.i64.wrap ((v:Int) - 1)=((v - 1:Nat):Int) by rw [qd (by omega) (by omega)]; omega) ?_
   refine qn (and127 (by decide) _) ?_
   refine qn (or128 (by omega)) ?_
   refine qn (show IntKind.u8.wrap (((v - 1:Nat):Int) % 128+128)=(((v - 1) % 128+128:Nat):Int) by rw [qck]; omega) ?_
   refine h.pushI (by rw [List.length_append,List.length_singleton]; omega) fun o2 w h=>?_
   refine ⟨by decide,qn (shr7 (v - 1)) ?_⟩
   refine ⟨rfl,hin ((v - 1) / 128,p ++ [(((v - 1) % 128+128:Nat):Int)]) _ _ _ ⟨rfl,by simp only; omega,?_,?_⟩ (by simp only; omega)⟩
   · rw [← hp,List.reverse_append]
     conv=>rhs; rw [qdi,dif_neg (by omega),List.append_assoc]
     rfl
   · rw [List.append_assoc] at h
     exact h
 · have hv0:v=0:=by omega
   subst hv0
   have e0:qdi 0=[]:=by rw [qdi,dif_pos rfl]
   rw [e0,List.nil_append] at hp
   unfold qjc.j3
   refine qpc.c h (by rw [List.length_append,List.length_singleton]; omega) fun w h=>⟨rfl,?_⟩
   have e:([((n % 128:Nat):Int)] ++ p).reverse=qsc n:=by rw [List.reverse_append,hp]; rfl
   rw [e] at h
   have hl2:(qsc n).length≤10:=by rw [qsc,List.length_append]; simp; omega
   refine h.appI (s:=s1) (s2:=o) (by omega) fun s2 w h=>?_
   refine qfd.d h fun s3 h1 h2 h=>⟨s3,rfl,?_⟩
   exact hk s3 w (by rw [h1,List.length_append]) h2 (h.tail fun _ _ _ h=>h.drop)
end
end Go.Proofs.YtejnemneenjliaaGreat
namespace Go.Proofs.YtejnemneenjliaaGreat
set_option linter.unusedVariables false
set_option linter.unusedSimpArgs false
theorem lext {l m:List Int} (hl:l.length=m.length) (h:∀ j,j < l.length→l.getD j 0=m.getD j 0):l=m:=by
 apply List.ext_getElem hl
 intro j h1 h2
 have:=h j h1
 simpa [List.getD,List.getElem?_eq_getElem h1,List.getElem?_eq_getElem h2] using this
theorem getD_setL {l:List Int} {i j:Nat} {v:Int} (h:i < l.length):(l.set i v).getD j 0=if i=j then v else l.getD j 0:=by
 rw [List.getD_eq_getElem?_getD,List.getElem?_set]
 split
 · rename_i e; subst e; simp [h]
 · rw [List.getD_eq_getElem?_getD]
theorem qji {xs:List Int} {i:Nat} (h:i < xs.length):xs.take (i+1)=xs.take i ++ [xs.getD i 0]:=by
 rw [List.take_succ_eq_append_getElem h]
 simp [List.getD,List.getElem?_eq_getElem h]
theorem qes {xs:List Int} {i:Nat} (h:i < xs.length):xs.drop i=xs.getD i 0 :: xs.drop (i+1):=by
 rw [List.drop_eq_getElem_cons h]
 simp [List.getD,List.getElem?_eq_getElem h]
theorem qee {xs:List Int} {i:Nat} (h:i < xs.length):xs.getD i 0 ∈ xs:=by simp [List.getD,List.getElem?_eq_getElem h]
theorem set_nx {l:List Int} {k i:Nat} {v:Int} (hi:i=l.length) (hk:0 < k):(l ++ List.replicate k 0).set i v=(l ++ [v]) ++ List.replicate (k - 1) 0:=by
 subst hi
 rw [List.set_append_right _ _ (Nat.le_refl _),Nat.sub_self]
 cases k with
 | zero=>omega
 | succ k =>
   rw [List.replicate_succ,List.set_cons_zero,List.append_assoc]
   rfl
def qfj (n:Nat) (f:Nat→Int):List Int:=(List.range n).map f
theorem qad (n:Nat) (f:Nat→Int):(qfj n f).length=n:=by simp [qfj]
theorem qbf {n i:Nat} {f:Nat→Int} (h:i < n):(qfj n f).getD i 0=f i:=by
 unfold qfj
 rw [List.getD_eq_getElem?_getD,List.getElem?_map,List.getElem?_range h]
 rfl
theorem qpd {n:Nat} {f g:Nat→Int} (h:∀ i,i < n→f i=g i):qfj n f=qfj n g:=by
 unfold qfj
 exact List.map_congr_left fun i hi=>h i (List.mem_range.1 hi)
theorem qpj {n i:Nat} {f:Nat→Int} {v:Int}:(qfj n f).set i v=qfj n fun m=>if m=i then v else f m:=by
 apply lext
 · simp [qfj]
 · intro j hj
   rw [List.length_set,qad] at hj
   rw [qbf hj]
   by_cases hi:i < n
   · rw [getD_setL (by rw [qad]; exact hi),qbf hj]
     by_cases e:i=j
     · rw [if_pos e,if_pos e.symm]
     · rw [if_neg e,if_neg fun h=>e h.symm]
   · rw [List.set_eq_of_length_le (by rw [qad]; omega),qbf hj,if_neg (by omega)]
theorem qpk (n:Nat):List.replicate n 0=qfj n fun _=>0:=by
 apply lext
 · simp [qfj]
 · intro j hj
   have hj:j < n:=by simpa using hj
   rw [qbf hj]
   simp [List.getD,List.getElem?_replicate,hj]
end Go.Proofs.YtejnemneenjliaaGreat
