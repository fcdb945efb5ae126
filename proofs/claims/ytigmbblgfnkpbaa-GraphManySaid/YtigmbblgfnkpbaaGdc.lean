/- Own texts as one, only what is reached (shake.py). -/
import Derived.Test.YtigmbblgfnkpbaaGdb
import Derived.Sort.Statements
import Derived.Test.YtigmbblgfnkpbaaProg
set_option linter.unusedSectionVars false
namespace Go.Proofs.Ytigmbblgfnkpbaa
open Go Go.Proofs
set_option linter.unusedVariables false
set_option maxRecDepth 100000
def qjb.j2 (out_3:(Option Nat)) (Q:VWP) (w:World):Prop :=
 Q (.map out_3) w
def qjb.b1 (out_3:(Option Nat)) (t9:Sl) (t10:Int) (t11:Int) (Q:VWP) (nx1:(Option Nat)→Sl→Int→Int→WP) (w:World):Prop :=
 br (decide (t11 < t10)) (
 ixS t9.a t9.len t11 42 fun a1 =>
 ldA w a1 42 fun c2 =>
 nw w (zc Try.prog 31) 31 fun a3 w4 =>
 (c2).size=42 ∧
 stA w4 a3 c2 fun w5 =>
 ldA w5 (Addr.add a3 0) 20 fun c6 =>
 ∃ r7:(Array Value),∃ r8:Bool,lkR Try.prog 68 (.map out_3) (.agg c6) true w5 (.tuple ⟨[.agg r7,.bool r8]⟩) ∧
 nw w5 (zc Try.prog 31) 31 fun a9 w10 =>
 (r7).size=42 ∧
 stA w10 a9 r7 fun w11 =>
 br (!r8) (
 ldA w11 (Addr.add a3 0) 20 fun c12 =>
 ldA w11 a3 42 fun c13 =>
 ∃ w14:World,muR Try.prog 68 (.map out_3) (.agg c12) (.agg c13) w11 w14 ∧
 lt (IntKind.i64.wrap (t11+1)) fun x15 =>
 nx1 out_3 t9 t10 x15 w14) (
 lt (IntKind.i64.wrap (t11+1)) fun x16 =>
 nx1 out_3 t9 t10 x16 w11)) (
 qjb.j2 out_3 Q w)
def qjb.l1 (out_3:(Option Nat)) (t9:Sl) (t10:Int) (t11:Int) (Q:VWP) (w:World):Prop :=
 ∃ (I:Int→WP) (μ:Int→World→Nat),I t11 w∧∀ t11:Int,∀ w:World,I t11 w→qjb.b1 out_3 t9 t10 t11 Q (fun out_3' t9' t10' t11' w'=>(out_3'=out_3∧t9'=t9∧t10'=t10)∧I t11' w'∧μ t11' w' < μ t11 w) w
def qjb.j3 (out_3:(Option Nat)) (t9:Sl) (t10:Int) (t11:Int) (Q:VWP) (w:World):Prop :=
 qjb.l1 out_3 t9 t10 t11 Q w
def qjb.j1 (l_0:Sl) (out_3:(Option Nat)) (Q:VWP) (w:World):Prop :=
 qjb.j3 out_3 l_0 (l_0.len:Int) 0 Q w
def qjb (l_0:Sl) (Q:VWP) (w:World):Prop :=
 ∃ n17:Nat,∃ w18:World,mmR Try.prog 68 none w n17 w18 ∧
 qjb.j1 l_0 (some n17) Q w18
theorem qjb.ok (l_0:Sl) (Q:VWP) (w:World) (h:qjb l_0 Q w):Calls Try.prog 29 ⟨[sV l_0]⟩ w (Ret Q) :=
 qqb [.tmp 2] qed Try.func29 rfl rfl rfl rfl (.pr 1 [sL 0,(3,.M)] (fun a b w=>qjb.j1 a b Q w) (.sq [(3,.M)] (fun a w=>qjb.j2 a Q w) (.sq [(3,.M),sL 9,sI 10,sI 11] (fun a b c d w=>qjb.j3 a b c d Q w) .lf (.bk (.lo [(3,.M),sL 9,sI 10] [sI 11] (fun a b c d w=>qjb.l1 a b c d Q w) (fun nx1 a b c d w=>qjb.b1 a b c d Q nx1 w) fun nx1=>.lf))) .lf)) (by kernel_rfl) h
def qi.j5 (t7:(Option Nat)) (Q:VWP) (w:World):Prop :=
 Q (.map t7) w
def qi.b1 (t7:(Option Nat)) (t125:Value) (Q:VWP) (nx1:(Option Nat)→Value→WP) (w:World):Prop :=
 ∃ b1:Bool,∃ r2:List Value,∃ w3:World,nxR Try.prog t125 false 0 w b1 r2 w3 ∧
 br b1 (
 ∃ c4:Array Value,∃ x5:Int,enR Try.prog t125 w3 (.agg c4) (.int .i64 x5) ∧
 nw w3 (zc Try.prog 28) 28 fun a6 w7 =>
 (c4).size=20 ∧
 stA w7 a6 c4 fun w8 =>
 br (decide (x5 > 0)) (
 ldA w8 a6 20 fun c9 =>
 ∃ w10:World,deR Try.prog [49,28] 0 [.map t7,.agg c9] w8 w10 ∧
 nx1 t7 t125 w10) (
 nx1 t7 t125 w8)) (
 qi.j5 t7 Q w3)
def qi.l1 (t7:(Option Nat)) (t125:Value) (Q:VWP) (w:World):Prop :=
 ∃ (I:WP) (μ:World→Nat),I  w∧∀ w:World,I  w→qi.b1 t7 t125 Q (fun t7' t125' w'=>(t7'=t7∧t125'=t125)∧I  w'∧μ  w' < μ  w) w
def qi.j6 (t7:(Option Nat)) (t125:Value) (Q:VWP) (w:World):Prop :=
 qi.l1 t7 t125 Q w
def qi.j4 (t5:(Option Nat)) (t7:(Option Nat)) (Q:VWP) (w:World):Prop :=
 ∃ n11:Nat,∃ w12:World,rgR Try.prog 49 (.map t5) w n11 w12 ∧
 qi.j6 t7 (.pointer (some (⟨n11,0,none⟩:Addr))) Q w12
def qi.j12 (t5:(Option Nat)) (t6:(Option Nat)) (t7:(Option Nat)) (t8:Sl) (t16:Addr) (t93:Sl) (t94:Int) (t95:Int) (Q:VWP) (nx2:(Option Nat)→(Option Nat)→(Option Nat)→Sl→WP) (nx3:(Option Nat)→(Option Nat)→(Option Nat)→Addr→Sl→Int→Sl→Int→WP) (w:World):Prop :=
 lt (IntKind.i64.wrap (t95+1)) fun x13 =>
 nx3 t5 t6 t7 t16 t93 t94 t8 x13 w
def qi.j14 (t5:(Option Nat)) (t6:(Option Nat)) (t7:(Option Nat)) (t8:Sl) (t16:Addr) (t18:Addr) (t93:Sl) (t94 t95:Int) (Q:VWP) (nx2:(Option Nat)→(Option Nat)→(Option Nat)→Sl→WP) (nx3:(Option Nat)→(Option Nat)→(Option Nat)→Addr→Sl→Int→Sl→Int→WP) (w:World):Prop :=
 ldA w t18 20 fun c14 =>
 ∃ r15:Int,lkR Try.prog 49 (.map t5) (.agg c14) false w (.int .i64 r15) ∧
 br (r15 == 0) (
 ldA w t18 20 fun c16 =>
 (c16).size=20 ∧
 nw w ⟨(spl [.int .u8 0,.int .u8 0,.int .u8 0,.int .u8 0,.int .u8 0,.int .u8 0,.int .u8 0,.int .u8 0,.int .u8 0,.int .u8 0,.int .u8 0,.int .u8 0,.int .u8 0,.int .u8 0,.int .u8 0,.int .u8 0,.int .u8 0,.int .u8 0,.int .u8 0,.int .u8 0] 0 c16)⟩ 28 fun a17 w18 =>
 rdO w18 (some a17) (1 * 20) fun c19 =>
 apK Try.prog 28 w18 t8.a t8.len t8.cap 1 c19 fun s20 w21 =>
 qi.j12 t5 t6 t7 s20 t16 t93 t94 t95 Q nx2 nx3 w21) (
 qi.j12 t5 t6 t7 t8 t16 t93 t94 t95 Q nx2 nx3 w)
def qi.j13 (t5:(Option Nat)) (t6:(Option Nat)) (t7:(Option Nat)) (t8:Sl) (t16:Addr) (t18:Addr) (t93:Sl) (t94 t95:Int) (Q:VWP) (nx2:(Option Nat)→(Option Nat)→(Option Nat)→Sl→WP) (nx3:(Option Nat)→(Option Nat)→(Option Nat)→Addr→Sl→Int→Sl→Int→WP) (w:World):Prop :=
 lt (World.drew w) fun w22 =>
 ldA w22 t18 20 fun c23 =>
 (∃ r24:Int,lkR Try.prog 49 (.map t5) (.agg c23) false w22 (.int .i64 r24) ∧
 lt (IntKind.i64.wrap (r24 - 1)) fun x25 =>
 ∃ r26:Int,∃ x27:Int,∃ w28:World,meR Try.prog 49 (.map t5) (.agg c23) w22 (.int .i64 r26) x27 w28 ∧
 ∃ w29:World,esR Try.prog 49 (.map t5) (.int .i64 x27) (.int .i64 x25) w28 w29 ∧
 qi.j14 t5 t6 t7 t8 t16 t18 t93 t94 t95 Q nx2 nx3 w29)∧(
 ∃ r30:Int,∃ x31:Int,∃ w32:World,meR Try.prog 49 (.map t5) (.agg c23) w22 (.int .i64 r30) x31 w32 ∧
 ∃ r33:Int,lkR Try.prog 49 (.map t5) (.agg c23) false w32 (.int .i64 r33) ∧
 lt (IntKind.i64.wrap (r33 - 1)) fun x34 =>
 ∃ w35:World,esR Try.prog 49 (.map t5) (.int .i64 x31) (.int .i64 x34) w32 w35 ∧
 qi.j14 t5 t6 t7 t8 t16 t18 t93 t94 t95 Q nx2 nx3 w35)
def qi.j11 (t5:(Option Nat)) (t6:(Option Nat)) (t7:(Option Nat)) (t8:Sl) (t16:Addr) (t93:Sl) (t94:Int) (t95:Int) (Q:VWP) (nx2:(Option Nat)→(Option Nat)→(Option Nat)→Sl→WP) (nx3:(Option Nat)→(Option Nat)→(Option Nat)→Addr→Sl→Int→Sl→Int→WP) (w:World):Prop :=
 ixS t93.a t93.len t95 20 fun a36 =>
 ldA w a36 20 fun c37 =>
 nw w (zc Try.prog 28) 28 fun a38 w39 =>
 (c37).size=20 ∧
 stA w39 a38 c37 fun w40 =>
 lt (World.drew w40) fun w41 =>
 (ldA w41 a38 20 fun c42 =>
 (ldA w41 a38 20 fun c43 =>
 (∃ r44:Int,lkR Try.prog 49 (.map t7) (.agg c43) false w41 (.int .i64 r44) ∧
 ldA w41 t16 20 fun c45 =>
 ∃ r46:Int,lkR Try.prog 49 (.map t7) (.agg c45) false w41 (.int .i64 r46) ∧
 lt (IntKind.i64.wrap (r46+1)) fun x47 =>
 lt (if (x47:Int) > r44 then x47 else r44) fun x48 =>
 ∃ w49:World,muR Try.prog 49 (.map t7) (.agg c42) (.int .i64 x48) w41 w49 ∧
 qi.j13 t5 t6 t7 t8 t16 a38 t93 t94 t95 Q nx2 nx3 w49)∧(
 ldA w41 t16 20 fun c50 =>
 (∃ r51:Int,lkR Try.prog 49 (.map t7) (.agg c43) false w41 (.int .i64 r51) ∧
 ∃ r52:Int,lkR Try.prog 49 (.map t7) (.agg c50) false w41 (.int .i64 r52) ∧
 lt (IntKind.i64.wrap (r52+1)) fun x53 =>
 lt (if (x53:Int) > r51 then x53 else r51) fun x54 =>
 ∃ w55:World,muR Try.prog 49 (.map t7) (.agg c42) (.int .i64 x54) w41 w55 ∧
 qi.j13 t5 t6 t7 t8 t16 a38 t93 t94 t95 Q nx2 nx3 w55)∧(
 ∃ r56:Int,lkR Try.prog 49 (.map t7) (.agg c50) false w41 (.int .i64 r56) ∧
 lt (IntKind.i64.wrap (r56+1)) fun x57 =>
 ∃ r58:Int,lkR Try.prog 49 (.map t7) (.agg c43) false w41 (.int .i64 r58) ∧
 lt (if (x57:Int) > r58 then x57 else r58) fun x59 =>
 ∃ w60:World,muR Try.prog 49 (.map t7) (.agg c42) (.int .i64 x59) w41 w60 ∧
 qi.j13 t5 t6 t7 t8 t16 a38 t93 t94 t95 Q nx2 nx3 w60)))∧(
 ldA w41 t16 20 fun c61 =>
 (ldA w41 a38 20 fun c62 =>
 (∃ r63:Int,lkR Try.prog 49 (.map t7) (.agg c62) false w41 (.int .i64 r63) ∧
 ∃ r64:Int,lkR Try.prog 49 (.map t7) (.agg c61) false w41 (.int .i64 r64) ∧
 lt (IntKind.i64.wrap (r64+1)) fun x65 =>
 lt (if (x65:Int) > r63 then x65 else r63) fun x66 =>
 ∃ w67:World,muR Try.prog 49 (.map t7) (.agg c42) (.int .i64 x66) w41 w67 ∧
 qi.j13 t5 t6 t7 t8 t16 a38 t93 t94 t95 Q nx2 nx3 w67)∧(
 ∃ r68:Int,lkR Try.prog 49 (.map t7) (.agg c61) false w41 (.int .i64 r68) ∧
 lt (IntKind.i64.wrap (r68+1)) fun x69 =>
 ∃ r70:Int,lkR Try.prog 49 (.map t7) (.agg c62) false w41 (.int .i64 r70) ∧
 lt (if (x69:Int) > r70 then x69 else r70) fun x71 =>
 ∃ w72:World,muR Try.prog 49 (.map t7) (.agg c42) (.int .i64 x71) w41 w72 ∧
 qi.j13 t5 t6 t7 t8 t16 a38 t93 t94 t95 Q nx2 nx3 w72))∧(
 ∃ r73:Int,lkR Try.prog 49 (.map t7) (.agg c61) false w41 (.int .i64 r73) ∧
 lt (IntKind.i64.wrap (r73+1)) fun x74 =>
 ldA w41 a38 20 fun c75 =>
 ∃ r76:Int,lkR Try.prog 49 (.map t7) (.agg c75) false w41 (.int .i64 r76) ∧
 lt (if (x74:Int) > r76 then x74 else r76) fun x77 =>
 ∃ w78:World,muR Try.prog 49 (.map t7) (.agg c42) (.int .i64 x77) w41 w78 ∧
 qi.j13 t5 t6 t7 t8 t16 a38 t93 t94 t95 Q nx2 nx3 w78)))∧(
 ldA w41 a38 20 fun c79 =>
 (ldA w41 a38 20 fun c80 =>
 (∃ r81:Int,lkR Try.prog 49 (.map t7) (.agg c79) false w41 (.int .i64 r81) ∧
 ldA w41 t16 20 fun c82 =>
 ∃ r83:Int,lkR Try.prog 49 (.map t7) (.agg c82) false w41 (.int .i64 r83) ∧
 lt (IntKind.i64.wrap (r83+1)) fun x84 =>
 lt (if (x84:Int) > r81 then x84 else r81) fun x85 =>
 ∃ w86:World,muR Try.prog 49 (.map t7) (.agg c80) (.int .i64 x85) w41 w86 ∧
 qi.j13 t5 t6 t7 t8 t16 a38 t93 t94 t95 Q nx2 nx3 w86)∧(
 ldA w41 t16 20 fun c87 =>
 (∃ r88:Int,lkR Try.prog 49 (.map t7) (.agg c79) false w41 (.int .i64 r88) ∧
 ∃ r89:Int,lkR Try.prog 49 (.map t7) (.agg c87) false w41 (.int .i64 r89) ∧
 lt (IntKind.i64.wrap (r89+1)) fun x90 =>
 lt (if (x90:Int) > r88 then x90 else r88) fun x91 =>
 ∃ w92:World,muR Try.prog 49 (.map t7) (.agg c80) (.int .i64 x91) w41 w92 ∧
 qi.j13 t5 t6 t7 t8 t16 a38 t93 t94 t95 Q nx2 nx3 w92)∧(
 ∃ r93:Int,lkR Try.prog 49 (.map t7) (.agg c87) false w41 (.int .i64 r93) ∧
 lt (IntKind.i64.wrap (r93+1)) fun x94 =>
 ∃ r95:Int,lkR Try.prog 49 (.map t7) (.agg c79) false w41 (.int .i64 r95) ∧
 lt (if (x94:Int) > r95 then x94 else r95) fun x96 =>
 ∃ w97:World,muR Try.prog 49 (.map t7) (.agg c80) (.int .i64 x96) w41 w97 ∧
 qi.j13 t5 t6 t7 t8 t16 a38 t93 t94 t95 Q nx2 nx3 w97)))∧(
 ∃ r98:Int,lkR Try.prog 49 (.map t7) (.agg c79) false w41 (.int .i64 r98) ∧
 (ldA w41 a38 20 fun c99 =>
 ldA w41 t16 20 fun c100 =>
 ∃ r101:Int,lkR Try.prog 49 (.map t7) (.agg c100) false w41 (.int .i64 r101) ∧
 lt (IntKind.i64.wrap (r101+1)) fun x102 =>
 lt (if (x102:Int) > r98 then x102 else r98) fun x103 =>
 ∃ w104:World,muR Try.prog 49 (.map t7) (.agg c99) (.int .i64 x103) w41 w104 ∧
 qi.j13 t5 t6 t7 t8 t16 a38 t93 t94 t95 Q nx2 nx3 w104)∧(
 ldA w41 t16 20 fun c105 =>
 (ldA w41 a38 20 fun c106 =>
 ∃ r107:Int,lkR Try.prog 49 (.map t7) (.agg c105) false w41 (.int .i64 r107) ∧
 lt (IntKind.i64.wrap (r107+1)) fun x108 =>
 lt (if (x108:Int) > r98 then x108 else r98) fun x109 =>
 ∃ w110:World,muR Try.prog 49 (.map t7) (.agg c106) (.int .i64 x109) w41 w110 ∧
 qi.j13 t5 t6 t7 t8 t16 a38 t93 t94 t95 Q nx2 nx3 w110)∧(
 ∃ r111:Int,lkR Try.prog 49 (.map t7) (.agg c105) false w41 (.int .i64 r111) ∧
 lt (IntKind.i64.wrap (r111+1)) fun x112 =>
 lt (if (x112:Int) > r98 then x112 else r98) fun x113 =>
 ldA w41 a38 20 fun c114 =>
 ∃ w115:World,muR Try.prog 49 (.map t7) (.agg c114) (.int .i64 x113) w41 w115 ∧
 qi.j13 t5 t6 t7 t8 t16 a38 t93 t94 t95 Q nx2 nx3 w115)))∧(
 ldA w41 t16 20 fun c116 =>
 (ldA w41 a38 20 fun c117 =>
 (∃ r118:Int,lkR Try.prog 49 (.map t7) (.agg c79) false w41 (.int .i64 r118) ∧
 ∃ r119:Int,lkR Try.prog 49 (.map t7) (.agg c116) false w41 (.int .i64 r119) ∧
 lt (IntKind.i64.wrap (r119+1)) fun x120 =>
 lt (if (x120:Int) > r118 then x120 else r118) fun x121 =>
 ∃ w122:World,muR Try.prog 49 (.map t7) (.agg c117) (.int .i64 x121) w41 w122 ∧
 qi.j13 t5 t6 t7 t8 t16 a38 t93 t94 t95 Q nx2 nx3 w122)∧(
 ∃ r123:Int,lkR Try.prog 49 (.map t7) (.agg c116) false w41 (.int .i64 r123) ∧
 lt (IntKind.i64.wrap (r123+1)) fun x124 =>
 ∃ r125:Int,lkR Try.prog 49 (.map t7) (.agg c79) false w41 (.int .i64 r125) ∧
 lt (if (x124:Int) > r125 then x124 else r125) fun x126 =>
 ∃ w127:World,muR Try.prog 49 (.map t7) (.agg c117) (.int .i64 x126) w41 w127 ∧
 qi.j13 t5 t6 t7 t8 t16 a38 t93 t94 t95 Q nx2 nx3 w127))∧(
 ∃ r128:Int,lkR Try.prog 49 (.map t7) (.agg c79) false w41 (.int .i64 r128) ∧
 (ldA w41 a38 20 fun c129 =>
 ∃ r130:Int,lkR Try.prog 49 (.map t7) (.agg c116) false w41 (.int .i64 r130) ∧
 lt (IntKind.i64.wrap (r130+1)) fun x131 =>
 lt (if (x131:Int) > r128 then x131 else r128) fun x132 =>
 ∃ w133:World,muR Try.prog 49 (.map t7) (.agg c129) (.int .i64 x132) w41 w133 ∧
 qi.j13 t5 t6 t7 t8 t16 a38 t93 t94 t95 Q nx2 nx3 w133)∧(
 ∃ r134:Int,lkR Try.prog 49 (.map t7) (.agg c116) false w41 (.int .i64 r134) ∧
 lt (IntKind.i64.wrap (r134+1)) fun x135 =>
 lt (if (x135:Int) > r128 then x135 else r128) fun x136 =>
 ldA w41 a38 20 fun c137 =>
 ∃ w138:World,muR Try.prog 49 (.map t7) (.agg c137) (.int .i64 x136) w41 w138 ∧
 qi.j13 t5 t6 t7 t8 t16 a38 t93 t94 t95 Q nx2 nx3 w138))∧(
 ∃ r139:Int,lkR Try.prog 49 (.map t7) (.agg c116) false w41 (.int .i64 r139) ∧
 lt (IntKind.i64.wrap (r139+1)) fun x140 =>
 (ldA w41 a38 20 fun c141 =>
 ∃ r142:Int,lkR Try.prog 49 (.map t7) (.agg c79) false w41 (.int .i64 r142) ∧
 lt (if (x140:Int) > r142 then x140 else r142) fun x143 =>
 ∃ w144:World,muR Try.prog 49 (.map t7) (.agg c141) (.int .i64 x143) w41 w144 ∧
 qi.j13 t5 t6 t7 t8 t16 a38 t93 t94 t95 Q nx2 nx3 w144)∧(
 ∃ r145:Int,lkR Try.prog 49 (.map t7) (.agg c79) false w41 (.int .i64 r145) ∧
 lt (if (x140:Int) > r145 then x140 else r145) fun x146 =>
 ldA w41 a38 20 fun c147 =>
 ∃ w148:World,muR Try.prog 49 (.map t7) (.agg c147) (.int .i64 x146) w41 w148 ∧
 qi.j13 t5 t6 t7 t8 t16 a38 t93 t94 t95 Q nx2 nx3 w148))))∧(
 ldA w41 t16 20 fun c149 =>
 (ldA w41 a38 20 fun c150 =>
 (ldA w41 a38 20 fun c151 =>
 (∃ r152:Int,lkR Try.prog 49 (.map t7) (.agg c151) false w41 (.int .i64 r152) ∧
 ∃ r153:Int,lkR Try.prog 49 (.map t7) (.agg c149) false w41 (.int .i64 r153) ∧
 lt (IntKind.i64.wrap (r153+1)) fun x154 =>
 lt (if (x154:Int) > r152 then x154 else r152) fun x155 =>
 ∃ w156:World,muR Try.prog 49 (.map t7) (.agg c150) (.int .i64 x155) w41 w156 ∧
 qi.j13 t5 t6 t7 t8 t16 a38 t93 t94 t95 Q nx2 nx3 w156)∧(
 ∃ r157:Int,lkR Try.prog 49 (.map t7) (.agg c149) false w41 (.int .i64 r157) ∧
 lt (IntKind.i64.wrap (r157+1)) fun x158 =>
 ∃ r159:Int,lkR Try.prog 49 (.map t7) (.agg c151) false w41 (.int .i64 r159) ∧
 lt (if (x158:Int) > r159 then x158 else r159) fun x160 =>
 ∃ w161:World,muR Try.prog 49 (.map t7) (.agg c150) (.int .i64 x160) w41 w161 ∧
 qi.j13 t5 t6 t7 t8 t16 a38 t93 t94 t95 Q nx2 nx3 w161))∧(
 ∃ r162:Int,lkR Try.prog 49 (.map t7) (.agg c149) false w41 (.int .i64 r162) ∧
 lt (IntKind.i64.wrap (r162+1)) fun x163 =>
 ldA w41 a38 20 fun c164 =>
 ∃ r165:Int,lkR Try.prog 49 (.map t7) (.agg c164) false w41 (.int .i64 r165) ∧
 lt (if (x163:Int) > r165 then x163 else r165) fun x166 =>
 ∃ w167:World,muR Try.prog 49 (.map t7) (.agg c150) (.int .i64 x166) w41 w167 ∧
 qi.j13 t5 t6 t7 t8 t16 a38 t93 t94 t95 Q nx2 nx3 w167))∧(
 ldA w41 a38 20 fun c168 =>
 (ldA w41 a38 20 fun c169 =>
 (∃ r170:Int,lkR Try.prog 49 (.map t7) (.agg c168) false w41 (.int .i64 r170) ∧
 ∃ r171:Int,lkR Try.prog 49 (.map t7) (.agg c149) false w41 (.int .i64 r171) ∧
 lt (IntKind.i64.wrap (r171+1)) fun x172 =>
 lt (if (x172:Int) > r170 then x172 else r170) fun x173 =>
 ∃ w174:World,muR Try.prog 49 (.map t7) (.agg c169) (.int .i64 x173) w41 w174 ∧
 qi.j13 t5 t6 t7 t8 t16 a38 t93 t94 t95 Q nx2 nx3 w174)∧(
 ∃ r175:Int,lkR Try.prog 49 (.map t7) (.agg c149) false w41 (.int .i64 r175) ∧
 lt (IntKind.i64.wrap (r175+1)) fun x176 =>
 ∃ r177:Int,lkR Try.prog 49 (.map t7) (.agg c168) false w41 (.int .i64 r177) ∧
 lt (if (x176:Int) > r177 then x176 else r177) fun x178 =>
 ∃ w179:World,muR Try.prog 49 (.map t7) (.agg c169) (.int .i64 x178) w41 w179 ∧
 qi.j13 t5 t6 t7 t8 t16 a38 t93 t94 t95 Q nx2 nx3 w179))∧(
 ∃ r180:Int,lkR Try.prog 49 (.map t7) (.agg c168) false w41 (.int .i64 r180) ∧
 (ldA w41 a38 20 fun c181 =>
 ∃ r182:Int,lkR Try.prog 49 (.map t7) (.agg c149) false w41 (.int .i64 r182) ∧
 lt (IntKind.i64.wrap (r182+1)) fun x183 =>
 lt (if (x183:Int) > r180 then x183 else r180) fun x184 =>
 ∃ w185:World,muR Try.prog 49 (.map t7) (.agg c181) (.int .i64 x184) w41 w185 ∧
 qi.j13 t5 t6 t7 t8 t16 a38 t93 t94 t95 Q nx2 nx3 w185)∧(
 ∃ r186:Int,lkR Try.prog 49 (.map t7) (.agg c149) false w41 (.int .i64 r186) ∧
 lt (IntKind.i64.wrap (r186+1)) fun x187 =>
 lt (if (x187:Int) > r180 then x187 else r180) fun x188 =>
 ldA w41 a38 20 fun c189 =>
 ∃ w190:World,muR Try.prog 49 (.map t7) (.agg c189) (.int .i64 x188) w41 w190 ∧
 qi.j13 t5 t6 t7 t8 t16 a38 t93 t94 t95 Q nx2 nx3 w190))∧(
 ∃ r191:Int,lkR Try.prog 49 (.map t7) (.agg c149) false w41 (.int .i64 r191) ∧
 lt (IntKind.i64.wrap (r191+1)) fun x192 =>
 (ldA w41 a38 20 fun c193 =>
 ∃ r194:Int,lkR Try.prog 49 (.map t7) (.agg c168) false w41 (.int .i64 r194) ∧
 lt (if (x192:Int) > r194 then x192 else r194) fun x195 =>
 ∃ w196:World,muR Try.prog 49 (.map t7) (.agg c193) (.int .i64 x195) w41 w196 ∧
 qi.j13 t5 t6 t7 t8 t16 a38 t93 t94 t95 Q nx2 nx3 w196)∧(
 ∃ r197:Int,lkR Try.prog 49 (.map t7) (.agg c168) false w41 (.int .i64 r197) ∧
 lt (if (x192:Int) > r197 then x192 else r197) fun x198 =>
 ldA w41 a38 20 fun c199 =>
 ∃ w200:World,muR Try.prog 49 (.map t7) (.agg c199) (.int .i64 x198) w41 w200 ∧
 qi.j13 t5 t6 t7 t8 t16 a38 t93 t94 t95 Q nx2 nx3 w200)))∧(
 ∃ r201:Int,lkR Try.prog 49 (.map t7) (.agg c149) false w41 (.int .i64 r201) ∧
 lt (IntKind.i64.wrap (r201+1)) fun x202 =>
 (ldA w41 a38 20 fun c203 =>
 ldA w41 a38 20 fun c204 =>
 ∃ r205:Int,lkR Try.prog 49 (.map t7) (.agg c204) false w41 (.int .i64 r205) ∧
 lt (if (x202:Int) > r205 then x202 else r205) fun x206 =>
 ∃ w207:World,muR Try.prog 49 (.map t7) (.agg c203) (.int .i64 x206) w41 w207 ∧
 qi.j13 t5 t6 t7 t8 t16 a38 t93 t94 t95 Q nx2 nx3 w207)∧(
 ldA w41 a38 20 fun c208 =>
 (ldA w41 a38 20 fun c209 =>
 ∃ r210:Int,lkR Try.prog 49 (.map t7) (.agg c208) false w41 (.int .i64 r210) ∧
 lt (if (x202:Int) > r210 then x202 else r210) fun x211 =>
 ∃ w212:World,muR Try.prog 49 (.map t7) (.agg c209) (.int .i64 x211) w41 w212 ∧
 qi.j13 t5 t6 t7 t8 t16 a38 t93 t94 t95 Q nx2 nx3 w212)∧(
 ∃ r213:Int,lkR Try.prog 49 (.map t7) (.agg c208) false w41 (.int .i64 r213) ∧
 lt (if (x202:Int) > r213 then x202 else r213) fun x214 =>
 ldA w41 a38 20 fun c215 =>
 ∃ w216:World,muR Try.prog 49 (.map t7) (.agg c215) (.int .i64 x214) w41 w216 ∧
 qi.j13 t5 t6 t7 t8 t16 a38 t93 t94 t95 Q nx2 nx3 w216))))
def qi.b3 (t5:(Option Nat)) (t6:(Option Nat)) (t7:(Option Nat)) (t16:Addr) (t93:Sl) (t94:Int) (t8:Sl) (t95:Int) (Q:VWP) (nx2:(Option Nat)→(Option Nat)→(Option Nat)→Sl→WP) (nx3:(Option Nat)→(Option Nat)→(Option Nat)→Addr→Sl→Int→Sl→Int→WP) (w:World):Prop :=
 br (decide (t95 < t94)) (
 qi.j11 t5 t6 t7 t8 t16 t93 t94 t95 Q nx2 nx3 w) (
 nx2 t5 t6 t7 t8 w)
def qi.l3 (t5:(Option Nat)) (t6:(Option Nat)) (t7:(Option Nat)) (t16:Addr) (t93:Sl) (t94:Int) (t8:Sl) (t95:Int) (Q:VWP) (nx2:(Option Nat)→(Option Nat)→(Option Nat)→Sl→WP) (w:World):Prop :=
 ∃ (I:Sl→Int→WP) (μ:Sl→Int→World→Nat),I t8 t95 w∧∀ t8:Sl,∀ t95:Int,∀ w:World,I t8 t95 w→qi.b3 t5 t6 t7 t16 t93 t94 t8 t95 Q nx2 (fun t5' t6' t7' t16' t93' t94' t8' t95' w'=>(t5'=t5∧t6'=t6∧t7'=t7∧t16'=t16∧t93'=t93∧t94'=t94)∧I t8' t95' w'∧μ t8' t95' w' < μ t8 t95 w) w
def qi.j10 (t5:(Option Nat)) (t6:(Option Nat)) (t7:(Option Nat)) (t8:Sl) (t16:Addr) (t93:Sl) (t94:Int) (t95:Int) (Q:VWP) (nx2:(Option Nat)→(Option Nat)→(Option Nat)→Sl→WP) (w:World):Prop :=
 qi.l3 t5 t6 t7 t16 t93 t94 t8 t95 Q nx2 w
def qi.j9 (t5:(Option Nat)) (t6:(Option Nat)) (t7:(Option Nat)) (t8:Sl) (t16:Addr) (Q:VWP) (nx2:(Option Nat)→(Option Nat)→(Option Nat)→Sl→WP) (w:World):Prop :=
 ldA w t16 20 fun c217 =>
 ∃ r218:Sl,lkR Try.prog 94 (.map t6) (.agg c217) false w (sV r218) ∧
 qi.j10 t5 t6 t7 t8 t16 r218 (r218.len:Int) 0 Q nx2 w
def qi.j8 (t5:(Option Nat)) (t6:(Option Nat)) (t7:(Option Nat)) (t8:Sl) (t16:Addr) (Q:VWP) (nx2:(Option Nat)→(Option Nat)→(Option Nat)→Sl→WP) (w:World):Prop :=
 lt (IntKind.i64.wrap ((t8.len:Int) - 1)) fun x219 =>
 bd x219 t8.cap fun n220 =>
 lt (⟨qvd t8.a t8.cap 0 20,n220 - 0,t8.cap - 0⟩:Sl) fun s221 =>
 lt (World.drew w) fun w222 =>
 ldA w222 t16 20 fun c223 =>
 (ldA w222 t16 20 fun c224 =>
 ∃ r225:Int,lkR Try.prog 49 (.map t7) (.agg c223) false w222 (.int .i64 r225) ∧
 lt (if (1:Int) > r225 then 1 else r225) fun x226 =>
 ∃ w227:World,muR Try.prog 49 (.map t7) (.agg c224) (.int .i64 x226) w222 w227 ∧
 qi.j9 t5 t6 t7 s221 t16 Q nx2 w227)∧(
 ∃ r228:Int,lkR Try.prog 49 (.map t7) (.agg c223) false w222 (.int .i64 r228) ∧
 lt (if (1:Int) > r228 then 1 else r228) fun x229 =>
 ldA w222 t16 20 fun c230 =>
 ∃ w231:World,muR Try.prog 49 (.map t7) (.agg c230) (.int .i64 x229) w222 w231 ∧
 qi.j9 t5 t6 t7 s221 t16 Q nx2 w231)
def qi.j7 (t5:(Option Nat)) (t6:(Option Nat)) (t7:(Option Nat)) (t8:Sl) (Q:VWP) (nx2:(Option Nat)→(Option Nat)→(Option Nat)→Sl→WP) (w:World):Prop :=
 lt (IntKind.i64.wrap ((t8.len:Int) - 1)) fun x232 =>
 ixS t8.a t8.len x232 20 fun a233 =>
 ldA w a233 20 fun c234 =>
 nw w (zc Try.prog 28) 28 fun a235 w236 =>
 (c234).size=20 ∧
 stA w236 a235 c234 fun w237 =>
 qi.j8 t5 t6 t7 t8 a235 Q nx2 w237
def qi.b2 (t5:(Option Nat)) (t6:(Option Nat)) (t7:(Option Nat)) (t8:Sl) (Q:VWP) (nx2:(Option Nat)→(Option Nat)→(Option Nat)→Sl→WP) (w:World):Prop :=
 br (decide ((t8.len:Int) > 0)) (
 qi.j7 t5 t6 t7 t8 Q nx2 w) (
 qi.j4 t5 t7 Q w)
def qi.l2 (t5:(Option Nat)) (t6:(Option Nat)) (t7:(Option Nat)) (t8:Sl) (Q:VWP) (w:World):Prop :=
 ∃ (I:Sl→WP) (μ:Sl→World→Nat),I t8 w∧∀ t8:Sl,∀ w:World,I t8 w→qi.b2 t5 t6 t7 t8 Q (fun t5' t6' t7' t8' w'=>(t5'=t5∧t6'=t6∧t7'=t7)∧I t8' w'∧μ t8' w' < μ t8 w) w
def qi.j3 (t5:(Option Nat)) (t6:(Option Nat)) (t7:(Option Nat)) (t8:Sl) (Q:VWP) (w:World):Prop :=
 qi.l2 t5 t6 t7 t8 Q w
def qi.j18 (d_0:(Option Nat)) (i_1:Bool) (t5:(Option Nat)) (t6:(Option Nat)) (t7:(Option Nat)) (t8:Sl) (t9:Addr) (t11:Int) (t25:Value) (Q:VWP) (nx4:(Option Nat)→Bool→(Option Nat)→(Option Nat)→(Option Nat)→Value→Sl→WP) (w:World):Prop :=
 ldA w t9 20 fun c238 =>
 ∃ w239:World,muR Try.prog 49 (.map t5) (.agg c238) (.int .i64 t11) w w239 ∧
 br (t11 == 0) (
 ldA w239 t9 20 fun c240 =>
 (c240).size=20 ∧
 nw w239 ⟨(spl [.int .u8 0,.int .u8 0,.int .u8 0,.int .u8 0,.int .u8 0,.int .u8 0,.int .u8 0,.int .u8 0,.int .u8 0,.int .u8 0,.int .u8 0,.int .u8 0,.int .u8 0,.int .u8 0,.int .u8 0,.int .u8 0,.int .u8 0,.int .u8 0,.int .u8 0,.int .u8 0] 0 c240)⟩ 28 fun a241 w242 =>
 rdO w242 (some a241) (1 * 20) fun c243 =>
 apK Try.prog 28 w242 t8.a t8.len t8.cap 1 c243 fun s244 w245 =>
 nx4 d_0 i_1 t5 t6 t7 t25 s244 w245) (
 nx4 d_0 i_1 t5 t6 t7 t25 t8 w239)
def qi.b5 (d_0:(Option Nat)) (i_1:Bool) (t5:(Option Nat)) (t6:(Option Nat)) (t7:(Option Nat)) (t8:Sl) (t9:Addr) (t10:Addr) (t25:Value) (t32:Sl) (t33:Int) (t11 t34:Int) (Q:VWP) (nx4:(Option Nat)→Bool→(Option Nat)→(Option Nat)→(Option Nat)→Value→Sl→WP) (nx5:(Option Nat)→Bool→(Option Nat)→(Option Nat)→(Option Nat)→Sl→Addr→Addr→Value→Sl→Int→Int→Int→WP) (w:World):Prop :=
 br (decide (t34 < t33)) (
 ixS t32.a t32.len t34 20 fun a246 =>
 ldA w a246 20 fun c247 =>
 nw w (zc Try.prog 28) 28 fun a248 w249 =>
 (c247).size=20 ∧
 stA w249 a248 c247 fun w250 =>
 ldA w250 a248 20 fun c251 =>
 ∃ r252:(Array Value),∃ r253:Bool,lkR Try.prog 68 (.map d_0) (.agg c251) true w250 (.tuple ⟨[.agg r252,.bool r253]⟩) ∧
 nw w250 (zc Try.prog 31) 31 fun a254 w255 =>
 (r252).size=42 ∧
 stA w255 a254 r252 fun w256 =>
 br r253 (
 lt (IntKind.i64.wrap (t11+1)) fun x257 =>
 ldA w256 a248 20 fun c258 =>
 ldA w256 t9 20 fun c259 =>
 (c259).size=20 ∧
 nw w256 ⟨(spl [.int .u8 0,.int .u8 0,.int .u8 0,.int .u8 0,.int .u8 0,.int .u8 0,.int .u8 0,.int .u8 0,.int .u8 0,.int .u8 0,.int .u8 0,.int .u8 0,.int .u8 0,.int .u8 0,.int .u8 0,.int .u8 0,.int .u8 0,.int .u8 0,.int .u8 0,.int .u8 0] 0 c259)⟩ 28 fun a260 w261 =>
 ∃ r262:Sl,∃ x263:Int,∃ w264:World,meR Try.prog 94 (.map t6) (.agg c258) w261 (sV r262) x263 w264 ∧
 rdO w264 (some a260) (1 * 20) fun c265 =>
 apK Try.prog 28 w264 r262.a r262.len r262.cap 1 c265 fun s266 w267 =>
 ∃ w268:World,esR Try.prog 94 (.map t6) (.int .i64 x263) (sV s266) w267 w268 ∧
 lt (IntKind.i64.wrap (t34+1)) fun x269 =>
 nx5 d_0 i_1 t5 t6 t7 t8 t9 t10 t25 t32 t33 x257 x269 w268) (
 br (!i_1) (
 ldL w256 (Addr.add t10 40) fun x270 =>
 lt (IntKind.i64.wrap ((x270.len:Int)+1)) fun x271 =>
 qi.j18 d_0 i_1 t5 t6 t7 t8 t9 x271 t25 Q nx4 w256) (
 lt (IntKind.i64.wrap (t34+1)) fun x272 =>
 nx5 d_0 i_1 t5 t6 t7 t8 t9 t10 t25 t32 t33 t11 x272 w256))) (
 qi.j18 d_0 i_1 t5 t6 t7 t8 t9 t11 t25 Q nx4 w)
def qi.l5 (d_0:(Option Nat)) (i_1:Bool) (t5:(Option Nat)) (t6:(Option Nat)) (t7:(Option Nat)) (t8:Sl) (t9:Addr) (t10:Addr) (t25:Value) (t32:Sl) (t33:Int) (t11 t34:Int) (Q:VWP) (nx4:(Option Nat)→Bool→(Option Nat)→(Option Nat)→(Option Nat)→Value→Sl→WP) (w:World):Prop :=
 ∃ (I:Int→Int→WP) (μ:Int→Int→World→Nat),I t11 t34 w∧∀ t11:Int,∀ t34:Int,∀ w:World,I t11 t34 w→qi.b5 d_0 i_1 t5 t6 t7 t8 t9 t10 t25 t32 t33 t11 t34 Q nx4 (fun d_0' i_1' t5' t6' t7' t8' t9' t10' t25' t32' t33' t11' t34' w'=>(d_0'=d_0∧i_1'=i_1∧t5'=t5∧t6'=t6∧t7'=t7∧t8'=t8∧t9'=t9∧t10'=t10∧t25'=t25∧t32'=t32∧t33'=t33)∧I t11' t34' w'∧μ t11' t34' w' < μ t11 t34 w) w
def qi.j19 (d_0:(Option Nat)) (i_1:Bool) (t5:(Option Nat)) (t6:(Option Nat)) (t7:(Option Nat)) (t8:Sl) (t9:Addr) (t10:Addr) (t11:Int) (t25:Value) (t32:Sl) (t33 t34:Int) (Q:VWP) (nx4:(Option Nat)→Bool→(Option Nat)→(Option Nat)→(Option Nat)→Value→Sl→WP) (w:World):Prop :=
 qi.l5 d_0 i_1 t5 t6 t7 t8 t9 t10 t25 t32 t33 t11 t34 Q nx4 w
def qi.j17 (d_0:(Option Nat)) (i_1:Bool) (t5:(Option Nat)) (t6:(Option Nat)) (t7:(Option Nat)) (t8:Sl) (t9:Addr) (t10:Addr) (t11:Int) (t25:Value) (Q:VWP) (nx4:(Option Nat)→Bool→(Option Nat)→(Option Nat)→(Option Nat)→Value→Sl→WP) (w:World):Prop :=
 ldL w (Addr.add t10 40) fun x273 =>
 qi.j19 d_0 i_1 t5 t6 t7 t8 t9 t10 t11 t25 x273 (x273.len:Int) 0 Q nx4 w
def qi.j16 (d_0:(Option Nat)) (i_1:Bool) (t5:(Option Nat)) (t6:(Option Nat)) (t7:(Option Nat)) (t8:Sl) (t25:Value) (Q:VWP) (nx4:(Option Nat)→Bool→(Option Nat)→(Option Nat)→(Option Nat)→Value→Sl→WP) (w:World):Prop :=
 ∃ c274:Array Value,∃ c275:Array Value,enR Try.prog t25 w (.agg c274) (.agg c275) ∧
 nw w (zc Try.prog 28) 28 fun a276 w277 =>
 nw w277 (zc Try.prog 31) 31 fun a278 w279 =>
 (c274).size=20 ∧
 stA w279 a276 c274 fun w280 =>
 (c275).size=42 ∧
 stA w280 a278 c275 fun w281 =>
 qi.j17 d_0 i_1 t5 t6 t7 t8 a276 a278 0 t25 Q nx4 w281
def qi.b4 (d_0:(Option Nat)) (i_1:Bool) (t5:(Option Nat)) (t6:(Option Nat)) (t7:(Option Nat)) (t25:Value) (t8:Sl) (Q:VWP) (nx4:(Option Nat)→Bool→(Option Nat)→(Option Nat)→(Option Nat)→Value→Sl→WP) (w:World):Prop :=
 ∃ b282:Bool,∃ r283:List Value,∃ w284:World,nxR Try.prog t25 false 0 w b282 r283 w284 ∧
 br b282 (
 qi.j16 d_0 i_1 t5 t6 t7 t8 t25 Q nx4 w284) (
 qi.j3 t5 t6 t7 t8 Q w284)
def qi.l4 (d_0:(Option Nat)) (i_1:Bool) (t5:(Option Nat)) (t6:(Option Nat)) (t7:(Option Nat)) (t25:Value) (t8:Sl) (Q:VWP) (w:World):Prop :=
 ∃ (I:Sl→WP) (μ:Sl→World→Nat),I t8 w∧∀ t8:Sl,∀ w:World,I t8 w→qi.b4 d_0 i_1 t5 t6 t7 t25 t8 Q (fun d_0' i_1' t5' t6' t7' t25' t8' w'=>(d_0'=d_0∧i_1'=i_1∧t5'=t5∧t6'=t6∧t7'=t7∧t25'=t25)∧I t8' w'∧μ t8' w' < μ t8 w) w
def qi.j15 (d_0:(Option Nat)) (i_1:Bool) (t5:(Option Nat)) (t6:(Option Nat)) (t7:(Option Nat)) (t8:Sl) (t25:Value) (Q:VWP) (w:World):Prop :=
 qi.l4 d_0 i_1 t5 t6 t7 t25 t8 Q w
def qi.j2 (d_0:(Option Nat)) (i_1:Bool) (t5:(Option Nat)) (t6:(Option Nat)) (t7:(Option Nat)) (t8:Sl) (Q:VWP) (w:World):Prop :=
 ∃ n285:Nat,∃ w286:World,rgR Try.prog 68 (.map d_0) w n285 w286 ∧
 qi.j15 d_0 i_1 t5 t6 t7 t8 (.pointer (some (⟨n285,0,none⟩:Addr))) Q w286
def qi.j1 (d_0:(Option Nat)) (i_1:Bool) (t5:(Option Nat)) (t6:(Option Nat)) (Q:VWP) (w:World):Prop :=
 ∃ n287:Nat,∃ w288:World,mmR Try.prog 49 none w n287 w288 ∧
 qi.j2 d_0 i_1 t5 t6 (some n287) ⟨none,0,0⟩ Q w288
def qi (d_0:(Option Nat)) (i_1:Bool) (Q:VWP) (w:World):Prop :=
 ∃ n289:Nat,∃ w290:World,mmR Try.prog 49 none w n289 w290 ∧
 ∃ n291:Nat,∃ w292:World,mmR Try.prog 94 none w290 n291 w292 ∧
 qi.j1 d_0 i_1 (some n289) (some n291) Q w292
theorem qi.ok (d_0:(Option Nat)) (i_1:Bool) (Q:VWP) (w:World) (h:qi d_0 i_1 Q w):Calls Try.prog 30 ⟨[.map d_0,.bool i_1]⟩ w (Ret Q) :=
 qqb [.tmp 4] qed Try.func30 rfl rfl rfl rfl (.pr 1 [(0,.M),sB 1,(5,.M),(6,.M)] (fun a b c d w=>qi.j1 a b c d Q w) (.pr 1 [(0,.M),sB 1,(5,.M),(6,.M),(7,.M),sL 8] (fun a b c d e f w=>qi.j2 a b c d e f Q w) (.sq [(5,.M),(6,.M),(7,.M),sL 8] (fun a b c d w=>qi.j3 a b c d Q w) (.sq [(0,.M),sB 1,(5,.M),(6,.M),(7,.M),sL 8,(25,.V)] (fun a b c d e f g w=>qi.j15 a b c d e f g Q w) .lf (.bk (.lo [(0,.M),sB 1,(5,.M),(6,.M),(7,.M),(25,.V)] [sL 8] (fun a b c d e f g w=>qi.l4 a b c d e f g Q w) (fun nx4 a b c d e f g w=>qi.b4 a b c d e f g Q nx4 w) fun nx4=>(.pr 1 [(0,.M),sB 1,(5,.M),(6,.M),(7,.M),sL 8,(25,.V)] (fun a b c d e f g w=>qi.j16 a b c d e f g Q nx4 w) (.bk (.pr 1 [(0,.M),sB 1,(5,.M),(6,.M),(7,.M),sL 8,sA 9,sA 10,sI 11,(25,.V)] (fun a b c d e f g h i j w=>qi.j17 a b c d e f g h i j Q nx4 w) (.sq [(0,.M),sB 1,(5,.M),(6,.M),(7,.M),sL 8,sA 9,sI 11,(25,.V)] (fun a b c d e f g h i w=>qi.j18 a b c d e f g h i Q nx4 w) (.sq [(0,.M),sB 1,(5,.M),(6,.M),(7,.M),sL 8,sA 9,sA 10,sI 11,(25,.V),sL 32,sI 33,sI 34] (fun a b c d e f g h i j k l m w=>qi.j19 a b c d e f g h i j k l m Q nx4 w) .lf (.bk (.lo [(0,.M),sB 1,(5,.M),(6,.M),(7,.M),sL 8,sA 9,sA 10,(25,.V),sL 32,sI 33] [sI 11,sI 34] (fun a b c d e f g h i j k l m w=>qi.l5 a b c d e f g h i j k l m Q nx4 w) (fun nx5 a b c d e f g h i j k l m w=>qi.b5 a b c d e f g h i j k l m Q nx4 nx5 w) fun nx5=>.lf))) .lf))))))) (.sq [(5,.M),(7,.M)] (fun a b w=>qi.j4 a b Q w) (.bk (.lo [(5,.M),(6,.M),(7,.M)] [sL 8] (fun a b c d w=>qi.l2 a b c d Q w) (fun nx2 a b c d w=>qi.b2 a b c d Q nx2 w) fun nx2=>(.sq [(5,.M),(6,.M),(7,.M),sL 8] (fun a b c d w=>qi.j7 a b c d Q nx2 w) .lf (.bk (.sq [(5,.M),(6,.M),(7,.M),sL 8,sA 16] (fun a b c d e w=>qi.j8 a b c d e Q nx2 w) .lf (.pr 1 [(5,.M),(6,.M),(7,.M),sL 8,sA 16] (fun a b c d e w=>qi.j9 a b c d e Q nx2 w) (.sq [(5,.M),(6,.M),(7,.M),sL 8,sA 16,sL 93,sI 94,sI 95] (fun a b c d e f g h w=>qi.j10 a b c d e f g h Q nx2 w) .lf (.bk (.lo [(5,.M),(6,.M),(7,.M),sA 16,sL 93,sI 94] [sL 8,sI 95] (fun a b c d e f g h w=>qi.l3 a b c d e f g h Q nx2 w) (fun nx3 a b c d e f g h w=>qi.b3 a b c d e f g h Q nx2 nx3 w) fun nx3=>(.pr 1 [(5,.M),(6,.M),(7,.M),sL 8,sA 16,sL 93,sI 94,sI 95] (fun a b c d e f g h w=>qi.j11 a b c d e f g h Q nx2 nx3 w) (.sq [(5,.M),(6,.M),(7,.M),sL 8,sA 16,sL 93,sI 94,sI 95] (fun a b c d e f g h w=>qi.j12 a b c d e f g h Q nx2 nx3 w) (.bk (.pr 1 [(5,.M),(6,.M),(7,.M),sL 8,sA 16,sA 18,sL 93,sI 94,sI 95] (fun a b c d e f g h i w=>qi.j13 a b c d e f g h i Q nx2 nx3 w) (.sq [(5,.M),(6,.M),(7,.M),sL 8,sA 16,sA 18,sL 93,sI 94,sI 95] (fun a b c d e f g h i w=>qi.j14 a b c d e f g h i Q nx2 nx3 w) .lf .lf))) .lf))))))))))) (.sq [(7,.M)] (fun a w=>qi.j5 a Q w) (.sq [(7,.M),(125,.V)] (fun a b w=>qi.j6 a b Q w) .lf (.bk (.lo [(7,.M),(125,.V)] [] (fun a b w=>qi.l1 a b Q w) (fun nx1 a b w=>qi.b1 a b Q nx1 w) fun nx1=>.lf))) .lf))))) (by kernel_rfl) h
def qke (n_0:(Array Value)) (Q:VWP) (w:World):Prop :=
 nw w n_0 31 fun a1 w2 =>
 nw w2 (zc Try.prog 31) 31 fun a3 w4 =>
 ldL w4 (Addr.add a1 40) fun x5 =>
 qhc 56 [sV x5] w4 fun r8 w7 =>
 qhc 55 [sV r8] w7 fun r11 w10 =>
 st w10 (Addr.add a1 40) (sV r11) fun w12 =>
 ldA w12 a1 42 fun c13 =>
 (c13).size=42 ∧
 stA w12 a3 c13 fun w14 =>
 ldA w14 a3 42 fun c15 =>
 Q (.agg c15) w14
theorem qke.ok (n_0:(Array Value)) (Q:VWP) (w:World) (h:qke n_0 Q w):Calls Try.prog 31 ⟨[.agg n_0]⟩ w (Ret Q) :=
 qqb [.cell 2 31] qed Try.func31 rfl rfl rfl rfl .lf (by kernel_rfl) h
def qeb.j3 (out_4:Sl) (Q:VWP) (w:World):Prop :=
 ct_ 17 [sV out_4,.func (.func 18) ⟨[]⟩ ⟨[]⟩] w fun w2 =>
 qhc 32 [sV out_4] w2 fun r5 w4 =>
 Q (sV r5) w4
def qeb.b1 (m_3:(Option Nat)) (t10:Value) (out_4:Sl) (Q:VWP) (nx1:(Option Nat)→Value→Sl→WP) (w:World):Prop :=
 ∃ b6:Bool,∃ r7:List Value,∃ w8:World,nxR Try.prog t10 false 0 w b6 r7 w8 ∧
 br b6 (
 ∃ c9:Array Value,∃ x10:Int,enR Try.prog t10 w8 (.agg c9) (.int .i64 x10) ∧
 nw w8 (zc Try.prog 28) 28 fun a11 w12 =>
 (c9).size=20 ∧
 stA w12 a11 c9 fun w13 =>
 ldA w13 a11 20 fun c14 =>
 ∃ r15:(Array Value),lkR Try.prog 68 (.map m_3) (.agg c14) false w13 (.agg r15) ∧
 cr_G 31 [.agg r15] w13 fun r18 w17 =>
 (r18).size=42 ∧
 nw w17 ⟨(spl (qie 1 (zc Try.prog 31).toList) 0 r18)⟩ 31 fun a19 w20 =>
 rdO w20 (some a19) (1 * 42) fun c21 =>
 apK Try.prog 31 w20 out_4.a out_4.len out_4.cap 1 c21 fun s22 w23 =>
 nx1 m_3 t10 s22 w23) (
 qeb.j3 out_4 Q w8)
def qeb.l1 (m_3:(Option Nat)) (t10:Value) (out_4:Sl) (Q:VWP) (w:World):Prop :=
 ∃ (I:Sl→WP) (μ:Sl→World→Nat),I out_4 w∧∀ out_4:Sl,∀ w:World,I out_4 w→qeb.b1 m_3 t10 out_4 Q (fun m_3' t10' out_4' w'=>(m_3'=m_3∧t10'=t10)∧I out_4' w'∧μ out_4' w' < μ out_4 w) w
def qeb.j4 (m_3:(Option Nat)) (out_4:Sl) (t10:Value) (Q:VWP) (w:World):Prop :=
 qeb.l1 m_3 t10 out_4 Q w
def qeb.j2 (m_3:(Option Nat)) (out_4:Sl) (Q:VWP) (w:World):Prop :=
 Calls Try.prog 30 ⟨[.map m_3,.bool false]⟩ w fun e24 w25 =>
 ∃ r26:(Option Nat),e24=.returned (.map r26) ∧
 ∃ n27:Nat,∃ w28:World,rgR Try.prog 49 (.map r26) w25 n27 w28 ∧
 qeb.j4 m_3 out_4 (.pointer (some (⟨n27,0,none⟩:Addr))) Q w28
def qeb.j1 (l_0:Sl) (Q:VWP) (w:World):Prop :=
 Calls Try.prog 29 ⟨[sV l_0]⟩ w fun e29 w30 =>
 ∃ r31:(Option Nat),e29=.returned (.map r31) ∧
 qeb.j2 r31 ⟨none,0,0⟩ Q w30
def qeb (l_0:Sl) (Q:VWP) (w:World):Prop :=
 qeb.j1 l_0 Q w
theorem qeb.ok (l_0:Sl) (Q:VWP) (w:World) (h:qeb l_0 Q w):Calls Try.prog 9 ⟨[sV l_0]⟩ w (Ret Q) :=
 qqb [.tmp 2] qed Try.func9 rfl rfl rfl rfl (.sq [sL 0] (fun a w=>qeb.j1 a Q w) .lf (.pr 1 [(3,.M),sL 4] (fun a b w=>qeb.j2 a b Q w) (.sq [sL 4] (fun a w=>qeb.j3 a Q w) (.sq [(3,.M),sL 4,(10,.V)] (fun a b c w=>qeb.j4 a b c Q w) .lf (.bk (.lo [(3,.M),(10,.V)] [sL 4] (fun a b c w=>qeb.l1 a b c Q w) (fun nx1 a b c w=>qeb.b1 a b c Q nx1 w) fun nx1=>.lf))) .lf))) (by kernel_rfl) h
def qrd (l_0:Sl) (Q:VWP) (w:World):Prop :=
 Calls Try.prog 29 ⟨[sV l_0]⟩ w fun e1 w2 =>
 ∃ r3:(Option Nat),e1=.returned (.map r3) ∧
 ∃ x4:Int,lnR Try.prog [68] 3 [.map r3] w2 x4 ∧
 br (decide (x4 < (l_0.len:Int))) (
 Q (.tuple ⟨[.map none,.int .i64 9]⟩) w2) (
 Calls Try.prog 30 ⟨[.map r3,.bool true]⟩ w2 fun e5 w6 =>
 ∃ r7:(Option Nat),e5=.returned (.map r7) ∧
 ∃ x8:Int,lnR Try.prog [49] 3 [.map r7] w6 x8 ∧
 ∃ x9:Int,lnR Try.prog [68] 3 [.map r3] w6 x9 ∧
 br (decide (x8 < x9)) (
 Q (.tuple ⟨[.map none,.int .i64 12]⟩) w6) (
 Q (.tuple ⟨[.map r7,.int .i64 0]⟩) w6))
theorem qrd.ok (l_0:Sl) (Q:VWP) (w:World) (h:qrd l_0 Q w):Calls Try.prog 15 ⟨[sV l_0]⟩ w (Ret Q) :=
 qqb [.tmp 2,.tmp 3] qed Try.func15 rfl rfl rfl rfl .lf (by kernel_rfl) h
def qfe (p_0:(Array Value)) (p1:Addr) (Q:VWP) (w:World):Prop :=
 nw w p_0 28 fun a1 w2 =>
 ldM w2 p1 fun x3 =>
 ldA w2 a1 20 fun c4 =>
 ∃ r5:(Array Value),∃ r6:Bool,lkR Try.prog 68 (.map x3) (.agg c4) true w2 (.tuple ⟨[.agg r5,.bool r6]⟩) ∧
 nw w2 (zc Try.prog 31) 31 fun a7 w8 =>
 (r5).size=42 ∧
 stA w8 a7 r5 fun w9 =>
 Q (.bool (!r6)) w9
theorem qfe.ok (p_0:(Array Value)) (p1:Addr) (Q:VWP) (w:World) (h:qfe p_0 p1 Q w):Calls Try.prog 38 ⟨[.agg p_0,.pointer (some p1)]⟩ w (Ret Q) :=
 qqb [.tmp 3] qed Try.func38 rfl rfl rfl rfl .lf (by kernel_rfl) h
def qv.j2  (Q:VWP) (w:World):Prop :=
 Q (.int .i64 (-1)) w
def qv.b1 (s_0:Sl) (f_1:OAd) (t7 t8:Int) (Q:VWP) (nx1:Sl→OAd→Int→Int→WP) (w:World):Prop :=
 br (decide (t8 < t7)) (
 ixS s_0.a s_0.len t8 20 fun a1 =>
 ldA w a1 20 fun c2 =>
 cr_B 38 [.agg c2,.pointer f_1] w fun r5 w4 =>
 br r5 (
 Q (.int .i64 t8) w4) (
 lt (IntKind.i64.wrap (t8+1)) fun x6 =>
 nx1 s_0 f_1 t7 x6 w4)) (
 qv.j2 Q w)
def qv.l1 (s_0:Sl) (f_1:OAd) (t7 t8:Int) (Q:VWP) (w:World):Prop :=
 ∃ (I:Int→WP) (μ:Int→World→Nat),I t8 w∧∀ t8:Int,∀ w:World,I t8 w→qv.b1 s_0 f_1 t7 t8 Q (fun s_0' f_1' t7' t8' w'=>(s_0'=s_0∧f_1'=f_1∧t7'=t7)∧I t8' w'∧μ t8' w' < μ t8 w) w
def qv.j3 (s_0:Sl) (f_1:OAd) (t7 t8:Int) (Q:VWP) (w:World):Prop :=
 qv.l1 s_0 f_1 t7 t8 Q w
def qv.j1 (s_0:Sl) (f_1:OAd) (Q:VWP) (w:World):Prop :=
 qv.j3 s_0 f_1 (s_0.len:Int) 0 Q w
def qv (s_0:Sl) (cap1:OAd) (Q:VWP) (w:World):Prop :=
 qv.j1 s_0 cap1 Q w
theorem qv.ok (s_0:Sl) (cap1:OAd) (Q:VWP) (w:World) (h:qv s_0 cap1 Q w):Calls Try.prog 61 ⟨[sV s_0,.func (.func 38) ⟨[]⟩ ⟨[.pointer cap1]⟩]⟩ w (Ret Q) :=
 qqb [.tmp 4] qed Try.func61 rfl rfl rfl rfl (.sq [sL 0,(1,.c2 38)] (fun a b w=>qv.j1 a b Q w) .lf (.sq [] (fun  w=>qv.j2 Q w) (.sq [sL 0,(1,.c2 38),sI 7,sI 8] (fun a b c d w=>qv.j3 a b c d Q w) .lf (.bk (.lo [sL 0,(1,.c2 38),sI 7] [sI 8] (fun a b c d w=>qv.l1 a b c d Q w) (fun nx1 a b c d w=>qv.b1 a b c d Q nx1 w) fun nx1=>.lf))) .lf)) (by kernel_rfl) h
def qec (s_0:Sl) (cap1:OAd) (Q:VWP) (w:World):Prop :=
 qhf 61 [sV s_0,.func (.func 38) ⟨[]⟩ ⟨[.pointer cap1]⟩] w fun r3 w2 =>
 Q (.bool (decide (r3 ≥ 0))) w2
theorem qec.ok (s_0:Sl) (cap1:OAd) (Q:VWP) (w:World) (h:qec s_0 cap1 Q w):Calls Try.prog 37 ⟨[sV s_0,.func (.func 38) ⟨[]⟩ ⟨[.pointer cap1]⟩]⟩ w (Ret Q) :=
 qqb [.tmp 4] qed Try.func37 rfl rfl rfl rfl .lf (by kernel_rfl) h
def qve (n_0:(Array Value)) (p1:Addr) (Q:VWP) (w:World):Prop :=
 nw w n_0 31 fun a1 w2 =>
 ldI .i64 w2 (Addr.add a1 41) fun x3 =>
 br (decide (x3 < 0)) (
 Q (.bool true) w2) (
 ldI .i64 w2 (Addr.add a1 41) fun x4 =>
 br (decide (x4 ≥ 17179869184)) (
 Q (.bool true) w2) (
 ldL w2 (Addr.add a1 40) fun x5 =>
 cr_B 37 [sV x5,.func (.func 38) ⟨[]⟩ ⟨[.pointer (some p1)]⟩] w2 fun r8 w7 =>
 Q (.bool r8) w7))
theorem qve.ok (n_0:(Array Value)) (p1:Addr) (Q:VWP) (w:World) (h:qve n_0 p1 Q w):Calls Try.prog 36 ⟨[.agg n_0,.pointer (some p1)]⟩ w (Ret Q) :=
 qqb [.tmp 3] qed Try.func36 rfl rfl rfl rfl .lf (by kernel_rfl) h
def qr.j2  (Q:VWP) (w:World):Prop :=
 Q (.int .i64 (-1)) w
def qr.b1 (s_0:Sl) (f_1:OAd) (t7 t8:Int) (Q:VWP) (nx1:Sl→OAd→Int→Int→WP) (w:World):Prop :=
 br (decide (t8 < t7)) (
 ixS s_0.a s_0.len t8 42 fun a1 =>
 ldA w a1 42 fun c2 =>
 cr_B 36 [.agg c2,.pointer f_1] w fun r5 w4 =>
 br r5 (
 Q (.int .i64 t8) w4) (
 lt (IntKind.i64.wrap (t8+1)) fun x6 =>
 nx1 s_0 f_1 t7 x6 w4)) (
 qr.j2 Q w)
def qr.l1 (s_0:Sl) (f_1:OAd) (t7 t8:Int) (Q:VWP) (w:World):Prop :=
 ∃ (I:Int→WP) (μ:Int→World→Nat),I t8 w∧∀ t8:Int,∀ w:World,I t8 w→qr.b1 s_0 f_1 t7 t8 Q (fun s_0' f_1' t7' t8' w'=>(s_0'=s_0∧f_1'=f_1∧t7'=t7)∧I t8' w'∧μ t8' w' < μ t8 w) w
def qr.j3 (s_0:Sl) (f_1:OAd) (t7 t8:Int) (Q:VWP) (w:World):Prop :=
 qr.l1 s_0 f_1 t7 t8 Q w
def qr.j1 (s_0:Sl) (f_1:OAd) (Q:VWP) (w:World):Prop :=
 qr.j3 s_0 f_1 (s_0.len:Int) 0 Q w
def qr (s_0:Sl) (cap1:OAd) (Q:VWP) (w:World):Prop :=
 qr.j1 s_0 cap1 Q w
theorem qr.ok (s_0:Sl) (cap1:OAd) (Q:VWP) (w:World) (h:qr s_0 cap1 Q w):Calls Try.prog 60 ⟨[sV s_0,.func (.func 36) ⟨[]⟩ ⟨[.pointer cap1]⟩]⟩ w (Ret Q) :=
 qqb [.tmp 4] qed Try.func60 rfl rfl rfl rfl (.sq [sL 0,(1,.c2 36)] (fun a b w=>qr.j1 a b Q w) .lf (.sq [] (fun  w=>qr.j2 Q w) (.sq [sL 0,(1,.c2 36),sI 7,sI 8] (fun a b c d w=>qr.j3 a b c d Q w) .lf (.bk (.lo [sL 0,(1,.c2 36),sI 7] [sI 8] (fun a b c d w=>qr.l1 a b c d Q w) (fun nx1 a b c d w=>qr.b1 a b c d Q nx1 w) fun nx1=>.lf))) .lf)) (by kernel_rfl) h
def qxb (s_0:Sl) (cap1:OAd) (Q:VWP) (w:World):Prop :=
 qhf 60 [sV s_0,.func (.func 36) ⟨[]⟩ ⟨[.pointer cap1]⟩] w fun r3 w2 =>
 Q (.bool (decide (r3 ≥ 0))) w2
theorem qxb.ok (s_0:Sl) (cap1:OAd) (Q:VWP) (w:World) (h:qxb s_0 cap1 Q w):Calls Try.prog 35 ⟨[sV s_0,.func (.func 36) ⟨[]⟩ ⟨[.pointer cap1]⟩]⟩ w (Ret Q) :=
 qqb [.tmp 4] qed Try.func35 rfl rfl rfl rfl .lf (by kernel_rfl) h
def qag (l_0:Sl) (Q:VWP) (w:World):Prop :=
 Calls Try.prog 29 ⟨[sV l_0]⟩ w fun e1 w2 =>
 ∃ r3:(Option Nat),e1=.returned (.map r3) ∧
 nw w2 (zc Try.prog 68) 68 fun a4 w5 =>
 st w5 a4 (.map r3) fun w6 =>
 ldM w6 a4 fun x7 =>
 ∃ x8:Int,lnR Try.prog [68] 3 [.map x7] w6 x8 ∧
 br (decide (x8 < (l_0.len:Int))) (
 Q (.bool true) w6) (
 cr_B 35 [sV l_0,.func (.func 36) ⟨[]⟩ ⟨[.pointer (some a4)]⟩] w6 fun r11 w10 =>
 Q (.bool r11) w10)
theorem qag.ok (l_0:Sl) (Q:VWP) (w:World) (h:qag l_0 Q w):Calls Try.prog 14 ⟨[sV l_0]⟩ w (Ret Q) :=
 qqb [.tmp 2] qed Try.func14 rfl rfl rfl rfl .lf (by kernel_rfl) h
def qrb.j2 (out_3:Sl) (Q:VWP) (w:World):Prop :=
 Q (sV out_3) w
def qrb.b1 (t6:Sl) (t7:Int) (out_3:Sl) (t8:Int) (Q:VWP) (nx1:Sl→Int→Sl→Int→WP) (w:World):Prop :=
 br (decide (t8 < t7)) (
 ixS t6.a t6.len t8 42 fun a1 =>
 ldA w a1 42 fun c2 =>
 nw w (zc Try.prog 31) 31 fun a3 w4 =>
 (c2).size=42 ∧
 stA w4 a3 c2 fun w5 =>
 ldA w5 (Addr.add a3 0) 20 fun c6 =>
 (c6).size=20 ∧
 nw w5 ⟨(spl [.int .u8 0,.int .u8 0,.int .u8 0,.int .u8 0,.int .u8 0,.int .u8 0,.int .u8 0,.int .u8 0,.int .u8 0,.int .u8 0,.int .u8 0,.int .u8 0,.int .u8 0,.int .u8 0,.int .u8 0,.int .u8 0,.int .u8 0,.int .u8 0,.int .u8 0,.int .u8 0] 0 c6)⟩ 28 fun a7 w8 =>
 rdO w8 (some a7) (1 * 20) fun c9 =>
 apK Try.prog 28 w8 out_3.a out_3.len out_3.cap 1 c9 fun s10 w11 =>
 lt (IntKind.i64.wrap (t8+1)) fun x12 =>
 nx1 t6 t7 s10 x12 w11) (
 qrb.j2 out_3 Q w)
def qrb.l1 (t6:Sl) (t7:Int) (out_3:Sl) (t8:Int) (Q:VWP) (w:World):Prop :=
 ∃ (I:Sl→Int→WP) (μ:Sl→Int→World→Nat),I out_3 t8 w∧∀ out_3:Sl,∀ t8:Int,∀ w:World,I out_3 t8 w→qrb.b1 t6 t7 out_3 t8 Q (fun t6' t7' out_3' t8' w'=>(t6'=t6∧t7'=t7)∧I out_3' t8' w'∧μ out_3' t8' w' < μ out_3 t8 w) w
def qrb.j3 (out_3 t6:Sl) (t7:Int) (t8:Int) (Q:VWP) (w:World):Prop :=
 qrb.l1 t6 t7 out_3 t8 Q w
def qrb.j1 (l_0 out_3:Sl) (Q:VWP) (w:World):Prop :=
 qrb.j3 out_3 l_0 (l_0.len:Int) 0 Q w
def qrb (l_0:Sl) (Q:VWP) (w:World):Prop :=
 qrb.j1 l_0 ⟨none,0,0⟩ Q w
theorem qrb.ok (l_0:Sl) (Q:VWP) (w:World) (h:qrb l_0 Q w):Calls Try.prog 19 ⟨[sV l_0]⟩ w (Ret Q) :=
 qqb [.tmp 2] qed Try.func19 rfl rfl rfl rfl (.pr 1 [sL 0,sL 3] (fun a b w=>qrb.j1 a b Q w) (.sq [sL 3] (fun a w=>qrb.j2 a Q w) (.sq [sL 3,sL 6,sI 7,sI 8] (fun a b c d w=>qrb.j3 a b c d Q w) .lf (.bk (.lo [sL 6,sI 7] [sL 3,sI 8] (fun a b c d w=>qrb.l1 a b c d Q w) (fun nx1 a b c d w=>qrb.b1 a b c d Q nx1 w) fun nx1=>.lf))) .lf)) (by kernel_rfl) h
def qhb.j2 (out_5:Sl) (Q:VWP) (w:World):Prop :=
 Q (sV out_5) w
def qhb.b1 (all_0 t10:Sl) (t11:Int) (out_5:Sl) (t12:Int) (Q:VWP) (nx1:Sl→Sl→Int→Sl→Int→WP) (w:World):Prop :=
 br (decide (t12 < t11)) (
 ixS t10.a t10.len t12 20 fun a1 =>
 ldA w a1 20 fun c2 =>
 nw w (zc Try.prog 28) 28 fun a3 w4 =>
 (c2).size=20 ∧
 stA w4 a3 c2 fun w5 =>
 ldA w5 a3 20 fun c6 =>
 ct_IB 33 [sV all_0,.agg c6] w5 fun r9 r10 w8 =>
 nw w8 ⟨[.int .i64 r9]⟩ 3 fun a11 w12 =>
 rdO w12 (some a11) (1 * 1) fun c13 =>
 apK Try.prog 3 w12 out_5.a out_5.len out_5.cap 1 c13 fun s14 w15 =>
 lt (IntKind.i64.wrap (t12+1)) fun x16 =>
 nx1 all_0 t10 t11 s14 x16 w15) (
 qhb.j2 out_5 Q w)
def qhb.l1 (all_0 t10:Sl) (t11:Int) (out_5:Sl) (t12:Int) (Q:VWP) (w:World):Prop :=
 ∃ (I:Sl→Int→WP) (μ:Sl→Int→World→Nat),I out_5 t12 w∧∀ out_5:Sl,∀ t12:Int,∀ w:World,I out_5 t12 w→qhb.b1 all_0 t10 t11 out_5 t12 Q (fun all_0' t10' t11' out_5' t12' w'=>(all_0'=all_0∧t10'=t10∧t11'=t11)∧I out_5' t12' w'∧μ out_5' t12' w' < μ out_5 t12 w) w
def qhb.j3 (all_0 out_5 t10:Sl) (t11:Int) (t12:Int) (Q:VWP) (w:World):Prop :=
 qhb.l1 all_0 t10 t11 out_5 t12 Q w
def qhb.j1 (all_0 l_1 out_5:Sl) (Q:VWP) (w:World):Prop :=
 qhb.j3 all_0 out_5 l_1 (l_1.len:Int) 0 Q w
def qhb (all_0 l_1:Sl) (Q:VWP) (w:World):Prop :=
 qhb.j1 all_0 l_1 ⟨none,0,0⟩ Q w
theorem qhb.ok (all_0:Sl) (l_1:Sl) (Q:VWP) (w:World) (h:qhb all_0 l_1 Q w):Calls Try.prog 22 ⟨[sV all_0,sV l_1]⟩ w (Ret Q) :=
 qqb [.tmp 4] qed Try.func22 rfl rfl rfl rfl (.pr 1 [sL 0,sL 1,sL 5] (fun a b c w=>qhb.j1 a b c Q w) (.sq [sL 5] (fun a w=>qhb.j2 a Q w) (.sq [sL 0,sL 5,sL 10,sI 11,sI 12] (fun a b c d e w=>qhb.j3 a b c d e Q w) .lf (.bk (.lo [sL 0,sL 10,sI 11] [sL 5,sI 12] (fun a b c d e w=>qhb.l1 a b c d e Q w) (fun nx1 a b c d e w=>qhb.b1 a b c d e Q nx1 w) fun nx1=>.lf))) .lf)) (by kernel_rfl) h
def qg.j7 (t7 t8 t9 t10:Sl) (Q:VWP) (w:World):Prop :=
 nw w ⟨[sV t7,sV t8,sV t9,sV t10]⟩ 26 fun a1 w2 =>
 qhc 24 [.slice (some a1) 4 4] w2 fun r5 w4 =>
 Q (.tuple ⟨[sV r5,.int .i64 0]⟩) w4
def qg.j10 (t4:(Option Nat)) (t6 t7 t8 t9 t10 t48:Sl) (t49:Int) (t50:Int) (Q:VWP) (nx1:(Option Nat)→Sl→Sl→Sl→Int→Sl→Sl→Sl→Int→WP) (w:World):Prop :=
 lt (IntKind.i64.wrap (t50+1)) fun x6 =>
 nx1 t4 t6 t7 t48 t49 t8 t9 t10 x6 w
def qg.j14 (t4:(Option Nat)) (t6 t7 t8 t9 t10:Sl) (t14:Addr) (t16 t17:Int) (t48:Sl) (t49 t50:Int) (Q:VWP) (nx1:(Option Nat)→Sl→Sl→Sl→Int→Sl→Sl→Sl→Int→WP) (w:World):Prop :=
 ldA w (Addr.add t14 0) 20 fun c7 =>
 ∃ r8:Int,lkR Try.prog 49 (.map t4) (.agg c7) false w (.int .i64 r8) ∧
 br (decide (r8 > 536870912)) (
 Q (.tuple ⟨[.slice none 0 0,.int .i64 5]⟩) w) (
 lt (World.drew w) fun w9 =>
 (qhc 21 [sV t9,.int .i64 t16] w9 fun r12 w11 =>
 (qhc 21 [sV r12,.int .i64 t17] w11 fun r15 w14 =>
 (ldA w14 (Addr.add t14 0) 20 fun c16 =>
 (∃ r17:Int,lkR Try.prog 49 (.map t4) (.agg c16) false w14 (.int .i64 r17) ∧
 (0:Int)≤34 ∧
 lt (qxe .i64 r17 34) fun x18 =>
 ldI .i64 w14 (Addr.add t14 41) fun x19 =>
 lt (orV .i64 x18 x19) fun x20 =>
 qhc 23 [sV r15,.int .i64 x20] w14 fun r23 w22 =>
 qg.j10 t4 t6 t7 t8 r23 t10 t48 t49 t50 Q nx1 w22)∧(
 ldI .i64 w14 (Addr.add t14 41) fun x24 =>
 ∃ r25:Int,lkR Try.prog 49 (.map t4) (.agg c16) false w14 (.int .i64 r25) ∧
 (0:Int)≤34 ∧
 lt (qxe .i64 r25 34) fun x26 =>
 lt (orV .i64 x26 x24) fun x27 =>
 qhc 23 [sV r15,.int .i64 x27] w14 fun r30 w29 =>
 qg.j10 t4 t6 t7 t8 r30 t10 t48 t49 t50 Q nx1 w29))∧(
 ldI .i64 w14 (Addr.add t14 41) fun x31 =>
 ldA w14 (Addr.add t14 0) 20 fun c32 =>
 ∃ r33:Int,lkR Try.prog 49 (.map t4) (.agg c32) false w14 (.int .i64 r33) ∧
 (0:Int)≤34 ∧
 lt (qxe .i64 r33 34) fun x34 =>
 lt (orV .i64 x34 x31) fun x35 =>
 qhc 23 [sV r15,.int .i64 x35] w14 fun r38 w37 =>
 qg.j10 t4 t6 t7 t8 r38 t10 t48 t49 t50 Q nx1 w37))∧(
 ldA w11 (Addr.add t14 0) 20 fun c39 =>
 (qhc 21 [sV r12,.int .i64 t17] w11 fun r42 w41 =>
 (∃ r43:Int,lkR Try.prog 49 (.map t4) (.agg c39) false w41 (.int .i64 r43) ∧
 (0:Int)≤34 ∧
 lt (qxe .i64 r43 34) fun x44 =>
 ldI .i64 w41 (Addr.add t14 41) fun x45 =>
 lt (orV .i64 x44 x45) fun x46 =>
 qhc 23 [sV r42,.int .i64 x46] w41 fun r49 w48 =>
 qg.j10 t4 t6 t7 t8 r49 t10 t48 t49 t50 Q nx1 w48)∧(
 ldI .i64 w41 (Addr.add t14 41) fun x50 =>
 ∃ r51:Int,lkR Try.prog 49 (.map t4) (.agg c39) false w41 (.int .i64 r51) ∧
 (0:Int)≤34 ∧
 lt (qxe .i64 r51 34) fun x52 =>
 lt (orV .i64 x52 x50) fun x53 =>
 qhc 23 [sV r42,.int .i64 x53] w41 fun r56 w55 =>
 qg.j10 t4 t6 t7 t8 r56 t10 t48 t49 t50 Q nx1 w55))∧(
 ∃ r57:Int,lkR Try.prog 49 (.map t4) (.agg c39) false w11 (.int .i64 r57) ∧
 (0:Int)≤34 ∧
 lt (qxe .i64 r57 34) fun x58 =>
 (qhc 21 [sV r12,.int .i64 t17] w11 fun r61 w60 =>
 ldI .i64 w60 (Addr.add t14 41) fun x62 =>
 lt (orV .i64 x58 x62) fun x63 =>
 qhc 23 [sV r61,.int .i64 x63] w60 fun r66 w65 =>
 qg.j10 t4 t6 t7 t8 r66 t10 t48 t49 t50 Q nx1 w65)∧(
 ldI .i64 w11 (Addr.add t14 41) fun x67 =>
 lt (orV .i64 x58 x67) fun x68 =>
 qhc 21 [sV r12,.int .i64 t17] w11 fun r71 w70 =>
 qhc 23 [sV r71,.int .i64 x68] w70 fun r74 w73 =>
 qg.j10 t4 t6 t7 t8 r74 t10 t48 t49 t50 Q nx1 w73))∧(
 ldI .i64 w11 (Addr.add t14 41) fun x75 =>
 (qhc 21 [sV r12,.int .i64 t17] w11 fun r78 w77 =>
 ∃ r79:Int,lkR Try.prog 49 (.map t4) (.agg c39) false w77 (.int .i64 r79) ∧
 (0:Int)≤34 ∧
 lt (qxe .i64 r79 34) fun x80 =>
 lt (orV .i64 x80 x75) fun x81 =>
 qhc 23 [sV r78,.int .i64 x81] w77 fun r84 w83 =>
 qg.j10 t4 t6 t7 t8 r84 t10 t48 t49 t50 Q nx1 w83)∧(
 ∃ r85:Int,lkR Try.prog 49 (.map t4) (.agg c39) false w11 (.int .i64 r85) ∧
 (0:Int)≤34 ∧
 lt (qxe .i64 r85 34) fun x86 =>
 lt (orV .i64 x86 x75) fun x87 =>
 qhc 21 [sV r12,.int .i64 t17] w11 fun r90 w89 =>
 qhc 23 [sV r90,.int .i64 x87] w89 fun r93 w92 =>
 qg.j10 t4 t6 t7 t8 r93 t10 t48 t49 t50 Q nx1 w92)))∧(
 ldI .i64 w11 (Addr.add t14 41) fun x94 =>
 (qhc 21 [sV r12,.int .i64 t17] w11 fun r97 w96 =>
 ldA w96 (Addr.add t14 0) 20 fun c98 =>
 ∃ r99:Int,lkR Try.prog 49 (.map t4) (.agg c98) false w96 (.int .i64 r99) ∧
 (0:Int)≤34 ∧
 lt (qxe .i64 r99 34) fun x100 =>
 lt (orV .i64 x100 x94) fun x101 =>
 qhc 23 [sV r97,.int .i64 x101] w96 fun r104 w103 =>
 qg.j10 t4 t6 t7 t8 r104 t10 t48 t49 t50 Q nx1 w103)∧(
 ldA w11 (Addr.add t14 0) 20 fun c105 =>
 (qhc 21 [sV r12,.int .i64 t17] w11 fun r108 w107 =>
 ∃ r109:Int,lkR Try.prog 49 (.map t4) (.agg c105) false w107 (.int .i64 r109) ∧
 (0:Int)≤34 ∧
 lt (qxe .i64 r109 34) fun x110 =>
 lt (orV .i64 x110 x94) fun x111 =>
 qhc 23 [sV r108,.int .i64 x111] w107 fun r114 w113 =>
 qg.j10 t4 t6 t7 t8 r114 t10 t48 t49 t50 Q nx1 w113)∧(
 ∃ r115:Int,lkR Try.prog 49 (.map t4) (.agg c105) false w11 (.int .i64 r115) ∧
 (0:Int)≤34 ∧
 lt (qxe .i64 r115 34) fun x116 =>
 lt (orV .i64 x116 x94) fun x117 =>
 qhc 21 [sV r12,.int .i64 t17] w11 fun r120 w119 =>
 qhc 23 [sV r120,.int .i64 x117] w119 fun r123 w122 =>
 qg.j10 t4 t6 t7 t8 r123 t10 t48 t49 t50 Q nx1 w122))))∧(
 ldA w9 (Addr.add t14 0) 20 fun c124 =>
 (qhc 21 [sV t9,.int .i64 t16] w9 fun r127 w126 =>
 (qhc 21 [sV r127,.int .i64 t17] w126 fun r130 w129 =>
 (∃ r131:Int,lkR Try.prog 49 (.map t4) (.agg c124) false w129 (.int .i64 r131) ∧
 (0:Int)≤34 ∧
 lt (qxe .i64 r131 34) fun x132 =>
 ldI .i64 w129 (Addr.add t14 41) fun x133 =>
 lt (orV .i64 x132 x133) fun x134 =>
 qhc 23 [sV r130,.int .i64 x134] w129 fun r137 w136 =>
 qg.j10 t4 t6 t7 t8 r137 t10 t48 t49 t50 Q nx1 w136)∧(
 ldI .i64 w129 (Addr.add t14 41) fun x138 =>
 ∃ r139:Int,lkR Try.prog 49 (.map t4) (.agg c124) false w129 (.int .i64 r139) ∧
 (0:Int)≤34 ∧
 lt (qxe .i64 r139 34) fun x140 =>
 lt (orV .i64 x140 x138) fun x141 =>
 qhc 23 [sV r130,.int .i64 x141] w129 fun r144 w143 =>
 qg.j10 t4 t6 t7 t8 r144 t10 t48 t49 t50 Q nx1 w143))∧(
 ∃ r145:Int,lkR Try.prog 49 (.map t4) (.agg c124) false w126 (.int .i64 r145) ∧
 (0:Int)≤34 ∧
 lt (qxe .i64 r145 34) fun x146 =>
 (qhc 21 [sV r127,.int .i64 t17] w126 fun r149 w148 =>
 ldI .i64 w148 (Addr.add t14 41) fun x150 =>
 lt (orV .i64 x146 x150) fun x151 =>
 qhc 23 [sV r149,.int .i64 x151] w148 fun r154 w153 =>
 qg.j10 t4 t6 t7 t8 r154 t10 t48 t49 t50 Q nx1 w153)∧(
 ldI .i64 w126 (Addr.add t14 41) fun x155 =>
 lt (orV .i64 x146 x155) fun x156 =>
 qhc 21 [sV r127,.int .i64 t17] w126 fun r159 w158 =>
 qhc 23 [sV r159,.int .i64 x156] w158 fun r162 w161 =>
 qg.j10 t4 t6 t7 t8 r162 t10 t48 t49 t50 Q nx1 w161))∧(
 ldI .i64 w126 (Addr.add t14 41) fun x163 =>
 (qhc 21 [sV r127,.int .i64 t17] w126 fun r166 w165 =>
 ∃ r167:Int,lkR Try.prog 49 (.map t4) (.agg c124) false w165 (.int .i64 r167) ∧
 (0:Int)≤34 ∧
 lt (qxe .i64 r167 34) fun x168 =>
 lt (orV .i64 x168 x163) fun x169 =>
 qhc 23 [sV r166,.int .i64 x169] w165 fun r172 w171 =>
 qg.j10 t4 t6 t7 t8 r172 t10 t48 t49 t50 Q nx1 w171)∧(
 ∃ r173:Int,lkR Try.prog 49 (.map t4) (.agg c124) false w126 (.int .i64 r173) ∧
 (0:Int)≤34 ∧
 lt (qxe .i64 r173 34) fun x174 =>
 lt (orV .i64 x174 x163) fun x175 =>
 qhc 21 [sV r127,.int .i64 t17] w126 fun r178 w177 =>
 qhc 23 [sV r178,.int .i64 x175] w177 fun r181 w180 =>
 qg.j10 t4 t6 t7 t8 r181 t10 t48 t49 t50 Q nx1 w180)))∧(
 ∃ r182:Int,lkR Try.prog 49 (.map t4) (.agg c124) false w9 (.int .i64 r182) ∧
 (0:Int)≤34 ∧
 lt (qxe .i64 r182 34) fun x183 =>
 (qhc 21 [sV t9,.int .i64 t16] w9 fun r186 w185 =>
 (qhc 21 [sV r186,.int .i64 t17] w185 fun r189 w188 =>
 ldI .i64 w188 (Addr.add t14 41) fun x190 =>
 lt (orV .i64 x183 x190) fun x191 =>
 qhc 23 [sV r189,.int .i64 x191] w188 fun r194 w193 =>
 qg.j10 t4 t6 t7 t8 r194 t10 t48 t49 t50 Q nx1 w193)∧(
 ldI .i64 w185 (Addr.add t14 41) fun x195 =>
 lt (orV .i64 x183 x195) fun x196 =>
 qhc 21 [sV r186,.int .i64 t17] w185 fun r199 w198 =>
 qhc 23 [sV r199,.int .i64 x196] w198 fun r202 w201 =>
 qg.j10 t4 t6 t7 t8 r202 t10 t48 t49 t50 Q nx1 w201))∧(
 ldI .i64 w9 (Addr.add t14 41) fun x203 =>
 lt (orV .i64 x183 x203) fun x204 =>
 qhc 21 [sV t9,.int .i64 t16] w9 fun r207 w206 =>
 qhc 21 [sV r207,.int .i64 t17] w206 fun r210 w209 =>
 qhc 23 [sV r210,.int .i64 x204] w209 fun r213 w212 =>
 qg.j10 t4 t6 t7 t8 r213 t10 t48 t49 t50 Q nx1 w212))∧(
 ldI .i64 w9 (Addr.add t14 41) fun x214 =>
 (qhc 21 [sV t9,.int .i64 t16] w9 fun r217 w216 =>
 (qhc 21 [sV r217,.int .i64 t17] w216 fun r220 w219 =>
 ∃ r221:Int,lkR Try.prog 49 (.map t4) (.agg c124) false w219 (.int .i64 r221) ∧
 (0:Int)≤34 ∧
 lt (qxe .i64 r221 34) fun x222 =>
 lt (orV .i64 x222 x214) fun x223 =>
 qhc 23 [sV r220,.int .i64 x223] w219 fun r226 w225 =>
 qg.j10 t4 t6 t7 t8 r226 t10 t48 t49 t50 Q nx1 w225)∧(
 ∃ r227:Int,lkR Try.prog 49 (.map t4) (.agg c124) false w216 (.int .i64 r227) ∧
 (0:Int)≤34 ∧
 lt (qxe .i64 r227 34) fun x228 =>
 lt (orV .i64 x228 x214) fun x229 =>
 qhc 21 [sV r217,.int .i64 t17] w216 fun r232 w231 =>
 qhc 23 [sV r232,.int .i64 x229] w231 fun r235 w234 =>
 qg.j10 t4 t6 t7 t8 r235 t10 t48 t49 t50 Q nx1 w234))∧(
 ∃ r236:Int,lkR Try.prog 49 (.map t4) (.agg c124) false w9 (.int .i64 r236) ∧
 (0:Int)≤34 ∧
 lt (qxe .i64 r236 34) fun x237 =>
 lt (orV .i64 x237 x214) fun x238 =>
 qhc 21 [sV t9,.int .i64 t16] w9 fun r241 w240 =>
 qhc 21 [sV r241,.int .i64 t17] w240 fun r244 w243 =>
 qhc 23 [sV r244,.int .i64 x238] w243 fun r247 w246 =>
 qg.j10 t4 t6 t7 t8 r247 t10 t48 t49 t50 Q nx1 w246)))∧(
 ldI .i64 w9 (Addr.add t14 41) fun x248 =>
 (qhc 21 [sV t9,.int .i64 t16] w9 fun r251 w250 =>
 (qhc 21 [sV r251,.int .i64 t17] w250 fun r254 w253 =>
 ldA w253 (Addr.add t14 0) 20 fun c255 =>
 ∃ r256:Int,lkR Try.prog 49 (.map t4) (.agg c255) false w253 (.int .i64 r256) ∧
 (0:Int)≤34 ∧
 lt (qxe .i64 r256 34) fun x257 =>
 lt (orV .i64 x257 x248) fun x258 =>
 qhc 23 [sV r254,.int .i64 x258] w253 fun r261 w260 =>
 qg.j10 t4 t6 t7 t8 r261 t10 t48 t49 t50 Q nx1 w260)∧(
 ldA w250 (Addr.add t14 0) 20 fun c262 =>
 (qhc 21 [sV r251,.int .i64 t17] w250 fun r265 w264 =>
 ∃ r266:Int,lkR Try.prog 49 (.map t4) (.agg c262) false w264 (.int .i64 r266) ∧
 (0:Int)≤34 ∧
 lt (qxe .i64 r266 34) fun x267 =>
 lt (orV .i64 x267 x248) fun x268 =>
 qhc 23 [sV r265,.int .i64 x268] w264 fun r271 w270 =>
 qg.j10 t4 t6 t7 t8 r271 t10 t48 t49 t50 Q nx1 w270)∧(
 ∃ r272:Int,lkR Try.prog 49 (.map t4) (.agg c262) false w250 (.int .i64 r272) ∧
 (0:Int)≤34 ∧
 lt (qxe .i64 r272 34) fun x273 =>
 lt (orV .i64 x273 x248) fun x274 =>
 qhc 21 [sV r251,.int .i64 t17] w250 fun r277 w276 =>
 qhc 23 [sV r277,.int .i64 x274] w276 fun r280 w279 =>
 qg.j10 t4 t6 t7 t8 r280 t10 t48 t49 t50 Q nx1 w279)))∧(
 ldA w9 (Addr.add t14 0) 20 fun c281 =>
 (qhc 21 [sV t9,.int .i64 t16] w9 fun r284 w283 =>
 (qhc 21 [sV r284,.int .i64 t17] w283 fun r287 w286 =>
 ∃ r288:Int,lkR Try.prog 49 (.map t4) (.agg c281) false w286 (.int .i64 r288) ∧
 (0:Int)≤34 ∧
 lt (qxe .i64 r288 34) fun x289 =>
 lt (orV .i64 x289 x248) fun x290 =>
 qhc 23 [sV r287,.int .i64 x290] w286 fun r293 w292 =>
 qg.j10 t4 t6 t7 t8 r293 t10 t48 t49 t50 Q nx1 w292)∧(
 ∃ r294:Int,lkR Try.prog 49 (.map t4) (.agg c281) false w283 (.int .i64 r294) ∧
 (0:Int)≤34 ∧
 lt (qxe .i64 r294 34) fun x295 =>
 lt (orV .i64 x295 x248) fun x296 =>
 qhc 21 [sV r284,.int .i64 t17] w283 fun r299 w298 =>
 qhc 23 [sV r299,.int .i64 x296] w298 fun r302 w301 =>
 qg.j10 t4 t6 t7 t8 r302 t10 t48 t49 t50 Q nx1 w301))∧(
 ∃ r303:Int,lkR Try.prog 49 (.map t4) (.agg c281) false w9 (.int .i64 r303) ∧
 (0:Int)≤34 ∧
 lt (qxe .i64 r303 34) fun x304 =>
 lt (orV .i64 x304 x248) fun x305 =>
 qhc 21 [sV t9,.int .i64 t16] w9 fun r308 w307 =>
 qhc 21 [sV r308,.int .i64 t17] w307 fun r311 w310 =>
 qhc 23 [sV r311,.int .i64 x305] w310 fun r314 w313 =>
 qg.j10 t4 t6 t7 t8 r314 t10 t48 t49 t50 Q nx1 w313))))
def qg.j18 (t4:(Option Nat)) (t6 t7 t8 t9 t10:Sl) (t14:Addr) (t16 t17:Int) (t48:Sl) (t49 t50:Int) (Q:VWP) (nx1:(Option Nat)→Sl→Sl→Sl→Int→Sl→Sl→Sl→Int→WP) (w:World):Prop :=
 lt (IntKind.i64.wrap ((t10.len:Int) - 4)) fun x317 =>
 ixS t10.a t10.len x317 1 fun a318 =>
 ldI .u8 w a318 fun x319 =>
 lt (orV .u8 x319 128) fun x320 =>
 ixS t10.a t10.len x317 1 fun a321 =>
 st w a321 (.int .u8 x320) fun w322 =>
 qg.j14 t4 t6 t7 t8 t9 t10 t14 t16 t17 t48 t49 t50 Q nx1 w322
def qg.b2 (t4:(Option Nat)) (t6 t7 t8 t9:Sl) (t14:Addr) (t16 t17:Int) (t48:Sl) (t49 t50:Int) (t88:Sl) (t89:Int) (t10:Sl) (t90:Int) (Q:VWP) (nx1:(Option Nat)→Sl→Sl→Sl→Int→Sl→Sl→Sl→Int→WP) (nx2:(Option Nat)→Sl→Sl→Sl→Sl→Addr→Int→Int→Sl→Int→Int→Sl→Int→Sl→Int→WP) (w:World):Prop :=
 br (decide (t90 < t89)) (
 ixS t88.a t88.len t90 1 fun a323 =>
 ldI .i64 w a323 fun x324 =>
 qhc 21 [sV t10,.int .i64 x324] w fun r327 w326 =>
 lt (IntKind.i64.wrap (t90+1)) fun x328 =>
 nx2 t4 t6 t7 t8 t9 t14 t16 t17 t48 t49 t50 t88 t89 r327 x328 w326) (
 qg.j18 t4 t6 t7 t8 t9 t10 t14 t16 t17 t48 t49 t50 Q nx1 w)
def qg.l2 (t4:(Option Nat)) (t6 t7 t8 t9:Sl) (t14:Addr) (t16 t17:Int) (t48:Sl) (t49 t50:Int) (t88:Sl) (t89:Int) (t10:Sl) (t90:Int) (Q:VWP) (nx1:(Option Nat)→Sl→Sl→Sl→Int→Sl→Sl→Sl→Int→WP) (w:World):Prop :=
 ∃ (I:Sl→Int→WP) (μ:Sl→Int→World→Nat),I t10 t90 w∧∀ t10:Sl,∀ t90:Int,∀ w:World,I t10 t90 w→qg.b2 t4 t6 t7 t8 t9 t14 t16 t17 t48 t49 t50 t88 t89 t10 t90 Q nx1 (fun t4' t6' t7' t8' t9' t14' t16' t17' t48' t49' t50' t88' t89' t10' t90' w'=>(t4'=t4∧t6'=t6∧t7'=t7∧t8'=t8∧t9'=t9∧t14'=t14∧t16'=t16∧t17'=t17∧t48'=t48∧t49'=t49∧t50'=t50∧t88'=t88∧t89'=t89)∧I t10' t90' w'∧μ t10' t90' w' < μ t10 t90 w) w
def qg.j19 (t4:(Option Nat)) (t6 t7 t8 t9 t10:Sl) (t14:Addr) (t16 t17:Int) (t48:Sl) (t49 t50:Int) (t88:Sl) (t89 t90:Int) (Q:VWP) (nx1:(Option Nat)→Sl→Sl→Sl→Int→Sl→Sl→Sl→Int→WP) (w:World):Prop :=
 qg.l2 t4 t6 t7 t8 t9 t14 t16 t17 t48 t49 t50 t88 t89 t10 t90 Q nx1 w
def qg.j17 (t4:(Option Nat)) (t6 t7 t8 t9 t10:Sl) (t14:Addr) (t15:Sl) (t16:Int) (t17:Int) (t48:Sl) (t49 t50:Int) (Q:VWP) (nx1:(Option Nat)→Sl→Sl→Sl→Int→Sl→Sl→Sl→Int→WP) (w:World):Prop :=
 bd 1 t15.len fun n329 =>
 lt (⟨qvd t15.a t15.cap n329 1,t15.len - n329,t15.cap - n329⟩:Sl) fun s330 =>
 qg.j19 t4 t6 t7 t8 t9 t10 t14 t16 t17 t48 t49 t50 s330 (s330.len:Int) 0 Q nx1 w
def qg.j16 (t4:(Option Nat)) (t6 t7 t8 t9 t10:Sl) (t14:Addr) (t15:Sl) (t16:Int) (t17:Int) (t48:Sl) (t49 t50:Int) (t79:Bool) (Q:VWP) (nx1:(Option Nat)→Sl→Sl→Sl→Int→Sl→Sl→Sl→Int→WP) (w:World):Prop :=
 br t79 (
 (4:Int) ≠ 0 ∧
 lt (IntKind.i64.wrap (Int.tdiv (t10.len:Int) 4)) fun x331 =>
 lt (orV .i64 2147483648 x331) fun x332 =>
 qg.j17 t4 t6 t7 t8 t9 t10 t14 t15 t16 x332 t48 t49 t50 Q nx1 w) (
 qg.j14 t4 t6 t7 t8 t9 t10 t14 t16 t17 t48 t49 t50 Q nx1 w)
def qg.j15 (t4:(Option Nat)) (t6 t7 t8 t9 t10:Sl) (t14:Addr) (t15:Sl) (t16:Int) (t17:Int) (t48:Sl) (t49 t50:Int) (t72:Bool) (Q:VWP) (nx1:(Option Nat)→Sl→Sl→Sl→Int→Sl→Sl→Sl→Int→WP) (w:World):Prop :=
 br t72 (
 ixS t15.a t15.len 1 1 fun a315 =>
 ldI .i64 w a315 fun x316 =>
 qg.j14 t4 t6 t7 t8 t9 t10 t14 t16 x316 t48 t49 t50 Q nx1 w) (
 qg.j16 t4 t6 t7 t8 t9 t10 t14 t15 t16 t17 t48 t49 t50 (decide ((t15.len:Int) > 2)) Q nx1 w)
def qg.j13 (t4:(Option Nat)) (t6 t7 t8 t9 t10:Sl) (t14:Addr) (t15:Sl) (t16:Int) (t17:Int) (t48:Sl) (t49 t50:Int) (Q:VWP) (nx1:(Option Nat)→Sl→Sl→Sl→Int→Sl→Sl→Sl→Int→WP) (w:World):Prop :=
 qg.j15 t4 t6 t7 t8 t9 t10 t14 t15 t16 t17 t48 t49 t50 ((t15.len:Int) == 2) Q nx1 w
def qg.j12 (t4:(Option Nat)) (t6 t7 t8 t9 t10:Sl) (t14:Addr) (t15 t48:Sl) (t49:Int) (t50:Int) (Q:VWP) (nx1:(Option Nat)→Sl→Sl→Sl→Int→Sl→Sl→Sl→Int→WP) (w:World):Prop :=
 br (decide ((t15.len:Int) > 0)) (
 ixS t15.a t15.len 0 1 fun a333 =>
 ldI .i64 w a333 fun x334 =>
 qg.j13 t4 t6 t7 t8 t9 t10 t14 t15 x334 1879048192 t48 t49 t50 Q nx1 w) (
 qg.j13 t4 t6 t7 t8 t9 t10 t14 t15 1879048192 1879048192 t48 t49 t50 Q nx1 w)
def qg.j11 (t4:(Option Nat)) (t6 t7 t8 t9 t10:Sl) (t14:Addr) (t48:Sl) (t49:Int) (t50:Int) (Q:VWP) (nx1:(Option Nat)→Sl→Sl→Sl→Int→Sl→Sl→Sl→Int→WP) (w:World):Prop :=
 lt (⟨cutP (Addr.add t14 20) 20 0 1,20 - 0,20 - 0⟩:Sl) fun s335 =>
 rdO w s335.a (s335.len * 1) fun c336 =>
 apK Try.prog 5 w t9.a t9.len t9.cap s335.len c336 fun s337 w338 =>
 ldL w338 (Addr.add t14 40) fun x339 =>
 qhc 22 [sV t6,sV x339] w338 fun r342 w341 =>
 qg.j12 t4 t6 t7 t8 s337 t10 t14 r342 t48 t49 t50 Q nx1 w341
def qg.j9 (t4:(Option Nat)) (t6 t7 t8 t9 t10 t48:Sl) (t49:Int) (t50:Int) (Q:VWP) (nx1:(Option Nat)→Sl→Sl→Sl→Int→Sl→Sl→Sl→Int→WP) (w:World):Prop :=
 ixS t48.a t48.len t50 42 fun a343 =>
 ldA w a343 42 fun c344 =>
 nw w (zc Try.prog 31) 31 fun a345 w346 =>
 (c344).size=42 ∧
 stA w346 a345 c344 fun w347 =>
 lt (⟨cutP (Addr.add a345 0) 20 0 1,20 - 0,20 - 0⟩:Sl) fun s348 =>
 rdO w347 s348.a (s348.len * 1) fun c349 =>
 apK Try.prog 5 w347 t8.a t8.len t8.cap s348.len c349 fun s350 w351 =>
 qg.j11 t4 t6 t7 s350 t9 t10 a345 t48 t49 t50 Q nx1 w351
def qg.b1 (t4:(Option Nat)) (t6 t7 t48:Sl) (t49:Int) (t8 t9 t10:Sl) (t50:Int) (Q:VWP) (nx1:(Option Nat)→Sl→Sl→Sl→Int→Sl→Sl→Sl→Int→WP) (w:World):Prop :=
 br (decide (t50 < t49)) (
 qg.j9 t4 t6 t7 t8 t9 t10 t48 t49 t50 Q nx1 w) (
 qg.j7 t7 t8 t9 t10 Q w)
def qg.l1 (t4:(Option Nat)) (t6 t7 t48:Sl) (t49:Int) (t8 t9 t10:Sl) (t50:Int) (Q:VWP) (w:World):Prop :=
 ∃ (I:Sl→Sl→Sl→Int→WP) (μ:Sl→Sl→Sl→Int→World→Nat),I t8 t9 t10 t50 w∧∀ t8:Sl,∀ t9:Sl,∀ t10:Sl,∀ t50:Int,∀ w:World,I t8 t9 t10 t50 w→qg.b1 t4 t6 t7 t48 t49 t8 t9 t10 t50 Q (fun t4' t6' t7' t48' t49' t8' t9' t10' t50' w'=>(t4'=t4∧t6'=t6∧t7'=t7∧t48'=t48∧t49'=t49)∧I t8' t9' t10' t50' w'∧μ t8' t9' t10' t50' w' < μ t8 t9 t10 t50 w) w
def qg.j8 (t4:(Option Nat)) (t6 t7 t8 t9 t10 t48:Sl) (t49:Int) (t50:Int) (Q:VWP) (w:World):Prop :=
 qg.l1 t4 t6 t7 t48 t49 t8 t9 t10 t50 Q w
def qg.j6 (d_0:Sl) (t4:(Option Nat)) (t6 t7 t8 t9 t10:Sl) (Q:VWP) (w:World):Prop :=
 qg.j8 t4 t6 t7 t8 t9 t10 d_0 (d_0.len:Int) 0 Q w
def qg.b3 (d_0:Sl) (t4:(Option Nat)) (t6 t8 t9 t10:Sl) (t40:(Array Value)) (t7:Sl) (t41:Int) (Q:VWP) (nx3:Sl→(Option Nat)→Sl→Sl→Sl→Sl→(Array Value)→Sl→Int→WP) (w:World):Prop :=
 br (decide (t41 < 256)) (
 ((0:Int)≤t41∧t41 < ((256:Nat):Int)) ∧
 ptI .i64 t40 (Int.toNat t41 * 1) fun x352 =>
 qhc 21 [sV t7,.int .i64 x352] w fun r355 w354 =>
 lt (IntKind.i64.wrap (t41+1)) fun x356 =>
 nx3 d_0 t4 t6 t8 t9 t10 t40 r355 x356 w354) (
 qg.j6 d_0 t4 t6 t7 t8 t9 t10 Q w)
def qg.l3 (d_0:Sl) (t4:(Option Nat)) (t6 t8 t9 t10:Sl) (t40:(Array Value)) (t7:Sl) (t41:Int) (Q:VWP) (w:World):Prop :=
 ∃ (I:Sl→Int→WP) (μ:Sl→Int→World→Nat),I t7 t41 w∧∀ t7:Sl,∀ t41:Int,∀ w:World,I t7 t41 w→qg.b3 d_0 t4 t6 t8 t9 t10 t40 t7 t41 Q (fun d_0' t4' t6' t8' t9' t10' t40' t7' t41' w'=>(d_0'=d_0∧t4'=t4∧t6'=t6∧t8'=t8∧t9'=t9∧t10'=t10∧t40'=t40)∧I t7' t41' w'∧μ t7' t41' w' < μ t7 t41 w) w
def qg.j20 (d_0:Sl) (t4:(Option Nat)) (t6 t7 t8 t9 t10:Sl) (t40:(Array Value)) (t41:Int) (Q:VWP) (w:World):Prop :=
 qg.l3 d_0 t4 t6 t8 t9 t10 t40 t7 t41 Q w
def qg.j5 (d_0:Sl) (t4:(Option Nat)) (t6 t7 t8 t9 t10:Sl) (Q:VWP) (w:World):Prop :=
 cr_G 20 [sV t6] w fun r359 w358 =>
 qg.j20 d_0 t4 t6 t7 t8 t9 t10 r359 0 Q w358
def qg.j4 (d_0:Sl) (t4:(Option Nat)) (Q:VWP) (w:World):Prop :=
 qhc 19 [sV d_0] w fun r362 w361 =>
 qg.j5 d_0 t4 r362 ⟨none,0,0⟩ ⟨none,0,0⟩ ⟨none,0,0⟩ ⟨none,0,0⟩ Q w361
def qg.j3 (d_0:Sl) (t4:(Option Nat)) (Q:VWP) (w:World):Prop :=
 ct_ 17 [sV d_0,.func (.func 18) ⟨[]⟩ ⟨[]⟩] w fun w364 =>
 br (decide ((d_0.len:Int) > 1024)) (
 Q (.tuple ⟨[.slice none 0 0,.int .i64 5]⟩) w364) (
 qg.j4 d_0 t4 Q w364)
def qg.j2 (d_0:Sl) (t4:(Option Nat)) (t5:Int) (Q:VWP) (w:World):Prop :=
 br (t5 != 0) (
 Q (.tuple ⟨[.slice none 0 0,.int .i64 t5]⟩) w) (
 qhc 16 [sV d_0] w fun r367 w366 =>
 qg.j3 r367 t4 Q w366)
def qg.j1 (d_0:Sl) (Q:VWP) (w:World):Prop :=
 cr_B 14 [sV d_0] w fun r370 w369 =>
 br r370 (
 Q (.tuple ⟨[.slice none 0 0,.int .i64 1]⟩) w369) (
 Calls Try.prog 15 ⟨[sV d_0]⟩ w369 fun e371 w372 =>
 ∃ r373:(Option Nat),∃ r374:Int,e371=.returned (.tuple ⟨[.map r373,.int .i64 r374]⟩) ∧
 qg.j2 d_0 r373 r374 Q w372)
def qg (d_0:Sl) (Q:VWP) (w:World):Prop :=
 qg.j1 d_0 Q w
theorem qg.ok (d_0:Sl) (Q:VWP) (w:World) (h:qg d_0 Q w):Calls Try.prog 6 ⟨[sV d_0]⟩ w (Ret Q) :=
 qqb [.tmp 2,.tmp 3] qed Try.func6 rfl rfl rfl rfl (.sq [sL 0] (fun a w=>qg.j1 a Q w) .lf (.pr 1 [sL 0,(4,.M),sI 5] (fun a b c w=>qg.j2 a b c Q w) (.pr 1 [sL 0,(4,.M)] (fun a b w=>qg.j3 a b Q w) (.pr 1 [sL 0,(4,.M)] (fun a b w=>qg.j4 a b Q w) (.pr 1 [sL 0,(4,.M),sL 6,sL 7,sL 8,sL 9,sL 10] (fun a b c d e f g w=>qg.j5 a b c d e f g Q w) (.sq [sL 0,(4,.M),sL 6,sL 7,sL 8,sL 9,sL 10] (fun a b c d e f g w=>qg.j6 a b c d e f g Q w) (.sq [sL 0,(4,.M),sL 6,sL 7,sL 8,sL 9,sL 10,(40,.G),sI 41] (fun a b c d e f g h i w=>qg.j20 a b c d e f g h i Q w) .lf (.bk (.lo [sL 0,(4,.M),sL 6,sL 8,sL 9,sL 10,(40,.G)] [sL 7,sI 41] (fun a b c d e f g h i w=>qg.l3 a b c d e f g h i Q w) (fun nx3 a b c d e f g h i w=>qg.b3 a b c d e f g h i Q nx3 w) fun nx3=>.lf))) (.sq [sL 7,sL 8,sL 9,sL 10] (fun a b c d w=>qg.j7 a b c d Q w) (.sq [(4,.M),sL 6,sL 7,sL 8,sL 9,sL 10,sL 48,sI 49,sI 50] (fun a b c d e f g h i w=>qg.j8 a b c d e f g h i Q w) .lf (.bk (.lo [(4,.M),sL 6,sL 7,sL 48,sI 49] [sL 8,sL 9,sL 10,sI 50] (fun a b c d e f g h i w=>qg.l1 a b c d e f g h i Q w) (fun nx1 a b c d e f g h i w=>qg.b1 a b c d e f g h i Q nx1 w) fun nx1=>(.pr 1 [(4,.M),sL 6,sL 7,sL 8,sL 9,sL 10,sL 48,sI 49,sI 50] (fun a b c d e f g h i w=>qg.j9 a b c d e f g h i Q nx1 w) (.sq [(4,.M),sL 6,sL 7,sL 8,sL 9,sL 10,sL 48,sI 49,sI 50] (fun a b c d e f g h i w=>qg.j10 a b c d e f g h i Q nx1 w) (.bk (.pr 1 [(4,.M),sL 6,sL 7,sL 8,sL 9,sL 10,sA 14,sL 48,sI 49,sI 50] (fun a b c d e f g h i j w=>qg.j11 a b c d e f g h i j Q nx1 w) (.pr 1 [(4,.M),sL 6,sL 7,sL 8,sL 9,sL 10,sA 14,sL 15,sL 48,sI 49,sI 50] (fun a b c d e f g h i j k w=>qg.j12 a b c d e f g h i j k Q nx1 w) (.pr 1 [(4,.M),sL 6,sL 7,sL 8,sL 9,sL 10,sA 14,sL 15,sI 16,sI 17,sL 48,sI 49,sI 50] (fun a b c d e f g h i j k l m w=>qg.j13 a b c d e f g h i j k l m Q nx1 w) (.sq [(4,.M),sL 6,sL 7,sL 8,sL 9,sL 10,sA 14,sI 16,sI 17,sL 48,sI 49,sI 50] (fun a b c d e f g h i j k l w=>qg.j14 a b c d e f g h i j k l Q nx1 w) (.bk (.sq [(4,.M),sL 6,sL 7,sL 8,sL 9,sL 10,sA 14,sL 15,sI 16,sI 17,sL 48,sI 49,sI 50,sB 72] (fun a b c d e f g h i j k l m n w=>qg.j15 a b c d e f g h i j k l m n Q nx1 w) .lf (.cd .lf (.sq [(4,.M),sL 6,sL 7,sL 8,sL 9,sL 10,sA 14,sL 15,sI 16,sI 17,sL 48,sI 49,sI 50,sB 79] (fun a b c d e f g h i j k l m n w=>qg.j16 a b c d e f g h i j k l m n Q nx1 w) .lf (.cd (.sq [(4,.M),sL 6,sL 7,sL 8,sL 9,sL 10,sA 14,sL 15,sI 16,sI 17,sL 48,sI 49,sI 50] (fun a b c d e f g h i j k l m w=>qg.j17 a b c d e f g h i j k l m Q nx1 w) .lf (.sq [(4,.M),sL 6,sL 7,sL 8,sL 9,sL 10,sA 14,sI 16,sI 17,sL 48,sI 49,sI 50] (fun a b c d e f g h i j k l w=>qg.j18 a b c d e f g h i j k l Q nx1 w) (.sq [(4,.M),sL 6,sL 7,sL 8,sL 9,sL 10,sA 14,sI 16,sI 17,sL 48,sI 49,sI 50,sL 88,sI 89,sI 90] (fun a b c d e f g h i j k l m n o w=>qg.j19 a b c d e f g h i j k l m n o Q nx1 w) .lf (.bk (.lo [(4,.M),sL 6,sL 7,sL 8,sL 9,sA 14,sI 16,sI 17,sL 48,sI 49,sI 50,sL 88,sI 89] [sL 10,sI 90] (fun a b c d e f g h i j k l m n o w=>qg.l2 a b c d e f g h i j k l m n o Q nx1 w) (fun nx2 a b c d e f g h i j k l m n o w=>qg.b2 a b c d e f g h i j k l m n o Q nx1 nx2 w) fun nx2=>.lf))) .lf)) .lf))))) .lf))))) .lf))))) .lf))))))) (by kernel_rfl) h
def qab.j4 (d_0 t4:Sl) (t5:Int) (Q:VWP) (w:World):Prop :=
 nw w ⟨[.int .u8 0,.int .u8 0,.int .u8 0,.int .u8 0]⟩ 5 fun a1 w2 =>
 rdO w2 (some a1) (4 * 1) fun c3 =>
 apK Try.prog 5 w2 t4.a t4.len t4.cap 4 c3 fun s4 w5 =>
 qhc 23 [sV s4,.int .i64 t5] w5 fun r8 w7 =>
 qhc 43 [sV d_0] w7 fun r11 w10 =>
 rdO w10 r11.a (r11.len * 1) fun c12 =>
 apK Try.prog 5 w10 r8.a r8.len r8.cap r11.len c12 fun s13 w14 =>
 cr_G 26 [sV s13] w14 fun r17 w16 =>
 nw w16 (zc Try.prog 28) 28 fun a18 w19 =>
 (r17).size=20 ∧
 stA w19 a18 r17 fun w20 =>
 lt (⟨cutP a18 20 0 1,20 - 0,20 - 0⟩:Sl) fun s21 =>
 rdO w20 s21.a (s21.len * 1) fun c22 =>
 apK Try.prog 5 w20 s13.a s13.len s13.cap s21.len c22 fun s23 w24 =>
 qhc 44 [sV s23] w24 fun r27 w26 =>
 Q (sV r27) w26
def qab.b1 (d_0 t3 t31:Sl) (t32:Int) (t4:Sl) (t5:Int) (t33:Int) (Q:VWP) (nx1:Sl→Sl→Sl→Int→Sl→Int→Int→WP) (w:World):Prop :=
 br (decide (t33 < t32)) (
 ixS t31.a t31.len t33 1 fun a28 =>
 ldL w a28 fun x29 =>
 ixS t3.a t3.len t33 1 fun a30 =>
 ldS w a30 fun x31 =>
 (1:Nat)=1 ∧
 lt (strCells x31 (ByteArray.size x31)) fun c32 =>
 apK Try.prog 5 w t4.a t4.len t4.cap (ByteArray.size x31) c32 fun s33 w34 =>
 qhc 23 [sV s33,.int .i64 t5] w34 fun r37 w36 =>
 lt (IntKind.i64.wrap (t5+(x29.len:Int))) fun x38 =>
 lt (IntKind.i64.wrap (t33+1)) fun x39 =>
 nx1 d_0 t3 t31 t32 r37 x38 x39 w36) (
 qab.j4 d_0 t4 t5 Q w)
def qab.l1 (d_0 t3 t31:Sl) (t32:Int) (t4:Sl) (t5:Int) (t33:Int) (Q:VWP) (w:World):Prop :=
 ∃ (I:Sl→Int→Int→WP) (μ:Sl→Int→Int→World→Nat),I t4 t5 t33 w∧∀ t4:Sl,∀ t5:Int,∀ t33:Int,∀ w:World,I t4 t5 t33 w→qab.b1 d_0 t3 t31 t32 t4 t5 t33 Q (fun d_0' t3' t31' t32' t4' t5' t33' w'=>(d_0'=d_0∧t3'=t3∧t31'=t31∧t32'=t32)∧I t4' t5' t33' w'∧μ t4' t5' t33' w' < μ t4 t5 t33 w) w
def qab.j5 (d_0 t3 t4:Sl) (t5:Int) (t31:Sl) (t32:Int) (t33:Int) (Q:VWP) (w:World):Prop :=
 qab.l1 d_0 t3 t31 t32 t4 t5 t33 Q w
def qab.j3 (d_0 t3 t4:Sl) (t5:Int) (Q:VWP) (w:World):Prop :=
 qab.j5 d_0 t3 t4 t5 d_0 (d_0.len:Int) 0 Q w
def qab.j2 (d_0 t3:Sl) (Q:VWP) (w:World):Prop :=
 nw w ⟨[.int .u8 67,.int .u8 71,.int .u8 80,.int .u8 72]⟩ 5 fun a40 w41 =>
 mkStr w41 (some a40) fun w42 =>
 lt (IntKind.u8.wrap (d_0.len:Int)) fun x43 =>
 nw w42 ⟨[.int .u8 1,.int .u8 1,.int .u8 x43,.int .u8 0]⟩ 5 fun a44 w45 =>
 rdO w45 (some a44) (4 * 1) fun c46 =>
 apK Try.prog 5 w45 (some a40) 4 4 4 c46 fun s47 w48 =>
 lt (IntKind.i64.wrap ((d_0.len:Int)+1)) fun x49 =>
 lt (IntKind.i64.wrap (x49 * 12)) fun x50 =>
 lt (IntKind.i64.wrap ((s47.len:Int)+x50)) fun x51 =>
 qab.j3 d_0 t3 s47 x51 Q w48
def qab.j1 (d_0:Sl) (Q:VWP) (w:World):Prop :=
 nw w ⟨[.string ({ data:=#[79,73,68,70] }),.string ({ data:=#[79,73,68,76] }),.string ({ data:=#[67,68,65,84] }),.string ({ data:=#[69,68,71,69] })]⟩ 9 fun a52 w53 =>
 ixS d_0.a d_0.len 3 1 fun a54 =>
 ldL w53 a54 fun x55 =>
 br ((x55.len:Int) == 0) (
 bd 3 d_0.cap fun n56 =>
 lt (⟨qvd d_0.a d_0.cap 0 1,n56 - 0,d_0.cap - 0⟩:Sl) fun s57 =>
 qab.j2 s57 ⟨(some a52),4,4⟩ Q w53) (
 qab.j2 d_0 ⟨(some a52),4,4⟩ Q w53)
def qab (d_0:Sl) (Q:VWP) (w:World):Prop :=
 qab.j1 d_0 Q w
theorem qab.ok (d_0:Sl) (Q:VWP) (w:World) (h:qab d_0 Q w):Calls Try.prog 24 ⟨[sV d_0]⟩ w (Ret Q) :=
 qqb [.tmp 2] qed Try.func24 rfl rfl rfl rfl (.sq [sL 0] (fun a w=>qab.j1 a Q w) .lf (.pr 1 [sL 0,sL 3] (fun a b w=>qab.j2 a b Q w) (.pr 1 [sL 0,sL 3,sL 4,sI 5] (fun a b c d w=>qab.j3 a b c d Q w) (.sq [sL 0,sL 4,sI 5] (fun a b c w=>qab.j4 a b c Q w) (.sq [sL 0,sL 3,sL 4,sI 5,sL 31,sI 32,sI 33] (fun a b c d e f g w=>qab.j5 a b c d e f g Q w) .lf (.bk (.lo [sL 0,sL 3,sL 31,sI 32] [sL 4,sI 5,sI 33] (fun a b c d e f g w=>qab.l1 a b c d e f g Q w) (fun nx1 a b c d e f g w=>qab.b1 a b c d e f g Q nx1 w) fun nx1=>.lf))) .lf)))) (by kernel_rfl) h
def qo.j5 (t14:Sl) (Q:VWP) (w:World):Prop :=
 Q (.tuple ⟨[sV t14,.bool true]⟩) w
def qo.b1 (t3 t54:Sl) (t55:Int) (t14:Sl) (t56:Int) (Q:VWP) (nx1:Sl→Sl→Int→Sl→Int→WP) (w:World):Prop :=
 br (decide (t56 < t55)) (
 ixS t54.a t54.len t56 1 fun a1 =>
 ldI .i64 w a1 fun x2 =>
 br (decide (x2 ≥ (t3.len:Int))) (
 Q (.tuple ⟨[.slice none 0 0,.bool false]⟩) w) (
 ixS t3.a t3.len x2 20 fun a3 =>
 ldA w a3 20 fun c4 =>
 (c4).size=20 ∧
 nw w ⟨(spl [.int .u8 0,.int .u8 0,.int .u8 0,.int .u8 0,.int .u8 0,.int .u8 0,.int .u8 0,.int .u8 0,.int .u8 0,.int .u8 0,.int .u8 0,.int .u8 0,.int .u8 0,.int .u8 0,.int .u8 0,.int .u8 0,.int .u8 0,.int .u8 0,.int .u8 0,.int .u8 0] 0 c4)⟩ 28 fun a5 w6 =>
 rdO w6 (some a5) (1 * 20) fun c7 =>
 apK Try.prog 28 w6 t14.a t14.len t14.cap 1 c7 fun s8 w9 =>
 lt (IntKind.i64.wrap (t56+1)) fun x10 =>
 nx1 t3 t54 t55 s8 x10 w9)) (
 qo.j5 t14 Q w)
def qo.l1 (t3 t54:Sl) (t55:Int) (t14:Sl) (t56:Int) (Q:VWP) (w:World):Prop :=
 ∃ (I:Sl→Int→WP) (μ:Sl→Int→World→Nat),I t14 t56 w∧∀ t14:Sl,∀ t56:Int,∀ w:World,I t14 t56 w→qo.b1 t3 t54 t55 t14 t56 Q (fun t3' t54' t55' t14' t56' w'=>(t3'=t3∧t54'=t54∧t55'=t55)∧I t14' t56' w'∧μ t14' t56' w' < μ t14 t56 w) w
def qo.j6 (t3 t14 t54:Sl) (t55:Int) (t56:Int) (Q:VWP) (w:World):Prop :=
 qo.l1 t3 t54 t55 t14 t56 Q w
def qo.j4 (t3 t10 t14:Sl) (Q:VWP) (w:World):Prop :=
 qo.j6 t3 t14 t10 (t10.len:Int) 0 Q w
def qo.j3 (t3 t10:Sl) (Q:VWP) (w:World):Prop :=
 qo.j4 t3 t10 ⟨none,0,0⟩ Q w
def qo.b2 (t3:Sl) (t11:OAd) (t10:Sl) (t12:Bool) (Q:VWP) (nx2:Sl→OAd→Sl→Bool→WP) (w:World):Prop :=
 br (!t12) (
 qhf 50 [.pointer t11] w fun r13 w12 =>
 qhf 54 [.pointer t11] w12 fun r16 w15 =>
 br (r16 != 0) (
 Q (.tuple ⟨[.slice none 0 0,.bool false]⟩) w15) (
 lt (andV .i64 r13 2147483647) fun x17 =>
 nw w15 ⟨[.int .i64 x17]⟩ 3 fun a18 w19 =>
 rdO w19 (some a18) (1 * 1) fun c20 =>
 apK Try.prog 3 w19 t10.a t10.len t10.cap 1 c20 fun s21 w22 =>
 nx2 t3 t11 s21 (decide (r13 ≥ 2147483648)) w22)) (
 qo.j3 t3 t10 Q w)
def qo.l2 (t3:Sl) (t11:OAd) (t10:Sl) (t12:Bool) (Q:VWP) (w:World):Prop :=
 ∃ (I:Sl→Bool→WP) (μ:Sl→Bool→World→Nat),I t10 t12 w∧∀ t10:Sl,∀ t12:Bool,∀ w:World,I t10 t12 w→qo.b2 t3 t11 t10 t12 Q (fun t3' t11' t10' t12' w'=>(t3'=t3∧t11'=t11)∧I t10' t12' w'∧μ t10' t12' w' < μ t10 t12 w) w
def qo.j9 (t3 t10:Sl) (t11:OAd) (t12:Bool) (Q:VWP) (w:World):Prop :=
 qo.l2 t3 t11 t10 t12 Q w
def qo.j8 (i_1:Int) (t3:Sl) (t10:Sl) (t11:OAd) (Q:VWP) (w:World):Prop :=
 lt (IntKind.i64.wrap (i_1 - 2147483648)) fun x23 =>
 lt (IntKind.i64.wrap (4 * x23)) fun x24 =>
 qhc 51 [.pointer t11,.int .i64 x24] w fun r27 w26 =>
 qo.j9 t3 t10 t11 false Q w26
def qo.j7 (i_1:Int) (t2:Sl) (t3 t10:Sl) (t23:Bool) (Q:VWP) (w:World):Prop :=
 br t23 (
 cr_P 49 [sV t2] w fun r30 w29 =>
 qo.j8 i_1 t3 t10 r30 Q w29) (
 br (i_1 != 1879048192) (
 nw w ⟨[.int .i64 i_1]⟩ 3 fun a31 w32 =>
 rdO w32 (some a31) (1 * 1) fun c33 =>
 apK Try.prog 3 w32 t10.a t10.len t10.cap 1 c33 fun s34 w35 =>
 qo.j3 t3 s34 Q w35) (
 qo.j3 t3 t10 Q w))
def qo.j2 (i_1:Int) (t2:Sl) (t3 t10:Sl) (Q:VWP) (w:World):Prop :=
 qo.j7 i_1 t2 t3 t10 (decide (i_1 ≥ 2147483648)) Q w
def qo.j1 (d_0 i_1:Int) (t2:Sl) (t3:Sl) (Q:VWP) (w:World):Prop :=
 br (d_0 != 1879048192) (
 nw w ⟨[.int .i64 d_0]⟩ 3 fun a36 w37 =>
 rdO w37 (some a36) (1 * 1) fun c38 =>
 apK Try.prog 3 w37 none 0 0 1 c38 fun s39 w40 =>
 qo.j2 i_1 t2 t3 s39 Q w40) (
 qo.j2 i_1 t2 t3 ⟨none,0,0⟩ Q w)
def qo (d_0 i_1:Int) (t2:Sl) (t3:Sl) (Q:VWP) (w:World):Prop :=
 qo.j1 d_0 i_1 t2 t3 Q w
theorem qo.ok (d_0:Int) (i_1:Int) (t2:Sl) (t3:Sl) (Q:VWP) (w:World) (h:qo d_0 i_1 t2 t3 Q w):Calls Try.prog 53 ⟨[.int .i64 d_0,.int .i64 i_1,sV t2,sV t3]⟩ w (Ret Q) :=
 qqb [.tmp 8,.tmp 9] qed Try.func53 rfl rfl rfl rfl (.sq [sI 0,sI 1,sL 2,sL 3] (fun a b c d w=>qo.j1 a b c d Q w) .lf (.pr 1 [sI 1,sL 2,sL 3,sL 10] (fun a b c d w=>qo.j2 a b c d Q w) (.sq [sL 3,sL 10] (fun a b w=>qo.j3 a b Q w) (.bk (.sq [sI 1,sL 2,sL 3,sL 10,sB 23] (fun a b c d e w=>qo.j7 a b c d e Q w) .lf (.cd (.sq [sI 1,sL 3,sL 10,sP 11] (fun a b c d w=>qo.j8 a b c d Q w) .lf (.pr 1 [sL 3,sL 10,sP 11,sB 12] (fun a b c d w=>qo.j9 a b c d Q w) (.bk (.lo [sL 3,sP 11] [sL 10,sB 12] (fun a b c d w=>qo.l2 a b c d Q w) (fun nx2 a b c d w=>qo.b2 a b c d Q nx2 w) fun nx2=>.lf)))) .lf))) (.sq [sL 3,sL 10,sL 14] (fun a b c w=>qo.j4 a b c Q w) .lf (.sq [sL 14] (fun a w=>qo.j5 a Q w) (.sq [sL 3,sL 14,sL 54,sI 55,sI 56] (fun a b c d e w=>qo.j6 a b c d e Q w) .lf (.bk (.lo [sL 3,sL 54,sI 55] [sL 14,sI 56] (fun a b c d e w=>qo.l1 a b c d e Q w) (fun nx1 a b c d e w=>qo.b1 a b c d e Q nx1 w) fun nx1=>.lf))) .lf))))) (by kernel_rfl) h
def qp.j8 (t10:Sl) (Q:VWP) (w:World):Prop :=
 Q (.tuple ⟨[sV t10,.bool true]⟩) w
def qp.j11 (d_0:Sl) (t5:Int) (t6:Int) (t7:Sl) (t9 t10:Sl) (t11:Int) (t89 t90:Int) (Q:VWP) (nx1:Sl→Int→Int→Sl→Sl→Int→Sl→Int→Int→WP) (w:World):Prop :=
 lt (IntKind.i64.wrap (t90+1)) fun x1 =>
 nx1 d_0 t5 t6 t7 t9 t89 t10 t11 x1 w
def qp.j13 (d_0:Sl) (t5:Int) (t6:Int) (t7:Sl) (t9 t10:Sl) (t11:Int) (t13:OAd) (t14:Addr) (t89 t90:Int) (Q:VWP) (nx1:Sl→Int→Int→Sl→Sl→Int→Sl→Int→Int→WP) (w:World):Prop :=
 qhf 50 [.pointer t13] w fun r4 w3 =>
 qhf 50 [.pointer t13] w3 fun r7 w6 =>
 qhf 52 [.pointer t13] w6 fun r10 w9 =>
 lt (andV .i64 r10 17179869183) fun x11 =>
 st w9 (Addr.add t14 41) (.int .i64 x11) fun w12 =>
 ct_LB 53 [.int .i64 r4,.int .i64 r7,sV t9,sV t7] w12 fun r15 r16 w14 =>
 st w14 (Addr.add t14 40) (sV r15) fun w17 =>
 ldL w17 (Addr.add t14 40) fun x18 =>
 lt (IntKind.i64.wrap (t11+(x18.len:Int))) fun x19 =>
 br (!r16) (
 Q (.tuple ⟨[.slice none 0 0,.bool false]⟩) w17) (
 qhf 54 [.pointer t13] w17 fun r22 w21 =>
 br (r22 != 0) (
 Q (.tuple ⟨[.slice none 0 0,.bool false]⟩) w21) (
 (4:Int) ≠ 0 ∧
 lt (IntKind.i64.wrap (Int.tdiv (t9.len:Int) 4)) fun x23 =>
 lt (IntKind.i64.wrap (2 * t6)) fun x24 =>
 lt (IntKind.i64.wrap (x23+x24)) fun x25 =>
 br (decide (x19 > x25)) (
 Q (.tuple ⟨[.slice none 0 0,.bool false]⟩) w21) (
 ldA w21 t14 42 fun c26 =>
 (c26).size=42 ∧
 nw w21 ⟨(spl (qie 1 (zc Try.prog 31).toList) 0 c26)⟩ 31 fun a27 w28 =>
 rdO w28 (some a27) (1 * 42) fun c29 =>
 apK Try.prog 31 w28 t10.a t10.len t10.cap 1 c29 fun s30 w31 =>
 qp.j11 d_0 t5 t6 t7 t9 s30 x19 t89 t90 Q nx1 w31)))
def qp.j12 (d_0:Sl) (t5:Int) (t6:Int) (t7:Sl) (t9 t10:Sl) (t11:Int) (t12 t89 t90:Int) (Q:VWP) (nx1:Sl→Int→Int→Sl→Sl→Int→Sl→Int→Int→WP) (w:World):Prop :=
 lt (IntKind.i64.wrap (36 * t12)) fun x32 =>
 lt (IntKind.i64.wrap (t5+x32)) fun x33 =>
 bd x33 d_0.len fun n34 =>
 lt (⟨qvd d_0.a d_0.cap n34 1,d_0.len - n34,d_0.cap - n34⟩:Sl) fun s35 =>
 bd 36 s35.cap fun n36 =>
 lt (⟨qvd s35.a s35.cap 0 1,n36 - 0,s35.cap - 0⟩:Sl) fun s37 =>
 cr_P 49 [sV s37] w fun r40 w39 =>
 lt (World.drew w39) fun w41 =>
 ixS t7.a t7.len t12 20 fun a42 =>
 (ldA w41 a42 20 fun c43 =>
 (qhc 51 [.pointer r40,.int .i64 20] w41 fun r46 w45 =>
 20≤r46.len ∧
 nz r46.a fun a47 =>
 ldA w45 a47 20 fun c48 =>
 (c43).size=20 ∧
 (c48).size=20 ∧
 nw w45 (zc Try.prog 31) 31 fun a49 w50 =>
 ((⟨(spl (spl (zc Try.prog 31).toList 0 c43) 20 c48)⟩:Array Value)).size=42 ∧
 stA w50 a49 (⟨(spl (spl (zc Try.prog 31).toList 0 c43) 20 c48)⟩:Array Value) fun w51 =>
 qp.j13 d_0 t5 t6 t7 t9 t10 t11 r40 a49 t89 t90 Q nx1 w51)∧(
 nw w41 (zc Try.prog 31) 31 fun a52 w53 =>
 qhc 51 [.pointer r40,.int .i64 20] w53 fun r56 w55 =>
 20≤r56.len ∧
 nz r56.a fun a57 =>
 ldA w55 a57 20 fun c58 =>
 (c43).size=20 ∧
 (c58).size=20 ∧
 ((⟨(spl (spl (zc Try.prog 31).toList 0 c43) 20 c58)⟩:Array Value)).size=42 ∧
 stA w55 a52 (⟨(spl (spl (zc Try.prog 31).toList 0 c43) 20 c58)⟩:Array Value) fun w59 =>
 qp.j13 d_0 t5 t6 t7 t9 t10 t11 r40 a52 t89 t90 Q nx1 w59))∧(
 qhc 51 [.pointer r40,.int .i64 20] w41 fun r62 w61 =>
 20≤r62.len ∧
 nz r62.a fun a63 =>
 ldA w61 a63 20 fun c64 =>
 (ldA w61 a42 20 fun c65 =>
 (c65).size=20 ∧
 (c64).size=20 ∧
 nw w61 (zc Try.prog 31) 31 fun a66 w67 =>
 ((⟨(spl (spl (zc Try.prog 31).toList 0 c65) 20 c64)⟩:Array Value)).size=42 ∧
 stA w67 a66 (⟨(spl (spl (zc Try.prog 31).toList 0 c65) 20 c64)⟩:Array Value) fun w68 =>
 qp.j13 d_0 t5 t6 t7 t9 t10 t11 r40 a66 t89 t90 Q nx1 w68)∧(
 nw w61 (zc Try.prog 31) 31 fun a69 w70 =>
 ldA w70 a42 20 fun c71 =>
 (c71).size=20 ∧
 (c64).size=20 ∧
 ((⟨(spl (spl (zc Try.prog 31).toList 0 c71) 20 c64)⟩:Array Value)).size=42 ∧
 stA w70 a69 (⟨(spl (spl (zc Try.prog 31).toList 0 c71) 20 c64)⟩:Array Value) fun w72 =>
 qp.j13 d_0 t5 t6 t7 t9 t10 t11 r40 a69 t89 t90 Q nx1 w72))∧(
 nw w41 (zc Try.prog 31) 31 fun a73 w74 =>
 (ldA w74 a42 20 fun c75 =>
 qhc 51 [.pointer r40,.int .i64 20] w74 fun r78 w77 =>
 20≤r78.len ∧
 nz r78.a fun a79 =>
 ldA w77 a79 20 fun c80 =>
 (c75).size=20 ∧
 (c80).size=20 ∧
 ((⟨(spl (spl (zc Try.prog 31).toList 0 c75) 20 c80)⟩:Array Value)).size=42 ∧
 stA w77 a73 (⟨(spl (spl (zc Try.prog 31).toList 0 c75) 20 c80)⟩:Array Value) fun w81 =>
 qp.j13 d_0 t5 t6 t7 t9 t10 t11 r40 a73 t89 t90 Q nx1 w81)∧(
 qhc 51 [.pointer r40,.int .i64 20] w74 fun r84 w83 =>
 20≤r84.len ∧
 nz r84.a fun a85 =>
 ldA w83 a85 20 fun c86 =>
 ldA w83 a42 20 fun c87 =>
 (c87).size=20 ∧
 (c86).size=20 ∧
 ((⟨(spl (spl (zc Try.prog 31).toList 0 c87) 20 c86)⟩:Array Value)).size=42 ∧
 stA w83 a73 (⟨(spl (spl (zc Try.prog 31).toList 0 c87) 20 c86)⟩:Array Value) fun w88 =>
 qp.j13 d_0 t5 t6 t7 t9 t10 t11 r40 a73 t89 t90 Q nx1 w88))
def qp.j10 (d_0:Sl) (t5:Int) (t6:Int) (t7:Sl) (t9 t10:Sl) (t11:Int) (t89 t90:Int) (Q:VWP) (nx1:Sl→Int→Int→Sl→Sl→Int→Sl→Int→Int→WP) (w:World):Prop :=
 qp.j12 d_0 t5 t6 t7 t9 t10 t11 t90 t89 t90 Q nx1 w
def qp.b1 (d_0:Sl) (t5:Int) (t6:Int) (t7:Sl) (t9:Sl) (t89:Int) (t10:Sl) (t11:Int) (t90:Int) (Q:VWP) (nx1:Sl→Int→Int→Sl→Sl→Int→Sl→Int→Int→WP) (w:World):Prop :=
 br (decide (t90 < t89)) (
 qp.j10 d_0 t5 t6 t7 t9 t10 t11 t89 t90 Q nx1 w) (
 qp.j8 t10 Q w)
def qp.l1 (d_0:Sl) (t5:Int) (t6:Int) (t7:Sl) (t9:Sl) (t89:Int) (t10:Sl) (t11:Int) (t90:Int) (Q:VWP) (w:World):Prop :=
 ∃ (I:Sl→Int→Int→WP) (μ:Sl→Int→Int→World→Nat),I t10 t11 t90 w∧∀ t10:Sl,∀ t11:Int,∀ t90:Int,∀ w:World,I t10 t11 t90 w→qp.b1 d_0 t5 t6 t7 t9 t89 t10 t11 t90 Q (fun d_0' t5' t6' t7' t9' t89' t10' t11' t90' w'=>(d_0'=d_0∧t5'=t5∧t6'=t6∧t7'=t7∧t9'=t9∧t89'=t89)∧I t10' t11' t90' w'∧μ t10' t11' t90' w' < μ t10 t11 t90 w) w
def qp.j9 (d_0:Sl) (t5:Int) (t6:Int) (t7:Sl) (t9 t10:Sl) (t11:Int) (t89 t90:Int) (Q:VWP) (w:World):Prop :=
 qp.l1 d_0 t5 t6 t7 t9 t89 t10 t11 t90 Q w
def qp.j7 (d_0:Sl) (t5:Int) (t6:Int) (t7:Sl) (t9 t10:Sl) (t11:Int) (Q:VWP) (w:World):Prop :=
 qp.j9 d_0 t5 t6 t7 t9 t10 t11 t6 0 Q w
def qp.j6 (d_0:Sl) (t5:Int) (t6:Int) (t7:Sl) (t9:Sl) (Q:VWP) (w:World):Prop :=
 qp.j7 d_0 t5 t6 t7 t9 ⟨none,0,0⟩ 0 Q w
def qp.j5 (d_0:Sl) (t5:Int) (t6:Int) (t7:Sl) (Q:VWP) (w:World):Prop :=
 lt (IntKind.i64.wrap (20 * t6)) fun x89 =>
 lt (IntKind.i64.wrap (t5+x89)) fun x90 =>
 lt (IntKind.i64.wrap (36 * t6)) fun x91 =>
 lt (IntKind.i64.wrap (x90+x91)) fun x92 =>
 lt (IntKind.i64.wrap ((d_0.len:Int) - 20)) fun x93 =>
 bd x93 d_0.cap fun n94 =>
 bd x92 n94 fun n95 =>
 lt (⟨qvd d_0.a d_0.cap n95 1,n94 - n95,d_0.cap - n95⟩:Sl) fun s96 =>
 qp.j6 d_0 x90 t6 t7 s96 Q w
def qp.b2 (d_0:Sl) (t5:Int) (t6 t60:Int) (t7:Sl) (t61:Int) (Q:VWP) (nx2:Sl→Int→Int→Int→Sl→Int→WP) (w:World):Prop :=
 br (decide (t61 < t60)) (
 lt (IntKind.i64.wrap (20 * t61)) fun x97 =>
 lt (IntKind.i64.wrap (t5+x97)) fun x98 =>
 bd x98 d_0.len fun n99 =>
 lt (⟨qvd d_0.a d_0.cap n99 1,d_0.len - n99,d_0.cap - n99⟩:Sl) fun s100 =>
 20≤s100.len ∧
 nz s100.a fun a101 =>
 ldA w a101 20 fun c102 =>
 (c102).size=20 ∧
 nw w ⟨(spl [.int .u8 0,.int .u8 0,.int .u8 0,.int .u8 0,.int .u8 0,.int .u8 0,.int .u8 0,.int .u8 0,.int .u8 0,.int .u8 0,.int .u8 0,.int .u8 0,.int .u8 0,.int .u8 0,.int .u8 0,.int .u8 0,.int .u8 0,.int .u8 0,.int .u8 0,.int .u8 0] 0 c102)⟩ 28 fun a103 w104 =>
 rdO w104 (some a103) (1 * 20) fun c105 =>
 apK Try.prog 28 w104 t7.a t7.len t7.cap 1 c105 fun s106 w107 =>
 lt (IntKind.i64.wrap (t61+1)) fun x108 =>
 nx2 d_0 t5 t6 t60 s106 x108 w107) (
 qp.j5 d_0 t5 t6 t7 Q w)
def qp.l2 (d_0:Sl) (t5:Int) (t6 t60:Int) (t7:Sl) (t61:Int) (Q:VWP) (w:World):Prop :=
 ∃ (I:Sl→Int→WP) (μ:Sl→Int→World→Nat),I t7 t61 w∧∀ t7:Sl,∀ t61:Int,∀ w:World,I t7 t61 w→qp.b2 d_0 t5 t6 t60 t7 t61 Q (fun d_0' t5' t6' t60' t7' t61' w'=>(d_0'=d_0∧t5'=t5∧t6'=t6∧t60'=t60)∧I t7' t61' w'∧μ t7' t61' w' < μ t7 t61 w) w
def qp.j14 (d_0:Sl) (t5:Int) (t6:Int) (t7:Sl) (t60 t61:Int) (Q:VWP) (w:World):Prop :=
 qp.l2 d_0 t5 t6 t60 t7 t61 Q w
def qp.j4 (d_0:Sl) (t5:Int) (t6:Int) (t7:Sl) (Q:VWP) (w:World):Prop :=
 qp.j14 d_0 t5 t6 t7 t6 0 Q w
def qp.j3 (d_0:Sl) (t5:Int) (t6:Int) (Q:VWP) (w:World):Prop :=
 br (decide (t6 > 1024)) (
 Q (.tuple ⟨[.slice none 0 0,.bool false]⟩) w) (
 lt (IntKind.i64.wrap (56 * t6)) fun x109 =>
 lt (IntKind.i64.wrap (t5+x109)) fun x110 =>
 lt (IntKind.i64.wrap (x110+20)) fun x111 =>
 br (decide ((d_0.len:Int) < x111)) (
 Q (.tuple ⟨[.slice none 0 0,.bool false]⟩) w) (
 qp.j4 d_0 t5 t6 ⟨none,0,0⟩ Q w))
def qp.j2 (d_0:Sl) (t5:Int) (Q:VWP) (w:World):Prop :=
 lt (IntKind.i64.wrap (t5+1020)) fun x112 =>
 bd x112 d_0.len fun n113 =>
 lt (⟨qvd d_0.a d_0.cap n113 1,d_0.len - n113,d_0.cap - n113⟩:Sl) fun s114 =>
 cr_P 49 [sV s114] w fun r117 w116 =>
 qhf 50 [.pointer r117] w116 fun r120 w119 =>
 lt (IntKind.i64.wrap (t5+1024)) fun x121 =>
 qp.j3 d_0 x121 r120 Q w119
def qp.j1 (d_0:Sl) (t4:Int) (Q:VWP) (w:World):Prop :=
 lt (IntKind.i64.wrap (t4+1)) fun x122 =>
 lt (IntKind.i64.wrap (x122 * 12)) fun x123 =>
 lt (IntKind.i64.wrap (8+x123)) fun x124 =>
 br (decide (t4 < 3)) (
 Q (.tuple ⟨[.slice none 0 0,.bool false]⟩) w) (
 br (decide (t4 > 4)) (
 Q (.tuple ⟨[.slice none 0 0,.bool false]⟩) w) (
 lt (IntKind.i64.wrap (x124+1024)) fun x125 =>
 lt (IntKind.i64.wrap (x125+20)) fun x126 =>
 br (decide ((d_0.len:Int) < x126)) (
 Q (.tuple ⟨[.slice none 0 0,.bool false]⟩) w) (
 qp.j2 d_0 x124 Q w)))
def qp (d_0:Sl) (Q:VWP) (w:World):Prop :=
 ixS d_0.a d_0.len 6 1 fun a127 =>
 ldI .u8 w a127 fun x128 =>
 lt (IntKind.i64.wrap x128) fun x129 =>
 qp.j1 d_0 x129 Q w
theorem qp.ok (d_0:Sl) (Q:VWP) (w:World) (h:qp d_0 Q w):Calls Try.prog 27 ⟨[sV d_0]⟩ w (Ret Q) :=
 qqb [.tmp 2,.tmp 3] qed Try.func27 rfl rfl rfl rfl (.pr 1 [sL 0,sI 4] (fun a b w=>qp.j1 a b Q w) (.pr 1 [sL 0,sI 5] (fun a b w=>qp.j2 a b Q w) (.pr 1 [sL 0,sI 5,sI 6] (fun a b c w=>qp.j3 a b c Q w) (.pr 1 [sL 0,sI 5,sI 6,sL 7] (fun a b c d w=>qp.j4 a b c d Q w) (.sq [sL 0,sI 5,sI 6,sL 7] (fun a b c d w=>qp.j5 a b c d Q w) (.sq [sL 0,sI 5,sI 6,sL 7,sI 60,sI 61] (fun a b c d e f w=>qp.j14 a b c d e f Q w) .lf (.bk (.lo [sL 0,sI 5,sI 6,sI 60] [sL 7,sI 61] (fun a b c d e f w=>qp.l2 a b c d e f Q w) (fun nx2 a b c d e f w=>qp.b2 a b c d e f Q nx2 w) fun nx2=>.lf))) (.pr 1 [sL 0,sI 5,sI 6,sL 7,sL 9] (fun a b c d e w=>qp.j6 a b c d e Q w) (.pr 1 [sL 0,sI 5,sI 6,sL 7,sL 9,sL 10,sI 11] (fun a b c d e f g w=>qp.j7 a b c d e f g Q w) (.sq [sL 10] (fun a w=>qp.j8 a Q w) (.sq [sL 0,sI 5,sI 6,sL 7,sL 9,sL 10,sI 11,sI 89,sI 90] (fun a b c d e f g h i w=>qp.j9 a b c d e f g h i Q w) .lf (.bk (.lo [sL 0,sI 5,sI 6,sL 7,sL 9,sI 89] [sL 10,sI 11,sI 90] (fun a b c d e f g h i w=>qp.l1 a b c d e f g h i Q w) (fun nx1 a b c d e f g h i w=>qp.b1 a b c d e f g h i Q nx1 w) fun nx1=>(.pr 1 [sL 0,sI 5,sI 6,sL 7,sL 9,sL 10,sI 11,sI 89,sI 90] (fun a b c d e f g h i w=>qp.j10 a b c d e f g h i Q nx1 w) (.sq [sL 0,sI 5,sI 6,sL 7,sL 9,sL 10,sI 11,sI 89,sI 90] (fun a b c d e f g h i w=>qp.j11 a b c d e f g h i Q nx1 w) (.bk (.sq [sL 0,sI 5,sI 6,sL 7,sL 9,sL 10,sI 11,sI 12,sI 89,sI 90] (fun a b c d e f g h i j w=>qp.j12 a b c d e f g h i j Q nx1 w) .lf (.pr 1 [sL 0,sI 5,sI 6,sL 7,sL 9,sL 10,sI 11,sP 13,sA 14,sI 89,sI 90] (fun a b c d e f g h i j k w=>qp.j13 a b c d e f g h i j k Q nx1 w) .lf))) .lf))))) .lf)))))))) (by kernel_rfl) h
def qcb.j5 (t10:OAd) (Q:VWP) (w:World):Prop :=
 Q (.tuple ⟨[.pointer t10,.int .i64 0]⟩) w
def qcb.b1 (t8:(Option Nat)) (t10:OAd) (t75:Sl) (t76 t77:Int) (Q:VWP) (nx1:(Option Nat)→OAd→Sl→Int→Int→WP) (w:World):Prop :=
 br (decide (t77 < t76)) (
 ixS t75.a t75.len t77 20 fun a1 =>
 ldA w a1 20 fun c2 =>
 nw w (zc Try.prog 28) 28 fun a3 w4 =>
 (c2).size=20 ∧
 stA w4 a3 c2 fun w5 =>
 lt (World.drew w5) fun w6 =>
 nz t10 fun a7 =>
 ldA w6 a3 20 fun c8 =>
 (ldL w6 (Addr.add a7 2) fun x9 =>
 ∃ r10:Int,lkR Try.prog 49 (.map t8) (.agg c8) false w6 (.int .i64 r10) ∧
 nw w6 ⟨[.int .i64 r10]⟩ 3 fun a11 w12 =>
 rdO w12 (some a11) (1 * 1) fun c13 =>
 apK Try.prog 3 w12 x9.a x9.len x9.cap 1 c13 fun s14 w15 =>
 nz t10 fun a16 =>
 st w15 (Addr.add a16 2) (sV s14) fun w17 =>
 lt (IntKind.i64.wrap (t77+1)) fun x18 =>
 nx1 t8 t10 t75 t76 x18 w17)∧(
 ∃ r19:Int,lkR Try.prog 49 (.map t8) (.agg c8) false w6 (.int .i64 r19) ∧
 (ldL w6 (Addr.add a7 2) fun x20 =>
 nw w6 ⟨[.int .i64 r19]⟩ 3 fun a21 w22 =>
 rdO w22 (some a21) (1 * 1) fun c23 =>
 apK Try.prog 3 w22 x20.a x20.len x20.cap 1 c23 fun s24 w25 =>
 nz t10 fun a26 =>
 st w25 (Addr.add a26 2) (sV s24) fun w27 =>
 lt (IntKind.i64.wrap (t77+1)) fun x28 =>
 nx1 t8 t10 t75 t76 x28 w27)∧(
 nw w6 ⟨[.int .i64 r19]⟩ 3 fun a29 w30 =>
 ldL w30 (Addr.add a7 2) fun x31 =>
 rdO w30 (some a29) (1 * 1) fun c32 =>
 apK Try.prog 3 w30 x31.a x31.len x31.cap 1 c32 fun s33 w34 =>
 nz t10 fun a35 =>
 st w34 (Addr.add a35 2) (sV s33) fun w36 =>
 lt (IntKind.i64.wrap (t77+1)) fun x37 =>
 nx1 t8 t10 t75 t76 x37 w36))) (
 qcb.j5 t10 Q w)
def qcb.l1 (t8:(Option Nat)) (t10:OAd) (t75:Sl) (t76 t77:Int) (Q:VWP) (w:World):Prop :=
 ∃ (I:Int→WP) (μ:Int→World→Nat),I t77 w∧∀ t77:Int,∀ w:World,I t77 w→qcb.b1 t8 t10 t75 t76 t77 Q (fun t8' t10' t75' t76' t77' w'=>(t8'=t8∧t10'=t10∧t75'=t75∧t76'=t76)∧I t77' w'∧μ t77' w' < μ t77 w) w
def qcb.j6 (t8:(Option Nat)) (t10:OAd) (t75:Sl) (t76 t77:Int) (Q:VWP) (w:World):Prop :=
 qcb.l1 t8 t10 t75 t76 t77 Q w
def qcb.j4 (t8:(Option Nat)) (t10:OAd) (Q:VWP) (w:World):Prop :=
 nz t10 fun a38 =>
 ldL w (Addr.add a38 0) fun x39 =>
 qcb.j6 t8 t10 x39 (x39.len:Int) 0 Q w
def qcb.j3 (t4:Sl) (Q:VWP) (w:World):Prop :=
 Calls Try.prog 15 ⟨[sV t4]⟩ w fun e40 w41 =>
 ∃ r42:(Option Nat),∃ r43:Int,e40=.returned (.tuple ⟨[.map r42,.int .i64 r43]⟩) ∧
 qhc 19 [sV t4] w41 fun r46 w45 =>
 nw w45 (⟨[sV r46,sV t4,.slice none 0 0]⟩:Array Value) 67 fun a47 w48 =>
 qcb.j4 r42 (some a47) Q w48
def qcb.j2 (d_0 t4:Sl) (t5:Bool) (Q:VWP) (w:World):Prop :=
 br (!t5) (
 Q (.tuple ⟨[.pointer none,.int .i64 2]⟩) w) (
 ct_LI 6 [sV t4] w fun r51 r52 w50 =>
 br (r52 != 0) (
 Q (.tuple ⟨[.pointer none,.int .i64 2]⟩) w50) (
 cr_B 28 [sV r51,sV d_0] w50 fun r55 w54 =>
 br (!r55) (
 Q (.tuple ⟨[.pointer none,.int .i64 2]⟩) w54) (
 qcb.j3 t4 Q w54)))
def qcb.j1 (d_0:Sl) (Q:VWP) (w:World):Prop :=
 ct_LB 27 [sV d_0] w fun r58 r59 w57 =>
 qcb.j2 d_0 r58 r59 Q w57
def qcb (d_0:Sl) (Q:VWP) (w:World):Prop :=
 br (decide ((d_0.len:Int) > 262144)) (
 Q (.tuple ⟨[.pointer none,.int .i64 5]⟩) w) (
 br (decide ((d_0.len:Int) < 28)) (
 Q (.tuple ⟨[.pointer none,.int .i64 3]⟩) w) (
 bd 6 d_0.cap fun n60 =>
 lt (⟨qvd d_0.a d_0.cap 0 1,n60 - 0,d_0.cap - 0⟩:Sl) fun s61 =>
 btS w s61.a s61.len fun x62 =>
 cr_B 25 [.string x62,.string ({ data:=#[67,71,80,72,1,1] })] w fun r65 w64 =>
 br (!r65) (
 Q (.tuple ⟨[.pointer none,.int .i64 2]⟩) w64) (
 lt (World.drew w64) fun w66 =>
 lt (IntKind.i64.wrap ((d_0.len:Int) - 20)) fun x67 =>
 bd x67 d_0.cap fun n68 =>
 lt (⟨qvd d_0.a d_0.cap 0 1,n68 - 0,d_0.cap - 0⟩:Sl) fun s69 =>
 lt (IntKind.i64.wrap ((d_0.len:Int) - 20)) fun x70 =>
 bd x70 d_0.len fun n71 =>
 lt (⟨qvd d_0.a d_0.cap n71 1,d_0.len - n71,d_0.cap - n71⟩:Sl) fun s72 =>
 20≤s72.len ∧
 nz s72.a fun a73 =>
 (cr_G 26 [sV s69] w66 fun r76 w75 =>
 ldA w75 a73 20 fun c77 =>
 eqA .u8 20 r76 c77 fun x78 =>
 br (!x78) (
 Q (.tuple ⟨[.pointer none,.int .i64 4]⟩) w75) (
 qcb.j1 d_0 Q w75))∧(
 ldA w66 a73 20 fun c79 =>
 cr_G 26 [sV s69] w66 fun r82 w81 =>
 eqA .u8 20 r82 c79 fun x83 =>
 br (!x83) (
 Q (.tuple ⟨[.pointer none,.int .i64 4]⟩) w81) (
 qcb.j1 d_0 Q w81)))))
theorem qcb.ok (d_0:Sl) (Q:VWP) (w:World) (h:qcb d_0 Q w):Calls Try.prog 7 ⟨[sV d_0]⟩ w (Ret Q) :=
 qqb [.tmp 2,.tmp 3] qed Try.func7 rfl rfl rfl rfl (.pr 1 [sL 0] (fun a w=>qcb.j1 a Q w) (.sq [sL 0,sL 4,sB 5] (fun a b c w=>qcb.j2 a b c Q w) .lf (.pr 1 [sL 4] (fun a w=>qcb.j3 a Q w) (.pr 1 [(8,.M),sP 10] (fun a b w=>qcb.j4 a b Q w) (.sq [sP 10] (fun a w=>qcb.j5 a Q w) (.sq [(8,.M),sP 10,sL 75,sI 76,sI 77] (fun a b c d e w=>qcb.j6 a b c d e Q w) .lf (.bk (.lo [(8,.M),sP 10,sL 75,sI 76] [sI 77] (fun a b c d e w=>qcb.l1 a b c d e Q w) (fun nx1 a b c d e w=>qcb.b1 a b c d e Q nx1 w) fun nx1=>.lf))) .lf))))) (by kernel_rfl) h
def qge (g_0:OAd) (Q:VWP) (w:World):Prop :=
 nz g_0 fun a1 =>
 ldL w (Addr.add a1 0) fun x2 =>
 Q (.int .i64 (x2.len:Int)) w
theorem qge.ok (g_0:OAd) (Q:VWP) (w:World) (h:qge g_0 Q w):Calls Try.prog 8 ⟨[.pointer g_0]⟩ w (Ret Q) :=
 qqb [.tmp 2] qed Try.func8 rfl rfl rfl rfl .lf (by kernel_rfl) h
def qyd (g_0:OAd) (id_1:(Array Value)) (Q:VWP) (w:World):Prop :=
 nw w id_1 28 fun a1 w2 =>
 lt (World.drew w2) fun w3 =>
 nz g_0 fun a4 =>
 ldL w3 (Addr.add a4 0) fun x5 =>
 ldA w3 a1 20 fun c6 =>
 ct_IB 33 [sV x5,.agg c6] w3 fun r9 r10 w8 =>
 br (!r10) (
 Q (.tuple ⟨[.int .i64 0,.bool false]⟩) w8) (
 Q (.tuple ⟨[.int .i64 r9,.bool true]⟩) w8)
theorem qyd.ok (g_0:OAd) (id_1:(Array Value)) (Q:VWP) (w:World) (h:qyd g_0 id_1 Q w):Calls Try.prog 10 ⟨[.pointer g_0,.agg id_1]⟩ w (Ret Q) :=
 qqb [.tmp 4,.tmp 5] qed Try.func10 rfl rfl rfl rfl .lf (by kernel_rfl) h
def qme (g_0:OAd) (i_1:Int) (Q:VWP) (w:World):Prop :=
 br (decide (i_1 ≥ 0)) (
 nz g_0 fun a1 =>
 ldL w (Addr.add a1 1) fun x2 =>
 Q (.bool (decide (i_1 < (x2.len:Int)))) w) (
 Q (.bool false) w)
theorem qme.ok (g_0:OAd) (i_1:Int) (Q:VWP) (w:World) (h:qme g_0 i_1 Q w):Calls Try.prog 34 ⟨[.pointer g_0,.int .i64 i_1]⟩ w (Ret Q) :=
 qqb [.tmp 4] qed Try.func34 rfl rfl rfl rfl .lf (by kernel_rfl) h
def qxd (g_0:OAd) (i_1:Int) (Q:VWP) (w:World):Prop :=
 nw w (zc Try.prog 31) 31 fun a1 w2 =>
 cr_B 34 [.pointer g_0,.int .i64 i_1] w2 fun r5 w4 =>
 br (!r5) (
 ((⟨(zc Try.prog 31).toList⟩:Array Value)).size=42 ∧
 stA w4 a1 (⟨(zc Try.prog 31).toList⟩:Array Value) fun w6 =>
 ldA w6 a1 42 fun c7 =>
 Q (.tuple ⟨[.agg c7,.bool false]⟩) w6) (
 nz g_0 fun a8 =>
 ldL w4 (Addr.add a8 1) fun x9 =>
 ixS x9.a x9.len i_1 42 fun a10 =>
 ldA w4 a10 42 fun c11 =>
 cr_G 31 [.agg c11] w4 fun r14 w13 =>
 (r14).size=42 ∧
 stA w13 a1 r14 fun w15 =>
 ldA w15 a1 42 fun c16 =>
 Q (.tuple ⟨[.agg c16,.bool true]⟩) w15)
theorem qxd.ok (g_0:OAd) (i_1:Int) (Q:VWP) (w:World) (h:qxd g_0 i_1 Q w):Calls Try.prog 12 ⟨[.pointer g_0,.int .i64 i_1]⟩ w (Ret Q) :=
 qqb [.cell 4 31,.tmp 5] qed Try.func12 rfl rfl rfl rfl .lf (by kernel_rfl) h
def qtc (g_0:OAd) (i_1:Int) (Q:VWP) (w:World):Prop :=
 cr_B 34 [.pointer g_0,.int .i64 i_1] w fun r3 w2 =>
 br (!r3) (
 Q (.int .i64 0) w2) (
 nz g_0 fun a4 =>
 ldL w2 (Addr.add a4 2) fun x5 =>
 ixS x5.a x5.len i_1 1 fun a6 =>
 ldI .i64 w2 a6 fun x7 =>
 Q (.int .i64 x7) w2)
theorem qtc.ok (g_0:OAd) (i_1:Int) (Q:VWP) (w:World) (h:qtc g_0 i_1 Q w):Calls Try.prog 11 ⟨[.pointer g_0,.int .i64 i_1]⟩ w (Ret Q) :=
 qqb [.tmp 4] qed Try.func11 rfl rfl rfl rfl .lf (by kernel_rfl) h
def qhd (g_0:OAd) (i_1:Int) (Q:VWP) (w:World):Prop :=
 cr_B 34 [.pointer g_0,.int .i64 i_1] w fun r3 w2 =>
 br (!r3) (
 Q (.slice none 0 0) w2) (
 lt (World.drew w2) fun w4 =>
 nz g_0 fun a5 =>
 ldL w4 (Addr.add a5 0) fun x6 =>
 nz g_0 fun a7 =>
 ldL w4 (Addr.add a7 1) fun x8 =>
 ixS x8.a x8.len i_1 42 fun a9 =>
 ldL w4 (Addr.add a9 40) fun x10 =>
 qhc 22 [sV x6,sV x10] w4 fun r13 w12 =>
 Q (sV r13) w12)
theorem qhd.ok (g_0:OAd) (i_1:Int) (Q:VWP) (w:World) (h:qhd g_0 i_1 Q w):Calls Try.prog 13 ⟨[.pointer g_0,.int .i64 i_1]⟩ w (Ret Q) :=
 qqb [.tmp 4] qed Try.func13 rfl rfl rfl rfl .lf (by kernel_rfl) h
def qce (a_0:(Array Value)) (b_1:(Array Value)) (Q:VWP) (w:World):Prop :=
 nw w a_0 31 fun a1 w2 =>
 nw w2 b_1 31 fun a3 w4 =>
 lt (World.drew w4) fun w5 =>
 lt (⟨cutP (Addr.add a1 0) 20 0 1,20 - 0,20 - 0⟩:Sl) fun s6 =>
 lt (⟨cutP (Addr.add a3 0) 20 0 1,20 - 0,20 - 0⟩:Sl) fun s7 =>
 qhf 41 [sV s6,sV s7] w5 fun r10 w9 =>
 Q (.int .i64 r10) w9
theorem qce.ok (a_0:(Array Value)) (b_1:(Array Value)) (Q:VWP) (w:World) (h:qce a_0 b_1 Q w):Calls Try.prog 18 ⟨[.agg a_0,.agg b_1]⟩ w (Ret Q) :=
 qqb [.tmp 4] qed Try.func18 rfl rfl rfl rfl .lf (by kernel_rfl) h
end Go.Proofs.Ytigmbblgfnkpbaa
namespace Go.Proofs.Ytigmbblgfnkpbaa
open Go Go.Proofs Go.Sort
set_option linter.unusedVariables false
set_option linter.unusedSimpArgs false
attribute [local irreducible] apK cpK mkK br
section
variable {F0:List Nat} {w0 w:World} {ps rest:List As} {α:Type} [Inhabited α] {f:α→List Value} {sz:Nat} {s:Sl} {d:Array α}
theorem arrN_get {d:Array α} {j:Nat} (hj:j < d.size):d.toList[j]'(by simpa using hj)=d[j]!:=by simp [hj]
theorem St.lD [i:Rec f sz] (h:St F0 w0 w ps) [Rdb F0 w0 s ps sz (d.toList.flatMap f)] {n:Int} {K:Array Value→Prop} (j:Nat) (hi:n=j) (hj:j < d.size) (hk:K ⟨f d[j]!⟩):ixS s.a s.len n sz fun a=>ldA w a sz K:=by
 refine h.lr (s:=s) (L:=d.toList) j hi (by simpa using hj) ?_
 rw [arrN_get hj]
 exact hk
theorem St.sD [r:Rec f sz] (h:St F0 w0 w (qbb sz s (d.toList.flatMap f) :: ps)) {n:Int} {x:α} {K:World→Prop} (j:Nat) (hi:n=j) (hj:j < d.size) (hk:∀ w',St F0 w0 w' (qbb sz s ((d.setIfInBounds j x).toList.flatMap f) :: ps)→K w') :
 ixS s.a s.len n sz fun a=>(⟨f x⟩:Array Value).size=sz∧Go.Proofs.Ytigmbblgfnkpbaa.stA w a ⟨f x⟩ K:=by
 subst hi
 have hj':j < d.toList.length:=by simpa using hj
 have hl:=h.len
 rw [qoc] at hl
 have hp:=r.pos
 have hsl:=Nat.eq_of_mul_eq_mul_right hp hl
 obtain ⟨F,ho,hst⟩:=h.step
 have hle:(j+1) * sz≤d.toList.length * sz:=Nat.mul_le_mul_right _ hj'
 rw [Nat.add_mul,Nat.one_mul] at hle
 rcases ho with ⟨rfl,hnil,_⟩ | ⟨ob,rs,h1,hb,h2,h3,rfl⟩
 · simp only at hsl; omega
 · unfold ixS
   rw [h1]
   refine ⟨⟨by omega,by omega⟩,r.len x,?_⟩
   rw [qjc,Nat.zero_add,Int.toNat_natCast]
   have hx:(⟨f x⟩:Array Value).size=sz:=r.len x
   have e:d.toList.set j x=d.toList.take j ++ (x :: d.toList.drop (j+1)):=by rw [List.set_eq_take_append_cons_drop,if_pos hj']
   have e2:(d.setIfInBounds j x).toList.flatMap f=(d.toList.flatMap f).take (j * sz) ++ (f x ++ (d.toList.flatMap f).drop ((j+1) * sz)):=by
    rw [Array.toList_setIfInBounds,e,qlf,qff,rws_take,rws_drop]
   have hlen:((d.setIfInBounds j x).toList.flatMap f).length=s.len * sz:=by rw [qoc,Array.toList_setIfInBounds,List.length_set,hsl]
   refine stA_blk hb ?_ (fun v hv=>r.sto x v (by simpa using hv)) fun w' hm hb'=>hk w' (hst w' [ob] _ hm (Gr.refl _ _) (Or.inr ⟨ob,rs,h1,?_,hlen,?_,rfl⟩))
   · rw [hx,List.length_append,qoc]; omega
   · rw [hx,List.take_append_of_le_length (by rw [qoc]; omega),List.drop_append_of_le_length (by rw [qoc]; omega)] at hb'
     rw [e2,Nat.add_mul,Nat.one_mul]
     simpa [List.append_assoc] using hb'
   · rw [List.length_append,hlen,← h3,List.length_append,qoc,hsl]
theorem St.swap [r:Rec f sz] (h:St F0 w0 w (qbb sz s (d.toList.flatMap f) :: ps)) {n1 n2 n3 n4:Int} {K:World→Prop} (i j:Nat) (e1:n1=j) (e2:n2=i) (e3:n3=i) (e4:n4=j) (hi:i < d.size) (hj:j < d.size)
 (hk:∀ w',St F0 w0 w' (qbb sz s ((swp d i j).toList.flatMap f) :: ps)→K w') :
 ixS s.a s.len n1 sz fun a=>ldA w a sz fun c=>ixS s.a s.len n2 sz fun a2=>ldA w a2 sz fun c2=>ixS s.a s.len n3 sz fun a3=>c.size=sz∧Go.Proofs.Ytigmbblgfnkpbaa.stA w a3 c fun w1=>ixS s.a s.len n4 sz fun a4=>c2.size=sz∧Go.Proofs.Ytigmbblgfnkpbaa.stA w1 a4 c2 K:=by
 refine h.lD (s:=s) j e1 hj ?_
 refine h.lD (s:=s) i e2 hi ?_
 refine h.sD i e3 hi fun w h=>?_
 exact h.sD j e4 (by simpa using hj) fun w h=>hk w h
end
structure Nd where
 id:List Int
 qwe:List Int
 hid:id.length=20
 htr:qwe.length=20
 bid:∀ x ∈ id,0≤x∧x < 256
 btr:∀ x ∈ qwe,0≤x∧x < 256
 par:Sl
 date:Int
def z20:List Int:=List.replicate 20 0
instance:Inhabited Nd:=⟨⟨z20,z20,rfl,rfl,by decide,by decide,⟨none,0,0⟩,0⟩⟩
def ndC (n:Nd):List Value:=ivs .u8 n.id ++ (ivs .u8 n.qwe ++ [.slice n.par.a n.par.len n.par.cap,.int .i64 n.date])
theorem qz (n:Nd):(ndC n).length=42:=by simp [ndC,n.hid,n.htr]
instance:Rec ndC 42 where
 len:=qz
 pos:=by decide
 sto n v hv:=by
  unfold ndC at hv
  rcases List.mem_append.1 hv with hv | hv
  · exact qbe v (by simpa using hv)
  · rcases List.mem_append.1 hv with hv | hv
    · exact qbe v (by simpa using hv)
    · simp at hv; rcases hv with rfl | rfl <;> trivial
theorem ndC_id (n:Nd):((ndC n).drop 0).take 20=ivs .u8 n.id:=by
 rw [List.drop_zero]
 unfold ndC
 rw [List.take_left' (by rw [qt,n.hid])]
def ltN (x y:Nd):Bool:=ltI x.id y.id
section
variable {F0:List Nat} {w0 w:World} {ps rest:List As} {K:Ending→World→Prop}
theorem qce.c {x y:Nd} (h:St F0 w0 w ps) (hk:∀ w',St F0 w0 w' ps→K (.returned (.int .i64 (cmpI x.id y.id))) w'):Calls Try.prog 18 ⟨[.agg ⟨ndC x⟩,.agg ⟨ndC y⟩]⟩ w K:=by
 refine qnb (qce.ok _ _ _ _ ?_)
 unfold qce
 refine h.new fun xb w h=>?_
 refine h.new fun yb w h=>?_
 have h:St F0 w0 w (qfb yb (ndC y) :: qfb xb (ndC x) :: ps):=h
 refine h.drewK fun w h=>?_
 refine qtd (qtd ?_)
 haveI:Rdb F0 w0 ⟨some ⟨xb,0,none⟩,20,20⟩ (qfb yb (ndC y) :: qfb xb (ndC x) :: ps) 1 (u8s x.id):=⟨fun h=>by
  have:=(h.toB xb).blk.rdAt (o:=0) (n:=20) (c:=20) (by rw [qz]; decide)
  rw [ndC_id] at this
  exact this⟩
 haveI:Rdb F0 w0 ⟨some ⟨yb,0,none⟩,20,20⟩ (qfb yb (ndC y) :: qfb xb (ndC x) :: ps) 1 (u8s y.id):=⟨fun h=>by
  have:=(h.toB yb).blk.rdAt (o:=0) (n:=20) (c:=20) (by rw [qz]; decide)
  rw [ndC_id] at this
  exact this⟩
 refine qid.c (s:=⟨some ⟨xb,0,none⟩,20,20⟩) (t:=⟨some ⟨yb,0,none⟩,20,20⟩) h x.bid y.bid ⟨_,rfl,?_⟩
 exact hk w h.sub
end
end Go.Proofs.Ytigmbblgfnkpbaa
namespace Go.Proofs.Ytigmbblgfnkpbaa
open Go Go.Proofs
set_option linter.unusedVariables false
set_option linter.unusedSimpArgs false
attribute [local irreducible] apK cpK mkK br
abbrev Nm:={ k:List Int // idOk k }
instance:Inhabited Nm:=⟨⟨z20,by refine ⟨rfl,?_⟩; decide⟩⟩
def nmC (n:Nm):List Value:=ivs .u8 n.1
instance:Rec nmC 20 where
 len n:=by unfold nmC; rw [qt,n.2.1]
 pos:=by decide
 sto n v hv:=qbe v (by simpa [nmC] using hv)
theorem Nm.ext' {a b:Nm} (h:a.1=b.1):a=b:=Subtype.ext h
def Nd.nm (n:Nd):Nm:=⟨n.id,n.hid,n.bid⟩
def ndV (n:Nd):Value:=.agg ⟨ndC n⟩
def inV (n:Int):Value:=.int .i64 n
def slV (s:Sl):Value:=.slice s.a s.len s.cap
def ndZ:Nd:=⟨z20,z20,rfl,rfl,by decide,by decide,⟨none,0,0⟩,0⟩
theorem zc_id:zc Try.prog 28=⟨ivs .u8 z20⟩:=by kernel_rfl
theorem qmd:zc Try.prog 31=⟨ndC ndZ⟩:=by kernel_rfl
instance mt_int:MapT 49 3 (.int .i64 0):=⟨by kernel_rfl,fun w=>by kernel_rfl⟩
instance mt_node:MapT 68 31 (ndV ndZ):=⟨by kernel_rfl,fun w=>by kernel_rfl⟩
instance mt_ids:MapT 94 29 (.slice none 0 0):=⟨by kernel_rfl,fun w=>by kernel_rfl⟩
instance elt_id:EltR Try.prog 28 20 (ivs .u8 z20):=⟨⟨Try.t28,by kernel_rfl,rfl,by decide,by decide⟩,by kernel_rfl,rfl,by decide⟩
instance elt_node:EltR Try.prog 31 42 (ndC ndZ):=⟨⟨Try.t31,by kernel_rfl,rfl,by decide,by decide⟩,by kernel_rfl,rfl,by decide⟩
def addE (E:Rws Nd) (n:Nd):Rws Nd:=if (lkE E n.id).isSome then E else qte E n.id n
def qcc (L:List Nd):Rws Nd:=L.foldl addE []
theorem firstE_snoc (L:List Nd) (n:Nd):qcc (L ++ [n])=addE (qcc L) n:=by simp [qcc]
section
variable {F0:List Nat} {w0 w:World} {ps rest:List As} {s:Sl} {L:List Nd}
theorem St.mkT {α:Type} (g:α→Value) (t:TypeId) {X:Nat→World→Prop} (h:St F0 w0 w ps) (hk:∀ mb w',St F0 w0 w' (tmA g mb [] :: ps)→X mb w'):∃ n:Nat,∃ w':World,mmR Try.prog t none w n w'∧X n w':=by
 refine ⟨_,_,map_make w trivial,hk _ _ (h.add (f':=[w.heap.size]) (Mod.alloc w _) ⟨⟨#[],0,?_,rfl,⟨by simp,by simp⟩,⟨by simp [kys],by simp⟩⟩,rfl⟩ ?_)⟩
 · show (w.heap.push _)[w.heap.size]?=_
   rw [Array.getElem?_push_size]
 · intro x hx
   have:x=w.heap.size:=by simpa using hx
   exact Or.inr (by omega)
theorem Blk.ldIdN {b:Nat} {n:Nd} {X:Array Value→Prop} (h:Blk w b (ndC n)) (hk:X ⟨ivs .u8 n.id⟩):Go.Proofs.Ytigmbblgfnkpbaa.ldA w (Addr.add ⟨b,0,none⟩ 0) 20 X:=by
 rw [qjc]
 refine h.ldA (cs:=⟨ivs .u8 n.id⟩) (by simp [n.hid]) (fun i hi=>?_) hk
 have e:=ndC_id n
 rw [List.drop_zero] at e
 rw [Nat.zero_add]
 have h2:=congrArg (fun l=>l[i]?) e
 simp only [List.getElem?_take,hi,if_true] at h2
 rw [h2]
 simp
theorem qjb.c {K:Ending→World→Prop} (h:St F0 w0 w ps) [Rdb F0 w0 s ps 42 (L.flatMap ndC)] (hL:L.length≤1000000)
 (hk:∀ mb w',St F0 w0 w' (tmA ndV mb (qcc L) :: ps)→K (.returned (.map (some mb))) w'):Calls Try.prog 29 ⟨[sV s]⟩ w K:=by
 have hl:=h.rlen (s:=s) (f:=ndC) (L:=L)
 refine qnb (qjb.ok _ _ _ ?_)
 unfold qjb
 refine h.mkT ndV _ fun mb w h=>?_
 unfold qjb.j1 qjb.j3
 refine loop1 (fun (i:Nat) (i':Int) w'=>i'=(i:Int)∧i≤L.length∧St F0 w0 w' (tmA ndV mb (qcc (L.take i)) :: ps)) (fun i=>L.length - i) 0 ⟨rfl,Nat.zero_le _,by simpa [qcc] using h⟩ ?_
 clear h
 rintro i _ wL I μ ⟨rfl,hi,h⟩ hin
 unfold qjb.b1
 refine qlc (fun g=>?_) (fun g=>?_)
 · have hix:i < L.length:=by omega
   refine h.lr (s:=s) (L:=L) i rfl hix ?_
   have hsn:qcc (L.take (i+1))=addE (qcc (L.take i)) L[i]:=by rw [List.take_succ_eq_append_getElem hix,firstE_snoc]
   generalize L[i]=n at hsn ⊢
   have hid:idOk n.id:=n.nm.2
   rw [qmd]
   refine h.new fun xb w h=>?_
   have h:St F0 w0 w (qfb xb (ndC ndZ) :: tmA ndV mb (qcc (L.take i)) :: ps):=h
   refine ⟨qz _,?_⟩
   refine h.setR (qz _) fun w h=>?_
   refine h.blk.ldIdN ?_
   refine ⟨(match lkE (qcc (L.take i)) n.id with | some x=>⟨ndC x⟩ | none=>⟨ndC ndZ⟩),(lkE (qcc (L.take i)) n.id).isSome,?_,?_⟩
   · have:=h.tlook2 mb 68 hid
     cases hlk:lkE (qcc (L.take i)) n.id <;> rw [hlk] at this <;> exact this
   refine h.new fun yb w h=>?_
   have h:St F0 w0 w (qfb yb (ndC ndZ) :: qfb xb (ndC n) :: tmA ndV mb (qcc (L.take i)) :: ps):=h
   have go:∀ w,St F0 w0 w (tmA ndV mb (qcc (L.take (i+1))) :: ps)→lt (IntKind.i64.wrap ((i:Int)+1)) fun x=>(some mb=some mb∧s=s∧(s.len:Int)=(s.len:Int))∧I x w∧μ x w < μ (i:Int) wL:=by
    intro w h
    refine qw (e':=((i+1:Nat):Int)) (by rw [qq (by omega) (by omega)]; rfl) ?_
    exact ⟨⟨rfl,rfl,rfl⟩,hin (i+1) _ _ ⟨rfl,by omega,h⟩ (by omega)⟩
   cases hlk:lkE (qcc (L.take i)) n.id with
   | some x =>
     refine ⟨qz _,?_⟩
     refine h.setR (qz _) fun w h=>?_
     have e:addE (qcc (L.take i)) n=qcc (L.take i):=by unfold addE; rw [hlk]; rfl
     rw [e] at hsn
     rw [← hsn] at h
     exact qzc (fun g=>by cases g) (fun _=>go w h.drop.drop)
   | none =>
     refine ⟨qz _,?_⟩
     refine h.setR (qz _) fun w h=>?_
     have e:addE (qcc (L.take i)) n=qte (qcc (L.take i)) n.id n:=by unfold addE; rw [hlk]; rfl
     rw [e] at hsn
     refine qzc (fun _=>?_) (fun g=>by cases g)
     refine (h.toB xb).blk.ldIdN ?_
     refine h.lA (b:=xb) (qz _) ?_
     refine h.tset (g:=ndV) mb 68 (x:=n) hid fun w h=>?_
     rw [← hsn] at h
     exact go w h.sub
 · have:i=L.length:=by omega
   subst this
   unfold qjb.j2
   rw [List.take_length] at h
   exact hk mb wL h
end
end Go.Proofs.Ytigmbblgfnkpbaa
namespace Go.Proofs.Ytigmbblgfnkpbaa
open Go Go.Proofs Go.ChangeShapes Go.WideShapes Go.MapKept Go.Maps
set_option linter.unusedVariables false
set_option linter.unusedSimpArgs false
attribute [local irreducible] apK cpK mkK br
section
variable {F0:List Nat} {w0 w:World} {p:As} {l l' ps rest:List As}
def qzd (l:List As):As:=allA l
theorem St.bag0 (h:St F0 w0 w ps):St F0 w0 w (qzd [] :: ps):=by
 obtain ⟨m,F,hF,hr⟩:=h
 exact ⟨m,F,⟨[],F,rfl,hF,rfl,by simp⟩,hr⟩
theorem St.bagOut (h:St F0 w0 w (qzd (p :: l) :: ps)):St F0 w0 w (p :: qzd l :: ps):=St.split (q:=allA l) h
theorem St.bagIn (h:St F0 w0 w (p :: qzd l :: ps)):St F0 w0 w (qzd (p :: l) :: ps):=St.join (q:=allA l) h
theorem St.bagP (hp:l.Perm l'):∀ {F0:List Nat} {w0 w:World} {ps:List As},St F0 w0 w (qzd l :: ps)→St F0 w0 w (qzd l' :: ps):=by
 induction hp with
 | nil=>exact fun h=>h
 | cons x _ ih=>exact fun h=>(h.bagOut.tail fun _ _ _ h=>ih h).bagIn
 | swap x y l=>exact fun h=>((h.bagOut.tail fun _ _ _ h=>h.bagOut).at1.tail fun _ _ _ h=>h.bagIn).bagIn
 | trans _ _ ih1 ih2=>exact fun h=>ih2 (ih1 h)
end
section
variable {α:Type} {g:α→Value} {b r:Nat} {E D:Rws α} {F0:List Nat} {w0 w:World} {ps rest:List As} {q:As} {t e:TypeId} {z:Value} {k:List Int}
def teA (g:α→Value) (b:Nat) (E:Rws α) (k:List Int) (n:Int):As where
 hd w F:=(∃ es clock,tmP g w b E es clock∧∃ (j:Nat) (e0:MapEntry),es[j]?=some e0∧e0.key=idV k∧(e0.born:Int)=n)∧F=[b]
 keep:=by
  rintro w w' F G ⟨⟨es,c,⟨h,e⟩,h2⟩,rfl⟩ m hd
  have hl:b < w.heap.size:=(Array.getElem?_eq_some_iff.1 h).1
  exact ⟨⟨es,c,⟨by rw [m.frame b hl (hd b (by simp))]; exact h,e⟩,h2⟩,rfl⟩
 lt:=by
  rintro w F ⟨⟨es,c,⟨h,e⟩,_⟩,rfl⟩ x hx
  have:x=b:=by simpa using hx
  subst this
  exact (Array.getElem?_eq_some_iff.1 h).1
instance MpR.ht {n:Int}:MpR α g b (teA g b E k n :: ps) E:=⟨fun h=>by
 obtain ⟨F,⟨es,c,h,_⟩,_⟩:=h.get
 exact ⟨es,c,h⟩⟩
def holdE (E:Rws α) (k:List Int) (x0:α):Rws α:=if (lkE E k).isSome then E else E ++ [(k,x0)]
theorem okE_hold {x0:α} (hE:okE E) (hk:idOk k):okE (holdE E k x0):=by
 unfold holdE
 cases h:lkE E k with
 | none =>
   simp only [Option.isSome_none,Bool.false_eq_true,if_false]
   refine ⟨?_,?_⟩
   · have e1:kys (E ++ [(k,x0)])=kys E ++ [k]:=by simp [kys]
     rw [e1,List.nodup_append]
     refine ⟨hE.1,by simp,fun a ha c hc=>?_⟩
     have:c=k:=by simpa using hc
     subst this
     intro e
     subst e
     exact qod.1 h ha
   · intro f hf
     rcases List.mem_append.1 hf with hf | hf
     · exact hE.2 f hf
     · have:f=(k,x0):=by simpa using hf
       rw [this]; exact hk
 | some y=>exact hE
theorem St.tent {x0:α} {X:Int→World→Prop} (h:St F0 w0 w ps) (b:Nat) [i:PkT α g b ps E rest] (t:TypeId) [m:MapT t e z] (hz:z=g x0) (hk:idOk k)
 (hx:∀ n w',St F0 w0 w' (teA g b (holdE E k x0) k n :: rest)→X n w') :
 ∃ n:Int,∃ w',meR Try.prog t (.map (some b)) (idV k) w (g ((lkE E k).getD x0)) n w'∧X n w':=by
 obtain ⟨f,⟨⟨es,clock,hb,hkv,hwf,hE⟩,rfl⟩,hst⟩:=(h.toT b).step
 have hlt:b < w.heap.size:=(Array.getElem?_eq_some_iff.1 hb).1
 obtain ⟨l,hkey⟩:=id_lit hk
 rcases qwd.find w hkey es.toList (rows_lit hkv hE) with ⟨h1,h2⟩ | ⟨j,e0,h1,h2,h3⟩
 · have hn:=none_row hkv h2
   refine ⟨clock,_,?_,hx _ _ (hst _ [b] (teA g b (holdE E k x0) k clock) (qkg hlt) (Gr.refl _ _) ⟨⟨es.push ⟨idV k,z,clock⟩,clock+1,⟨qbg hlt,?_,mwf_push hwf _ _,okE_hold hE hk⟩,es.size,⟨idV k,z,clock⟩,?_,rfl,rfl⟩,rfl⟩)⟩
   · unfold meR
     rw [hn]
     show _=Result.ok (Value.tuple ⟨[g x0,_]⟩) _
     rw [← hz]
     simp [Instr.mapEntry,ql m.ht,MapKept.run_getObj_map hb,qwd.check w false hkey,h1,m.hz w,MapKept.run_setObj_map _ hb,Result.andThen,goInt]
   · unfold holdE
     rw [hn]
     show kvs _=rwV g (E ++ [(k,x0)])
     unfold kvs at hkv ⊢
     rw [Array.toList_push,List.map_append,hkv]
     simp [rwV,hz]
   · simp
 · have hj:es[j]?=some e0:=by simpa using h2
   obtain ⟨f,hf,hf1,hf2⟩:=qzj hkv hj
   have hfk:f.1=k:=qhh (hf1.symm.trans h3)
   have hlk:lkE E k=some f.2:=by
    have:=qfg hE.1 (List.mem_of_getElem? hf)
    rw [hfk] at this
    exact this
   have hho:holdE E k x0=E:=by unfold holdE; rw [hlk]; rfl
   have hkv1:kvs (es.modify j fun e=>{ e with key:=idV k })=rwV g E:=by
    rw [kvs_mod hj,hkv]
    apply List.ext_getElem?
    intro i
    have hlt2:j < E.length:=(List.getElem?_eq_some_iff.1 hf).1
    simp only [List.getElem?_set,List.getElem?_map,List.length_map]
    by_cases hij:j=i
    · subst hij
      simp only [if_true,hlt2,hf,Option.map_some]
      rw [hf2,hfk]
    · rw [if_neg hij]
   refine ⟨e0.born,_,?_,hx _ _ (hst _ [b] (teA g b (holdE E k x0) k e0.born) (qkg hlt) (Gr.refl _ _) ⟨⟨es.modify j fun e=>{ e with key:=idV k },clock,⟨qbg hlt,by rw [hho]; exact hkv1,mwf_mod hwf _ _ fun _=>rfl,okE_hold hE hk⟩,j,{ e0 with key:=idV k },?_,rfl,rfl⟩,rfl⟩)⟩
   · unfold meR
     have hgx:g ((lkE E k).getD x0)=e0.val:=by rw [hlk]; exact hf2.symm
     rw [hgx]
     simp [Instr.mapEntry,ql m.ht,MapKept.run_getObj_map hb,qwd.check w false hkey,h1,hj,h3,qwd.stays w hkey,MapKept.run_setObj_map _ hb,Result.andThen,goInt]
   · rw [Array.getElem?_modify,if_pos rfl,hj]
     rfl
theorem St.tsto {y:α} {n:Int} {X:World→Prop} (h:St F0 w0 w (teA g b E k n :: ps)) (t:TypeId) (hk:idOk k) (hx:∀ w',St F0 w0 w' (tmA g b (qte E k y) :: ps)→X w') :
 ∃ w',esR Try.prog t (.map (some b)) (.int .i64 n) (g y) w w'∧X w':=by
 obtain ⟨f,⟨⟨es,clock,⟨hb,hkv,hwf,hE⟩,j,e0,hj,hek,hen⟩,rfl⟩,hst⟩:=h.step
 subst hen
 have hlt:b < w.heap.size:=(Array.getElem?_eq_some_iff.1 hb).1
 obtain ⟨f,hf,hf1,hf2⟩:=qzj hkv hj
 have hfk:f.1=k:=qhh (hf1.symm.trans hek)
 have hfi:es.findIdx? (fun e=>(e.born:Int) == (e0.born:Int))=some j:=by
  rw [← Array.toArray_toList (xs:=es),List.findIdx?_toArray]
  exact find_idx hwf.2 (by rw [Array.getElem?_toList]; exact hj)
 refine ⟨_,?_,hx _ (hst _ [b] (tmA g b (qte E k y)) (qkg hlt) (Gr.refl _ _) ⟨⟨es.modify j fun e=>{ e with val:=g y },clock,qbg hlt,?_,mwf_mod hwf _ _ fun _=>rfl,okE_upd hE hk⟩,rfl⟩)⟩
 · unfold esR
   have ha:∀ w,(asInt (Value.int .i64 (e0.born:Int))).run Try.prog w=.ok (e0.born:Int) w:=fun _=>rfl
   simp only [Instr.entryStore,ha,Sem.run_bind,MapKept.run_getObj_map hb,Result.andThen_ok,Sem.run_pure,hfi]
   exact MapKept.run_setObj_map _ hb
 · rw [kvs_mod hj,hkv]
   have e1:e0.key=idV f.1:=hf1
   show (rwV g E).set j (e0.key,g y)=_
   rw [e1]
   subst hfk
   exact rw_set hE.1 hf y
end
end Go.Proofs.Ytigmbblgfnkpbaa
namespace Go.Proofs.Ytigmbblgfnkpbaa
open Go Go.Proofs
set_option linter.unusedVariables false
set_option linter.unusedSimpArgs false
instance:DecidableEq Nm:=inferInstanceAs (DecidableEq { k:List Int // idOk k })
theorem sum_cnt (ps:List Nm):∀ {O:List Nm},O.Nodup→(O.map fun p=>ps.count p).sum=ps.countP (fun p=>decide (p ∈ O)):=by
 intro O
 induction O with
 | nil=>intro _; simp
 | cons o O ih =>
   intro h
   have h':o ∉ O∧O.Nodup:=List.nodup_cons.1 h
   rw [List.map_cons,List.sum_cons,ih h'.2]
   clear ih h
   induction ps with
   | nil=>simp
   | cons p ps ih =>
     rw [List.count_cons,List.countP_cons,List.countP_cons]
     by_cases g:p=o
     · subst g
       have e1:decide (p ∈ p :: O)=true:=by simp
       have e2:decide (p ∈ O)=false:=decide_eq_false h'.1
       simp only [e1,e2,BEq.rfl,if_true,Bool.false_eq_true,if_false]
       omega
     · have g2:(p == o)=false:=beq_eq_false_iff_ne.2 g
       have e1:decide (p ∈ o :: O)=decide (p ∈ O):=by
        by_cases g3:p ∈ O
        · rw [decide_eq_true g3,decide_eq_true (List.mem_cons_of_mem _ g3)]
        · rw [decide_eq_false g3,decide_eq_false]
          intro h
          rcases List.mem_cons.1 h with h | h
          · exact g h
          · exact g3 h
       simp only [e1,g2,Bool.false_eq_true,if_false]
       omega
theorem sum_le' {O:List Nm} {f g:Nm→Nat} (h:∀ p ∈ O,f p≤g p):(O.map f).sum≤(O.map g).sum:=by
 induction O with
 | nil=>simp
 | cons o O ih =>
   rw [List.map_cons,List.map_cons,List.sum_cons,List.sum_cons]
   have:=h o (by simp)
   have:=ih fun p hp=>h p (by simp [hp])
   omega
theorem sum_eq' {O:List Nm} {f g:Nm→Nat} (h:∀ p ∈ O,f p=g p):(O.map f).sum=(O.map g).sum:=by
 rw [List.map_congr_left h]
theorem qaf {α:Type} [DecidableEq α]:∀ {O S:List α},O.Nodup→(∀ x ∈ O,x ∈ S)→O.length≤S.length:=by
 intro O
 induction O with
 | nil=>intro S _ _; simp
 | cons o O ih =>
   intro S hn hs
   have hn':o ∉ O∧O.Nodup:=List.nodup_cons.1 hn
   have h1:=hs o (by simp)
   have h2:=ih (S:=S.erase o) hn'.2 fun x hx=>(List.mem_erase_of_ne (fun e=>hn'.1 (by rw [← e]; exact hx))).2 (hs x (by simp [hx]))
   rw [List.length_erase_of_mem h1] at h2
   have:=List.length_pos_of_mem h1
   simp only [List.length_cons]
   omega
theorem cnt_all {ps:List Nm} {a b:Nm→Bool} (hab:∀ p,a p=true→b p=true) (h:ps.countP a=ps.countP b):∀ p ∈ ps,b p=true→a p=true:=by
 induction ps with
 | nil=>intro p hp; cases hp
 | cons q ps ih =>
   rw [List.countP_cons,List.countP_cons] at h
   have hle:ps.countP a≤ps.countP b:=List.countP_mono_left fun x _ hx=>hab x hx
   have hq:a q=b q:=by
    cases ha:a q with
    | true=>exact (hab q ha).symm
    | false =>
      cases hb:b q with
      | false=>rfl
      | true=>rw [ha,hb] at h; simp at h; omega
   rw [hq] at h
   intro p hp hb
   rcases List.mem_cons.1 hp with rfl | hp
   · rw [hq]; exact hb
   · exact ih (by omega) p hp hb
section
variable (M:Rws Nd) (pr:Nd→List Nm) (lost:Bool)
def inM (p:Nm):Bool:=(lkE M p.1).isSome
def fineN (n:Nd):Bool:=lost || (pr n).all (inM M)
def cntM (n:Nd):Nat:=(pr n).countP (inM M)
def w0N (n:Nd):Nat:=if fineN M pr lost n then cntM M pr n else (pr n).length+1
structure KOk (κ:Nm→List Nm):Prop where
 a:∀ p,∀ q ∈ κ p,inM M q=true
 b:∀ (k:Nm) n,lkE M k.1=some n→∀ p,(κ p).count k≤(pr n).count p∧(fineN M pr lost n=true→inM M p=true→(κ p).count k=(pr n).count p)
def sumC (κ:Nm→List Nm) (O:List Nm) (k:Nm):Nat:=(O.map fun p=>(κ p).count k).sum
inductive Enm:List Nm→Prop
 | nil:Enm []
 | snoc {O:List Nm} {c:Nm} {n:Nd}:Enm O→lkE M c.1=some n→fineN M pr lost n=true→(∀ p ∈ pr n,inM M p=true→p ∈ O)→Enm (O ++ [c])
def gD (G:Rws Int) (p:Nm):Int:=(lkE G p.1).getD 0
def mxP (G:Rws Int) (O:List Nm):List Nm→Int
 | []=>0
 | p :: ps=>if p ∈ O then max (gD G p+1) (mxP G O ps) else mxP G O ps
def mx (G:Rws Int) (O:List Nm) (n:Nd):Int:=mxP G O (pr n)
end
theorem mxP_nn (G:Rws Int) (O:List Nm) (ps:List Nm):0≤mxP G O ps:=by
 induction ps with
 | nil=>exact Int.le_refl _
 | cons p ps ih =>
   rw [mxP]
   split
   · omega
   · exact ih
theorem mxP_snoc {G:Rws Int} {O:List Nm} {c:Nm} (hc:c ∉ O) (ps:List Nm):mxP G (O ++ [c]) ps=max (mxP G O ps) (if c ∈ ps then gD G c+1 else 0):=by
 induction ps with
 | nil=>simp [mxP]
 | cons p ps ih =>
   have hnn:=mxP_nn G O ps
   rw [mxP,mxP,ih]
   by_cases g:p=c
   · subst g
     rw [if_pos (show p ∈ O ++ [p] by simp),if_neg hc]
     simp only [List.mem_cons,true_or,if_true]
     split <;> omega
   · have g2:¬ c=p:=fun e=>g e.symm
     by_cases g3:p ∈ O
     · rw [if_pos (by simp [g3]),if_pos g3]
       by_cases g4:c ∈ ps
       · rw [if_pos g4,if_pos (by simp [g4])]; omega
       · rw [if_neg g4,if_neg (by simp [g4,g2])]; omega
     · rw [if_neg (by simp [g3,g]),if_neg g3]
       by_cases g4:c ∈ ps
       · rw [if_pos g4,if_pos (by simp [g4])]
       · rw [if_neg g4,if_neg (by simp [g4,g2])]
theorem mxP_no {G:Rws Int} {O:List Nm} {c:Nm} (ps:List Nm) (h:c ∉ ps):mxP G (O ++ [c]) ps=mxP G O ps:=by
 induction ps with
 | nil=>rfl
 | cons p ps ih =>
   have h1:¬ c=p:=fun e=>h (by simp [e])
   have h2:c ∉ ps:=fun e=>h (by simp [e])
   rw [mxP,mxP,ih h2]
   by_cases g3:p ∈ O
   · rw [if_pos (by simp [g3]),if_pos g3]
   · rw [if_neg (by simp [g3]; exact fun e=>h1 e.symm),if_neg g3]
theorem qij {G G':Rws Int} {O:List Nm} (h:∀ p ∈ O,gD G' p=gD G p) (ps:List Nm):mxP G' O ps=mxP G O ps:=by
 induction ps with
 | nil=>rfl
 | cons p ps ih =>
   rw [mxP,mxP,ih]
   split
   · rename_i g; rw [h p g]
   · rfl
section
variable {M:Rws Nd} {pr:Nd→List Nm} {lost:Bool} {κ:Nm→List Nm} {O l H R:List Nm} {W G:Rws Int} {c q:Nm}
theorem Enm.par (h:Enm M pr lost O):∀ q ∈ O,∃ n,lkE M q.1=some n∧fineN M pr lost n=true∧∀ p ∈ pr n,inM M p=true→p ∈ O:=by
 induction h with
 | nil=>intro q hq; cases hq
 | @snoc O c n _ h1 h2 h3 ih =>
   intro q hq
   rcases List.mem_append.1 hq with hq | hq
   · obtain ⟨m,k1,k2,k3⟩:=ih q hq
     exact ⟨m,k1,k2,fun p hp hm=>List.mem_append_left _ (k3 p hp hm)⟩
   · have:q=c:=by simpa using hq
     subst this
     exact ⟨n,h1,h2,fun p hp hm=>List.mem_append_left _ (h3 p hp hm)⟩
theorem sumC_le (hκ:KOk M pr lost κ) {k:Nm} {n:Nd} (hk:lkE M k.1=some n) (hO:O.Nodup) (hm:∀ c ∈ O,inM M c=true):sumC κ O k≤(pr n).countP (fun p=>decide (p ∈ O))∧(fineN M pr lost n=true→sumC κ O k=(pr n).countP (fun p=>decide (p ∈ O)))∧sumC κ O k≤w0N M pr lost n:=by
 rw [← sum_cnt _ hO]
 have h1:sumC κ O k≤(O.map fun p=>(pr n).count p).sum:=sum_le' fun p _=>(hκ.b k n hk p).1
 refine ⟨h1,fun hf=>sum_eq' fun p hp=>(hκ.b k n hk p).2 hf (hm p hp),?_⟩
 unfold w0N
 rw [sum_cnt _ hO] at h1
 split
 · refine Nat.le_trans h1 ?_
   unfold cntM
   exact List.countP_mono_left fun x _ hx=>hm x (of_decide_eq_true hx)
 · have:=List.countP_le_length (p:=fun p=>decide (p ∈ O)) (l:=pr n)
   omega
structure WkO (M:Rws Nd) (pr:Nd→List Nm) (lost:Bool) (κ:Nm→List Nm) (O l:List Nm) (W G:Rws Int):Prop where
 nd:(O ++ l).Nodup
 mem:∀ c ∈ O ++ l,inM M c=true
 wv:∀ (k:Nm) n,lkE M k.1=some n→lkE W k.1=some ((w0N M pr lost n:Int) - sumC κ O k)
 kw:∀ k ∈ kys W,k ∈ kys M
 zero:∀ (k:Nm) n,lkE M k.1=some n→(k ∈ O ++ l ↔ w0N M pr lost n=sumC κ O k)
 en:Enm M pr lost O
 kG:∀ k ∈ kys G,k ∈ kys M
 gO:∀ (c:Nm) n,c ∈ O→lkE M c.1=some n→lkE G c.1=some (max 1 (mx pr G O n))
 gN:∀ (k:Nm) n,lkE M k.1=some n→fineN M pr lost n=true→k ∉ O→gD G k=mx pr G O n
 gB:∀ (k:Nm) v,lkE G k.1=some v→1≤v∧v≤O.length+1
structure WkI (M:Rws Nd) (pr:Nd→List Nm) (lost:Bool) (κ:Nm→List Nm) (O:List Nm) (c:Nm) (H R l:List Nm) (W G:Rws Int):Prop where
 hr:κ c=H ++ R
 nd:(O ++ [c] ++ l).Nodup
 mem:∀ q ∈ O ++ [c] ++ l,inM M q=true
 wv:∀ (k:Nm) n,lkE M k.1=some n→lkE W k.1=some ((w0N M pr lost n:Int) - sumC κ O k - H.count k)
 kw:∀ k ∈ kys W,k ∈ kys M
 zero:∀ (k:Nm) n,lkE M k.1=some n→(k ∈ O ++ [c] ++ l ↔ w0N M pr lost n=sumC κ O k+H.count k)
 en:Enm M pr lost (O ++ [c])
 kG:∀ k ∈ kys G,k ∈ kys M
 gO:∀ (q:Nm) n,q ∈ O ++ [c]→lkE M q.1=some n→lkE G q.1=some (max 1 (mx pr G O n))
 gN:∀ (k:Nm) n,lkE M k.1=some n→fineN M pr lost n=true→k ∉ O ++ [c]→gD G k=max (mx pr G O n) (if k ∈ H then gD G c+1 else 0)
 gB:∀ (k:Nm) v,lkE G k.1=some v→1≤v∧v≤O.length+2
 gC:gD G c≤O.length+1
theorem mem_mid:q ∈ O ++ (l ++ [c]) ↔ q ∈ O ++ [c] ++ l:=by
 simp only [List.mem_append,List.mem_singleton]
 constructor
 · rintro (h | h | h)
   · exact Or.inl (Or.inl h)
   · exact Or.inr h
   · exact Or.inl (Or.inr h)
 · rintro ((h | h) | h)
   · exact Or.inl h
   · exact Or.inr (Or.inr h)
   · exact Or.inr (Or.inl h)
theorem qlg {p:Nm} (h:inM M p=true):∃ n,lkE M p.1=some n:=Option.isSome_iff_exists.1 h
theorem qnk (G:Rws Int) (k:Nm) (v:Int) (p:Nm):gD (qte G k.1 v) p=if p=k then v else gD G p:=by
 unfold gD
 rw [qrh]
 by_cases g:p=k
 · subst g; simp
 · have:¬ p.1=k.1:=fun e=>g (Nm.ext' e)
   simp [g,this]
theorem WkO.pop (h:WkO M pr lost κ O (l ++ [c]) W G) (hκ:KOk M pr lost κ):WkI M pr lost κ O c [] (κ c) l W (qte G c.1 (max 1 (gD G c))):=by
 have hcm:inM M c=true:=h.mem c (by simp)
 obtain ⟨n,hn⟩:=qlg hcm
 have ndO:O.Nodup:=(List.nodup_append.1 h.nd).1
 have hcO:c ∉ O:=fun hc=>(List.nodup_append.1 h.nd).2.2 c hc c (by simp) rfl
 have memO:∀ q ∈ O,inM M q=true:=fun q hq=>h.mem q (by simp [hq])
 have hz:=(h.zero c n hn).1 (by simp)
 obtain ⟨s1,s2,s3⟩:=sumC_le hκ hn ndO memO
 have hf:fineN M pr lost n=true:=by
  cases hf:fineN M pr lost n with
  | true=>rfl
  | false =>
    exfalso
    unfold w0N at hz
    rw [hf] at hz
    have:=List.countP_le_length (p:=fun p=>decide (p ∈ O)) (l:=pr n)
    simp only [Bool.false_eq_true,if_false] at hz
    omega
 have hpar:∀ p ∈ pr n,inM M p=true→p ∈ O:=by
  have h2:(pr n).countP (fun p=>decide (p ∈ O))=(pr n).countP (inM M):=by
   rw [← s2 hf,← hz]
   unfold w0N
   rw [if_pos hf]
   rfl
  intro p hp hm
  exact of_decide_eq_true (cnt_all (fun p hp=>memO p (of_decide_eq_true hp)) h2 p hp hm)
 have hmx:∀ m,mx pr (qte G c.1 (max 1 (gD G c))) O m=mx pr G O m:=fun m=>qij (fun p hp=>by rw [qnk,if_neg (fun e=>hcO (by rw [← e]; exact hp))]) _
 have hgc:=h.gN c n hn hf hcO
 have hl1:gD G c≤O.length+1:=by
  unfold gD
  cases hc:lkE G c.1 with
  | none=>simp; omega
  | some v=>exact (h.gB c v hc).2
 refine ⟨by simp,?_,fun q hq=>h.mem q (mem_mid.2 hq),fun k m hk=>by rw [h.wv k m hk]; simp,h.kw,fun k m hk=>?_,h.en.snoc hn hf hpar,fun k hk=>?_,fun q m hq hm=>?_,fun k m hk hfk hkO=>?_,fun k v hv=>?_,?_⟩
 · have:(O ++ [c] ++ l).Perm (O ++ (l ++ [c])):=by
    rw [List.append_assoc]
    exact (List.perm_append_comm).append_left _
   exact this.nodup_iff.2 h.nd
 · rw [← mem_mid,h.zero k m hk]
   simp
 · rw [qii] at hk
   split at hk
   · exact h.kG k hk
   · rcases List.mem_append.1 hk with hk | hk
     · exact h.kG k hk
     · have:k=c.1:=by simpa using hk
       subst this
       exact List.mem_map.2 ⟨_,qre hn,rfl⟩
 · rw [hmx,qrh]
   by_cases g:q=c
   · subst g
     rw [if_pos rfl,hgc]
     rw [hn] at hm
     injection hm with hm
     rw [hm]
   · rw [if_neg (fun e=>g (Nm.ext' e))]
     exact h.gO q m (by simpa [g] using hq) hm
 · have g:¬ k=c:=fun e=>hkO (by simp [e])
   rw [qnk,if_neg g,hmx]
   have:=h.gN k m hk hfk (fun e=>hkO (by simp [e]))
   have h0:=mxP_nn G O (pr m)
   rw [this]
   simp only [List.not_mem_nil,if_false]
   unfold mx
   omega
 · rw [qrh] at hv
   split at hv
   · injection hv with hv
     omega
   · have:=h.gB k v hv
     omega
 · rw [qnk,if_pos rfl]
   omega
end
end Go.Proofs.Ytigmbblgfnkpbaa
namespace Go.Proofs.Ytigmbblgfnkpbaa
open Go Go.Proofs
set_option linter.unusedVariables false
set_option linter.unusedSimpArgs false
section
variable {M:Rws Nd} {pr:Nd→List Nm} {lost:Bool} {κ:Nm→List Nm} {O l H R:List Nm} {W G:Rws Int} {c q:Nm}
theorem snoc_nd {A:List Nm} (h:A.Nodup) (hq:q ∉ A):(A ++ [q]).Nodup:=by
 rw [List.nodup_append]
 refine ⟨h,by simp,fun a ha b hb=>?_⟩
 have:b=q:=by simpa using hb
 subst this
 intro e
 subst e
 exact hq ha
theorem WkI.room (h:WkI M pr lost κ O c H (q :: R) l W G) (hκ:KOk M pr lost κ) {n:Nd} (hn:lkE M q.1=some n):sumC κ O q+H.count q+1≤w0N M pr lost n:=by
 have nd1:(O ++ [c]).Nodup:=(List.nodup_append.1 h.nd).1
 have mem1:∀ x ∈ O ++ [c],inM M x=true:=fun x hx=>h.mem x (List.mem_append_left _ hx)
 have h3:=(sumC_le hκ hn nd1 mem1).2.2
 have h4:sumC κ (O ++ [c]) q=sumC κ O q+(κ c).count q:=by simp [sumC]
 have h5:(κ c).count q=H.count q+(R.count q+1):=by rw [h.hr,List.count_append,List.count_cons]; simp
 omega
theorem WkI.step (h:WkI M pr lost κ O c H (q :: R) l W G) (hκ:KOk M pr lost κ):inM M q=true∧q ∉ O ++ [c]∧∃ v:Int,lkE W q.1=some v∧1≤v∧v≤w0N M pr lost ((lkE M q.1).getD ndZ) ∧
 WkI M pr lost κ O c (H ++ [q]) R (if v - 1=0 then l ++ [q] else l) (qte W q.1 (v - 1)) (qte G q.1 (max (gD G q) (gD G c+1))):=by
 have hqm:inM M q=true:=hκ.a c q (by rw [h.hr]; simp)
 obtain ⟨n,hn⟩:=qlg hqm
 have hroom:=h.room hκ hn
 have hz:=h.zero q n hn
 have hqn:q ∉ O ++ [c] ++ l:=fun e=>by have:=hz.1 e; omega
 have hqO:q ∉ O ++ [c]:=fun e=>hqn (List.mem_append_left _ e)
 have hw:=h.wv q n hn
 refine ⟨hqm,hqO,_,hw,by omega,by rw [hn]; simp only [Option.getD_some]; omega,?_⟩
 generalize hv:(w0N M pr lost n:Int) - sumC κ O q - H.count q=v at hw
 have hcq:¬ c=q:=fun e=>hqO (by rw [← e]; simp)
 have hGO:∀ p ∈ O ++ [c],gD (qte G q.1 (max (gD G q) (gD G c+1))) p=gD G p:=fun p hp=>by rw [qnk,if_neg (fun e=>hqO (by rw [← e]; exact hp))]
 have hmx:∀ m,mx pr (qte G q.1 (max (gD G q) (gD G c+1))) O m=mx pr G O m:=fun m=>qij (fun p hp=>hGO p (List.mem_append_left _ hp)) _
 have hqM:q.1 ∈ kys M:=List.mem_map.2 ⟨_,qre hn,rfl⟩
 refine ⟨by rw [h.hr]; simp,?_,fun x hx=>?_,fun k m hk=>?_,fun k hk=>?_,fun k m hk=>?_,h.en,fun k hk=>?_,fun x m hx hm=>?_,fun k m hk hfk hkO=>?_,fun k x hx=>?_,?_⟩
 · split
   · rw [← List.append_assoc]
     exact snoc_nd h.nd hqn
   · exact h.nd
 · split at hx
   · rw [← List.append_assoc] at hx
     rcases List.mem_append.1 hx with hx | hx
     · exact h.mem x hx
     · have:x=q:=by simpa using hx
       rw [this]; exact hqm
   · exact h.mem x hx
 · rw [qrh,List.count_append]
   by_cases g:k=q
   · subst g
     rw [hn] at hk
     injection hk with hk
     subst hk
     rw [if_pos rfl]
     simp
     omega
   · rw [if_neg (fun e=>g (Nm.ext' e)),h.wv k m hk]
     have:[q].count k=0:=by
      rw [List.count_eq_zero]
      simpa using g
     rw [this]
     simp
 · rw [qii] at hk
   split at hk
   · exact h.kw k hk
   · rcases List.mem_append.1 hk with hk | hk
     · exact h.kw k hk
     · have:k=q.1:=by simpa using hk
       rw [this]; exact hqM
 · rw [List.count_append]
   by_cases g:k=q
   · subst g
     rw [hn] at hk
     injection hk with hk
     subst hk
     have e1:[k].count k=1:=by simp
     rw [e1]
     split
     · rename_i g2
       refine ⟨fun _=>by omega,fun _=>by simp⟩
     · rename_i g2
       exact ⟨fun e=>absurd e hqn,fun e=>by exfalso; omega⟩
   · have e1:[q].count k=0:=by
      rw [List.count_eq_zero]
      simpa using g
     rw [e1,Nat.add_zero,← h.zero k m hk]
     split
     · rw [← List.append_assoc]
       constructor
       · intro hx
         rcases List.mem_append.1 hx with hx | hx
         · exact hx
         · exact absurd (by simpa using hx) g
       · exact fun hx=>List.mem_append_left _ hx
     · exact Iff.rfl
 · rw [qii] at hk
   split at hk
   · exact h.kG k hk
   · rcases List.mem_append.1 hk with hk | hk
     · exact h.kG k hk
     · have:k=q.1:=by simpa using hk
       rw [this]; exact hqM
 · rw [hmx,qrh,if_neg (fun e=>hqO (by rw [← Nm.ext' e]; exact hx))]
   exact h.gO x m hx hm
 · rw [hmx,qnk,hGO c (by simp)]
   have h0:=mxP_nn G O (pr m)
   by_cases g:k=q
   · subst g
     rw [if_pos rfl,h.gN k m hk hfk hkO,if_pos (show k ∈ H ++ [k] by simp)]
     unfold mx
     split <;> omega
   · rw [if_neg g,h.gN k m hk hfk hkO]
     congr 1
     by_cases g2:k ∈ H
     · rw [if_pos g2,if_pos (by simp [g2])]
     · rw [if_neg g2,if_neg (fun e=>by
        rcases List.mem_append.1 e with e | e
        · exact g2 e
        · exact g (by simpa using e))]
 · rw [qrh] at hx
   split at hx
   · injection hx with hx
     have h1:1≤gD G c:=by
      obtain ⟨nc,hnc⟩:=qlg (h.mem c (by simp))
      have:=h.gO c nc (by simp) hnc
      unfold gD
      rw [this]
      simp only [Option.getD_some]
      omega
     have h2:gD G q≤O.length+2:=by
      unfold gD
      cases hg:lkE G q.1 with
      | none=>simp; omega
      | some v=>exact (h.gB q v hg).2
     have:=h.gC
     omega
   · exact h.gB k x hx
 · rw [hGO c (by simp)]
   exact h.gC
theorem Enm.snoc_inv (h:Enm M pr lost (O ++ [c])):Enm M pr lost O∧∃ n,lkE M c.1=some n∧fineN M pr lost n=true∧∀ p ∈ pr n,inM M p=true→p ∈ O:=by
 generalize hX:O ++ [c]=X at h
 cases h with
 | nil=>simp at hX
 | @snoc O' c' n h0 h1 h2 h3 =>
   obtain ⟨e1,e2⟩:=List.append_inj' hX rfl
   subst e1
   injection e2 with e2
   subst e2
   exact ⟨h0,n,h1,h2,h3⟩
theorem Enm.last (h:Enm M pr lost (O ++ [c])) (hc:c ∉ O) (hm:inM M c=true) {q:Nm} {n:Nd} (hq:q ∈ O ++ [c]) (hn:lkE M q.1=some n):c ∉ pr n:=by
 intro hcp
 obtain ⟨h0,m,h1,h2,h3⟩:=h.snoc_inv
 rcases List.mem_append.1 hq with hq | hq
 · obtain ⟨m2,k1,k2,k3⟩:=h0.par q hq
   rw [hn] at k1
   injection k1 with k1
   subst k1
   exact hc (k3 c hcp hm)
 · have:q=c:=by simpa using hq
   subst this
   rw [hn] at h1
   injection h1 with h1
   subst h1
   exact hc (h3 q hcp hm)
theorem WkI.done (h:WkI M pr lost κ O c H [] l W G) (hκ:KOk M pr lost κ):WkO M pr lost κ (O ++ [c]) l W G:=by
 have hH:κ c=H:=by rw [h.hr,List.append_nil]
 have hs:∀ k,sumC κ (O ++ [c]) k=sumC κ O k+H.count k:=fun k=>by simp [sumC,hH]
 have hcO:c ∉ O:=fun hc=>by
  have:=(List.nodup_append.1 (List.nodup_append.1 h.nd).1).2.2 c hc c (by simp)
  exact this rfl
 have hcm:inM M c=true:=h.mem c (by simp)
 refine ⟨h.nd,h.mem,fun k n hk=>?_,h.kw,fun k n hk=>?_,h.en,h.kG,fun q n hq hn=>?_,fun k n hk hf hkO=>?_,fun k v hv=>?_⟩
 · rw [h.wv k n hk,hs]
   congr 1
   omega
 · rw [h.zero k n hk,hs]
 · rw [h.gO q n hq hn]
   have:c ∉ pr n:=h.en.last hcO hcm hq hn
   congr 2
   exact (mxP_no _ this).symm
 · rw [h.gN k n hk hf hkO]
   unfold mx
   rw [mxP_snoc hcO]
   congr 1
   have hb:=(hκ.b k n hk c).2 hf hcm
   by_cases g:c ∈ pr n
   · have:0 < (κ c).count k:=by rw [hb]; exact List.count_pos_iff.2 g
     rw [hH] at this
     rw [if_pos g,if_pos (List.count_pos_iff.1 this)]
   · have:(κ c).count k=0:=by rw [hb]; exact List.count_eq_zero.2 g
     rw [hH] at this
     rw [if_neg g,if_neg (List.count_eq_zero.1 this)]
 · have:=h.gB k v hv
   simp only [List.length_append,List.length_singleton]
   omega
end
end Go.Proofs.Ytigmbblgfnkpbaa
namespace Go.Proofs.Ytigmbblgfnkpbaa
open Go Go.Proofs
set_option linter.unusedVariables false
set_option linter.unusedSimpArgs false
section
variable (M:Rws Nd) (pr:Nd→List Nm) (lost:Bool)
def seenP (n:Nd):List Nm:=if lost then pr n else (pr n).takeWhile (inM M)
def kapD (D:Rws Nd) (p:Nm):List Nm:=if inM M p then D.flatMap fun e=>List.replicate ((seenP M pr lost e.2).count p) e.2.nm else []
def rdyD (D:Rws Nd):List Nm:=(D.filter fun e=>w0N M pr lost e.2 == 0).map fun e=>e.2.nm
def waitD (D:Rws Nd):Rws Int:=D.map fun e=>(e.1,(w0N M pr lost e.2:Int))
def ownN (D:Rws Nd):Prop:=∀ e ∈ D,e.1=e.2.id
end
section
variable {M D:Rws Nd} {pr:Nd→List Nm} {lost:Bool}
theorem ownN.nm (h:ownN D) {e:List Int × Nd} (he:e ∈ D):e.2.nm.1=e.1:=(h e he).symm
theorem seen_sub (n:Nd):(seenP M pr lost n).Sublist (pr n):=by
 unfold seenP
 split
 · exact List.Sublist.refl _
 · exact List.takeWhile_sublist _
theorem seen_fine {n:Nd} (h:fineN M pr lost n=true):seenP M pr lost n=pr n:=by
 unfold seenP
 unfold fineN at h
 cases lost with
 | true=>rfl
 | false =>
   simp only [Bool.false_or] at h
   rw [if_neg (by decide)]
   generalize pr n=ps at h
   induction ps with
   | nil=>rfl
   | cons p ps ih =>
     rw [List.all_cons,Bool.and_eq_true] at h
     rw [List.takeWhile_cons,h.1]
     simp only [if_true]
     rw [ih h.2]
theorem cnt_kap (hn:(kys D).Nodup) (ho:ownN D) {e:List Int × Nd} (he:e ∈ D) (f:Nd→Nat):(D.flatMap fun e=>List.replicate (f e.2) e.2.nm).count e.2.nm=f e.2:=by
 induction D with
 | nil=>cases he
 | cons d D ih =>
   have hn':d.1 ∉ kys D∧(kys D).Nodup:=List.nodup_cons.1 hn
   have ho':ownN D:=fun x hx=>ho x (List.mem_cons_of_mem _ hx)
   rw [List.flatMap_cons,List.count_append]
   rcases List.mem_cons.1 he with rfl | he
   · have:(D.flatMap fun e=>List.replicate (f e.2) e.2.nm).count e.2.nm=0:=by
      rw [List.count_eq_zero]
      intro hm
      obtain ⟨x,hx,hx2⟩:=List.mem_flatMap.1 hm
      have:=(List.mem_replicate.1 hx2).2
      have h2:x.1=e.1:=by rw [ho' x hx,ho e (by simp)]; exact (congrArg (·.1) this).symm
      exact hn'.1 (List.mem_map.2 ⟨x,hx,h2⟩)
     rw [this,List.count_replicate_self]
     omega
   · rw [ih hn'.2 ho' he]
     have:(List.replicate (f d.2) d.2.nm).count e.2.nm=0:=by
      rw [List.count_eq_zero]
      intro hm
      have:=(List.mem_replicate.1 hm).2
      have h2:e.1=d.1:=by rw [ho' e he,ho d (by simp)]; exact congrArg (·.1) this
      exact hn'.1 (List.mem_map.2 ⟨e,he,h2⟩)
     rw [this]
     omega
theorem kap_ok (hn:(kys M).Nodup) (ho:ownN M) (hp:D.Perm M):KOk M pr lost (kapD M pr lost D):=by
 have hnD:(kys D).Nodup:=(List.Perm.nodup_iff (List.Perm.map (fun x:List Int × Nd=>x.1) hp)).2 hn
 have hoD:ownN D:=fun e he=>ho e (hp.mem_iff.1 he)
 refine ⟨fun p q hq=>?_,fun k n hk p=>?_⟩
 · unfold kapD at hq
   split at hq
   · obtain ⟨e,he,h2⟩:=List.mem_flatMap.1 hq
     have:=(List.mem_replicate.1 h2).2
     subst this
     have he':=hp.mem_iff.1 he
     unfold inM
     rw [ho.nm he',qfg hn he']
     rfl
   · cases hq
 · have he:(k.1,n) ∈ D:=hp.mem_iff.2 (qre hk)
   have hk2:n.nm=k:=Nm.ext' (hoD.nm he)
   have h1:inM M p=true→(kapD M pr lost D p).count k=(seenP M pr lost n).count p:=by
    intro hm
    unfold kapD
    rw [if_pos hm,← hk2]
    exact cnt_kap hnD hoD he (fun n=>(seenP M pr lost n).count p)
   constructor
   · cases hm:inM M p with
     | true=>rw [h1 hm]; exact (seen_sub n).count_le p
     | false=>unfold kapD; rw [hm]; simp
   · intro hf hm
     rw [h1 hm,seen_fine hf]
theorem wk_start (hn:(kys M).Nodup) (ho:ownN M) (hp:D.Perm M):WkO M pr lost (kapD M pr lost D) [] (rdyD M pr lost D) (waitD M pr lost D) []:=by
 have hnD:(kys D).Nodup:=(List.Perm.nodup_iff (List.Perm.map (fun x:List Int × Nd=>x.1) hp)).2 hn
 have hoD:ownN D:=fun e he=>ho e (hp.mem_iff.1 he)
 have hkw:kys (waitD M pr lost D)=kys D:=by simp [kys,waitD]
 refine ⟨?_,fun c hc=>?_,fun k n hk=>?_,fun k hk=>?_,fun k n hk=>?_,Enm.nil,fun k hk=>(by simp [kys] at hk),fun c n hc=>(by cases hc),fun k n hk hf hkO=>?_,fun k v hv=>(by cases hv)⟩
 · rw [List.nil_append]
   unfold rdyD
   have h1:((D.filter fun e=>w0N M pr lost e.2 == 0).map (·.1)).Nodup:=hnD.sublist (List.filter_sublist.map _)
   have h2:((D.filter fun e=>w0N M pr lost e.2 == 0).map fun e=>e.2.nm).map (·.1)=(D.filter fun e=>w0N M pr lost e.2 == 0).map (·.1):=by
    rw [List.map_map]
    apply List.map_congr_left
    intro e he
    exact hoD.nm (List.mem_filter.1 he).1
   rw [← h2] at h1
   exact List.Pairwise.of_map (S:=(· ≠ ·)) (fun x:Nm=>x.1) (fun a b h e=>h (by rw [e])) h1
 · rw [List.nil_append] at hc
   obtain ⟨e,he,rfl⟩:=List.mem_map.1 hc
   have he':=hp.mem_iff.1 (List.mem_filter.1 he).1
   unfold inM
   rw [ho.nm he',qfg hn he']
   rfl
 · have he:(k.1,n) ∈ D:=hp.mem_iff.2 (qre hk)
   have h2:(k.1,(w0N M pr lost n:Int)) ∈ waitD M pr lost D:=List.mem_map.2 ⟨_,he,rfl⟩
   rw [qfg (by rw [hkw]; exact hnD) h2]
   simp [sumC]
 · rw [hkw] at hk
   exact (List.Perm.map (fun x:List Int × Nd=>x.1) hp).mem_iff.1 hk
 · have he:(k.1,n) ∈ D:=hp.mem_iff.2 (qre hk)
   have hk2:n.nm=k:=Nm.ext' (hoD.nm he)
   rw [List.nil_append,show sumC (kapD M pr lost D) [] k=0 from rfl]
   constructor
   · intro hm
     obtain ⟨e,he2,h3⟩:=List.mem_map.1 hm
     obtain ⟨h4,h5⟩:=List.mem_filter.1 he2
     have h6:e.1=k.1:=by rw [← hoD.nm h4,h3]
     have h7:=qfg hnD h4
     rw [h6] at h7
     have h8:=qfg hnD he
     rw [h7] at h8
     injection h8 with h8
     subst h8
     exact eq_of_beq h5
   · intro h0
     exact List.mem_map.2 ⟨_,List.mem_filter.2 ⟨he,by simp [h0]⟩,hk2⟩
 · unfold gD mx
   have:∀ ps:List Nm,mxP [] [] ps=0:=fun ps=>by
    induction ps with
    | nil=>rfl
    | cons p ps ih=>rw [mxP,if_neg (by simp),ih]
   rw [this]
   rfl
structure WkE (M:Rws Nd) (pr:Nd→List Nm) (lost:Bool) (O:List Nm) (G:Rws Int):Prop where
 nd:O.Nodup
 en:Enm M pr lost O
 most:∀ (k:Nm) n,lkE M k.1=some n→fineN M pr lost n=true→(∀ p ∈ pr n,inM M p=true→p ∈ O)→k ∈ O
 keys:∀ k:Nm,k.1 ∈ kys G ↔ k ∈ O
 gens:∀ (c:Nm) n,c ∈ O→lkE M c.1=some n→lkE G c.1=some (max 1 (mx pr G O n))
 mem:∀ k ∈ kys G,k ∈ kys M
theorem wk_end {O:List Nm} {W G G':Rws Int} {κ:Nm→List Nm} (hκ:KOk M pr lost κ) (h:WkO M pr lost κ O [] W G) (hG:∀ k:Nm,lkE G' k.1=if (lkE W k.1).any (fun v=>decide (v > 0)) then none else lkE G k.1) (hG2:∀ k ∈ kys G',k ∈ kys G) (hid:∀ k ∈ kys M,idOk k):WkE M pr lost O G':=by
 have hO:∀ (k:Nm) n,lkE M k.1=some n→(k ∈ O ↔ w0N M pr lost n=sumC κ O k):=fun k n hk=>by
  have:=h.zero k n hk
  rwa [List.append_nil] at this
 have ndO:O.Nodup:=by have:=h.nd; rwa [List.append_nil] at this
 have memO:∀ c ∈ O,inM M c=true:=fun c hc=>h.mem c (by simp [hc])
 have hin:∀ c ∈ O,lkE G' c.1=lkE G c.1:=by
  intro c hc
  obtain ⟨n,hn⟩:=qlg (memO c hc)
  rw [hG,h.wv c n hn]
  have:=(hO c n hn).1 hc
  simp only [Option.any_some]
  rw [if_neg]
  simp
  omega
 have hgd:∀ p ∈ O,gD G' p=gD G p:=fun p hp=>by unfold gD; rw [hin p hp]
 refine ⟨ndO,h.en,fun k n hk hf hp=>?_,fun k=>⟨fun hk=>?_,fun hk=>?_⟩,fun c n hc hn=>?_,fun k hk=>h.kG k (hG2 k hk)⟩
 · rw [hO k n hk,(sumC_le hκ hk ndO memO).2.1 hf]
   unfold w0N
   rw [if_pos hf]
   unfold cntM
   apply List.countP_congr
   intro p hpp
   constructor
   · exact fun hm=>decide_eq_true (hp p hpp hm)
   · exact fun hm=>memO p (of_decide_eq_true hm)
 · have hkM:k.1 ∈ kys M:=h.kG _ (hG2 _ hk)
   obtain ⟨n,hn⟩:∃ n,lkE M k.1=some n:=by
    cases hl:lkE M k.1 with
    | none=>exact absurd hkM (qod.1 hl)
    | some n=>exact ⟨n,rfl⟩
   rw [hO k n hn]
   have h1:lkE G' k.1 ≠ none:=fun e=>qod.1 e hk
   rw [hG,h.wv k n hn] at h1
   simp only [Option.any_some] at h1
   have h2:=(sumC_le hκ hn ndO memO).2.2
   by_cases g:(w0N M pr lost n:Int) - sumC κ O k > 0
   · rw [if_pos (decide_eq_true g)] at h1
     exact absurd rfl h1
   · omega
 · obtain ⟨n,hn⟩:=qlg (memO k hk)
   have:=h.gO k n hk hn
   rw [← hin k hk] at this
   exact List.mem_map.2 ⟨_,qre this,rfl⟩
 · rw [hin c hc,h.gO c n hc hn]
   congr 2
   exact (qij hgd _).symm
end
end Go.Proofs.Ytigmbblgfnkpbaa
namespace Go.Proofs.Ytigmbblgfnkpbaa
open Go Go.Proofs
set_option linter.unusedVariables false
set_option linter.unusedSimpArgs false
section
variable {M:Rws Nd} {pr:Nd→List Nm} {lost:Bool} {O O1 O2 A:List Nm} {G G1 G2:Rws Int}
theorem WkE.inM (h:WkE M pr lost O G) {q:Nm} (hq:q ∈ O):Go.Proofs.Ytigmbblgfnkpbaa.inM M q=true:=by
 have:=h.mem q.1 ((h.keys q).2 hq)
 unfold Go.Proofs.Ytigmbblgfnkpbaa.inM
 cases hl:lkE M q.1 with
 | none=>exact absurd this (qod.1 hl)
 | some x=>rfl
end
end Go.Proofs.Ytigmbblgfnkpbaa
namespace Go.Proofs.Ytigmbblgfnkpbaa
open Go Go.Proofs
set_option linter.unusedVariables false
set_option linter.unusedSimpArgs false
theorem spl_go (off:Nat):∀ (cs:List Value) (j:Nat) (a:Array Value),off+j+cs.length≤a.size →
 ((cs.zipIdx j).foldl (fun (a:Array Value) (x:Value × Nat)=>a.setIfInBounds (off+x.2) x.1) a).toList=a.toList.take (off+j) ++ cs ++ a.toList.drop (off+j+cs.length):=by
 intro cs
 induction cs with
 | nil=>intro j a h; simp
 | cons c cs ih =>
   intro j a h
   rw [List.length_cons] at h
   rw [List.zipIdx_cons,List.foldl_cons,ih (j+1) _ (by simp; omega)]
   have e:(a.setIfInBounds (off+j) c).toList=a.toList.set (off+j) c:=by simp
   rw [e]
   have ht:(a.toList.set (off+j) c).take (off+(j+1))=a.toList.take (off+j) ++ [c]:=by
    rw [show off+(j+1)=(off+j)+1 by omega,List.take_add_one,List.take_set_of_le (Nat.le_refl _)]
    congr 1
    rw [List.getElem?_set_self (by simp; omega)]
    rfl
   have hd:(a.toList.set (off+j) c).drop (off+(j+1)+cs.length)=a.toList.drop (off+j+(c :: cs).length):=by
    rw [List.drop_set_of_lt (by omega),List.length_cons]
    congr 1
    omega
   rw [ht,hd,List.append_assoc,List.append_assoc,List.append_assoc]
   rfl
theorem spl_eq (l:List Value) (off:Nat) (cs:List Value) (h:off+cs.length≤l.length):spl l off ⟨cs⟩=l.take off ++ cs ++ l.drop (off+cs.length):=by
 have:=spl_go off cs 0 ⟨l⟩ (by simpa using h)
 unfold spl
 rw [Nat.add_zero] at this
 rw [← this]
 simp
theorem qde {l cs:List Value} (h:cs.length=l.length):spl l 0 ⟨cs⟩=cs:=by
 rw [spl_eq l 0 cs (by omega),List.take_zero,List.nil_append,List.drop_eq_nil_of_le (by omega),List.append_nil]
end Go.Proofs.Ytigmbblgfnkpbaa
namespace Go.Proofs.Ytigmbblgfnkpbaa
open Go Go.Proofs
set_option linter.unusedVariables false
set_option linter.unusedSimpArgs false
attribute [local irreducible] apK cpK mkK br
section
variable {F0:List Nat} {w0 w:World} {ps rest:List As} {s:Sl} {sz:Nat}
theorem St.nilO (h:St F0 w0 w ps):St F0 w0 w (qbb sz ⟨none,0,0⟩ [] :: ps) :=
 h.add (f':=[]) (Mod.refl _ _) (Or.inl ⟨rfl,rfl,rfl⟩) (by intro x hx; cases hx)
theorem St.popR {α:Type} {f:α→List Value} [i:Rec f sz] {L:List α} {x:α} (h:St F0 w0 w (qbb sz s ((L ++ [x]).flatMap f) :: ps)):s.len=L.length+1∧s.len≤s.cap∧St F0 w0 w (qbb sz ⟨qvd s.a s.cap 0 sz,L.length - 0,s.cap - 0⟩ (L.flatMap f) :: ps):=by
 have hl:=h.len
 rw [qoc,List.length_append] at hl
 have hl2:=Nat.eq_of_mul_eq_mul_right i.pos hl
 simp only [List.length_singleton] at hl2
 have hcap:s.len≤s.cap:=by
  obtain ⟨F,ho,hst⟩:=h.step
  rcases ho with ⟨rfl,hnil,_⟩ | ⟨ob,rs,h1,hb,h2,h3,rfl⟩
  · exact Nat.le_refl _
  · rw [List.length_append,h2] at h3
    exact Nat.le_of_mul_le_mul_right (by omega:s.len * sz≤s.cap * sz) i.pos
 refine ⟨hl2.symm,hcap,h.mp ?_⟩
 rintro F (⟨e,hnil,_⟩ | ⟨ob,rs,h1,hb,h2,h3,rfl⟩)
 · rw [e] at hl2; simp only at hl2; omega
 · refine Or.inr ⟨ob,f x ++ rs,?_,?_,?_,?_,rfl⟩
   · show qvd s.a s.cap 0 sz=_
     unfold qvd
     rw [if_neg (by omega),h1,Nat.zero_mul]
     simp [Addr.add]
   · rw [qlf,qeh,List.append_assoc] at hb
     exact hb
   · show _=(L.length - 0) * sz
     rw [qoc,Nat.sub_zero]
   · show _=(s.cap - 0) * sz
     rw [Nat.sub_zero,← h3,qlf,qeh,List.append_assoc]
theorem St.trle {α:Type} {g:α→Value} {b r:Nat} {E D:Rws α} (h:St F0 w0 w (trA g b r E D :: ps)):(kys D).Nodup∧(∀ e ∈ D,e ∈ E)∧D.length≤E.length:=by
 obtain ⟨F,⟨es,clock,D',⟨hb,hkv,hwf,hE⟩,hr,hD,hDm,hDn,hDE⟩,_⟩:=h.get
 refine ⟨hDn,hDE,?_⟩
 have:=qaf (O:=kys D) (S:=kys E) hDn fun x hx=>by
  obtain ⟨e,he,rfl⟩:=List.mem_map.1 hx
  exact List.mem_map.2 ⟨e,hDE e he,rfl⟩
 simpa [kys] using this
end
section
variable {F0:List Nat} {w0 w:World} {ps rest:List As} {s t8 t93:Sl} {wb gb cb j:Nat} {W G:Rws Int} {l L:List Nm} {c q:Nm} {v:Int} {t6:Option Nat} {t94:Int}
 {Q:VWP} {nx2:(Option Nat)→(Option Nat)→(Option Nat)→Sl→WP} {nx3:(Option Nat)→(Option Nat)→(Option Nat)→Addr→Sl→Int→Sl→Int→WP}
theorem qif (h:St F0 w0 w ps) (b:Nat) [i:MpR Int inV b ps G] (p:Nm):lkR Try.prog 49 (.map (some b)) (.agg ⟨nmC p⟩) false w (.int .i64 (gD G p)):=by
 have:=h.tlook1 b 49 p.2
 unfold gD
 cases hl:lkE G p.1 <;> rw [hl] at this <;> exact this
theorem St.newNm {X:Addr→World→Prop} {p:Nm} (h:St F0 w0 w ps) (hk:∀ b w',St F0 w0 w' (qfb b (nmC p) :: ps)→X ⟨b,0,none⟩ w'):nw w (zc Try.prog 28) 28 fun a w1=>(⟨nmC p⟩:Array Value).size=20∧Go.Proofs.Ytigmbblgfnkpbaa.stA w1 a ⟨nmC p⟩ fun w2=>X a w2:=by
 rw [zc_id]
 refine h.new fun xb w h=>?_
 have h:St F0 w0 w (qfb xb (nmC ⟨z20,by refine ⟨rfl,?_⟩; decide⟩) :: ps):=h
 refine ⟨(inferInstance:Rec nmC 20).len p,?_⟩
 exact h.setR (f:=nmC) ((inferInstance:Rec nmC 20).len _) fun w h=>hk xb w h
theorem work_14 (h:St F0 w0 w (tmA inV wb W :: qbb 20 t8 (l.flatMap nmC) :: qfb j (nmC q) :: ps)) (hl:l.length≤1000000) {cbA:Addr} {t95:Int} {t7:Option Nat}
 (hk:∀ t8' w',St F0 w0 w' (tmA inV wb W :: qbb 20 t8' ((if gD W q=0 then l ++ [q] else l).flatMap nmC) :: ps)→qi.j12 (some wb) t6 t7 t8' cbA t93 t94 t95 Q nx2 nx3 w') :
 qi.j14 (some wb) t6 t7 t8 cbA ⟨j,0,none⟩ t93 t94 t95 Q nx2 nx3 w:=by
 unfold qi.j14
 have hq:(nmC q).length=20:=(inferInstance:Rec nmC 20).len q
 refine h.lA (b:=j) hq ⟨_,qif h wb q,?_⟩
 refine qzc (fun g=>?_) (fun g=>?_)
 · have g:gD W q=0:=by simpa using g
   refine h.lA (b:=j) hq ⟨hq,?_⟩
   rw [qde (by rw [hq]; rfl)]
   refine h.pushR (s:=t8) (L:=l) (x:=q) (by omega) rfl fun s' w' hs h=>?_
   rw [if_pos g] at hk
   exact hk s' w' h.sub
 · have g:¬ gD W q=0:=by simpa using g
   rw [if_neg g] at hk
   exact hk t8 w h.sub
attribute [local irreducible] lkR muR meR esR
theorem work_kid (h:St F0 w0 w (tmA inV wb W :: tmA inV gb G :: qbb 20 t8 (l.flatMap nmC) :: qfb cb (nmC c) :: ps)) [Rdb F0 w0 t93 ps 20 (L.flatMap nmC)] (hj:j < L.length) (hq:L[j]=q) (hw:lkE W q.1=some v) (hv0:1≤v) (hv1:v≤1000000000) (hl:l.length≤1000000) (hg0 : -5≤gD G c) (hg1:gD G c≤1000000000)
 (hk:∀ t8' w',St F0 w0 w' (tmA inV wb (qte W q.1 (v - 1)) :: tmA inV gb (qte G q.1 (max (gD G q) (gD G c+1))) :: qbb 20 t8' ((if v - 1=0 then l ++ [q] else l).flatMap nmC) :: qfb cb (nmC c) :: ps)→qi.j12 (some wb) t6 (some gb) t8' ⟨cb,0,none⟩ t93 t94 (j:Int) Q nx2 nx3 w') :
 qi.j11 (some wb) t6 (some gb) t8 ⟨cb,0,none⟩ t93 t94 (j:Int) Q nx2 nx3 w:=by
 have lenC:∀ p:Nm,(nmC p).length=20:=fun p=>(inferInstance:Rec nmC 20).len p
 unfold qi.j11
 refine h.lr (s:=t93) (L:=L) j rfl hj ?_
 rw [hq]
 refine h.newNm (p:=q) fun qb w h=>?_
 refine h.drewK fun w h=>?_
 have j13:∀ w,St F0 w0 w (qfb qb (nmC q) :: tmA inV wb W :: tmA inV gb (qte G q.1 (max (gD G q) (gD G c+1))) :: qbb 20 t8 (l.flatMap nmC) :: qfb cb (nmC c) :: ps)→qi.j13 (some wb) t6 (some gb) t8 ⟨cb,0,none⟩ ⟨qb,0,none⟩ t93 t94 (j:Int) Q nx2 nx3 w:=by
  intro w h
  unfold qi.j13
  refine h.drewK fun w h=>?_
  refine h.lA (b:=qb) (lenC q) ?_
  have hgw:gD W q=v:=by unfold gD; rw [hw]; rfl
  have hho:holdE W q.1 0=W:=by unfold holdE; rw [hw]; rfl
  have h2:St F0 w0 w (tmA inV wb W :: qfb qb (nmC q) :: tmA inV gb (qte G q.1 (max (gD G q) (gD G c+1))) :: qbb 20 t8 (l.flatMap nmC) :: qfb cb (nmC c) :: ps):=h.at1
  have last:∀ w,St F0 w0 w (tmA inV wb (qte W q.1 (v - 1)) :: qfb qb (nmC q) :: tmA inV gb (qte G q.1 (max (gD G q) (gD G c+1))) :: qbb 20 t8 (l.flatMap nmC) :: qfb cb (nmC c) :: ps)→qi.j14 (some wb) t6 (some gb) t8 ⟨cb,0,none⟩ ⟨qb,0,none⟩ t93 t94 (j:Int) Q nx2 nx3 w:=by
   intro w h
   have h:St F0 w0 w (tmA inV wb (qte W q.1 (v - 1)) :: qbb 20 t8 (l.flatMap nmC) :: qfb qb (nmC q) :: tmA inV gb (qte G q.1 (max (gD G q) (gD G c+1))) :: qfb cb (nmC c) :: ps):=h.sub
   have e:gD (qte W q.1 (v - 1)) q=v - 1:=by rw [qnk,if_pos rfl]
   refine work_14 h hl fun t8' w' h=>hk t8' w' ?_
   rw [e] at h
   exact h.sub
  constructor
  · refine ⟨_,qif h wb q,?_⟩
    rw [hgw]
    refine qw (qq (by omega) (by omega)) ?_
    have:=h2.tent (x0:=(0:Int)) (X:=fun n w'=>∃ w29,esR Try.prog 49 (.map (some wb)) (.int .i64 n) (.int .i64 (v - 1)) w' w29∧qi.j14 (some wb) t6 (some gb) t8 ⟨cb,0,none⟩ ⟨qb,0,none⟩ t93 t94 (j:Int) Q nx2 nx3 w29) wb 49 rfl q.2 fun n w h=>?_
    · exact ⟨_,this⟩
    · rw [hho] at h
      exact h.tsto (g:=inV) (y:=v - 1) _ q.2 last
  · have:=h2.tent (x0:=(0:Int)) (X:=fun n w'=>∃ r33:Int,lkR Try.prog 49 (.map (some wb)) (.agg ⟨nmC q⟩) false w' (.int .i64 r33)∧lt (IntKind.i64.wrap (r33 - 1)) fun x34=>∃ w29,esR Try.prog 49 (.map (some wb)) (.int .i64 n) (.int .i64 x34) w' w29∧qi.j14 (some wb) t6 (some gb) t8 ⟨cb,0,none⟩ ⟨qb,0,none⟩ t93 t94 (j:Int) Q nx2 nx3 w29) wb 49 rfl q.2 fun n w h=>?_
    · exact ⟨_,this⟩
    · rw [hho] at h
      refine ⟨_,qif h wb q,?_⟩
      rw [hgw]
      refine qw (qq (by omega) (by omega)) ?_
      exact h.tsto (g:=inV) (y:=v - 1) _ q.2 last
 have hA:∀ {X:Array Value→Prop},X ⟨nmC q⟩→ldA w ⟨qb,0,none⟩ 20 X:=fun hx=>h.lA (b:=qb) (lenC q) hx
 have hB:∀ {X:Array Value→Prop},X ⟨nmC c⟩→ldA w ⟨cb,0,none⟩ 20 X:=fun hx=>h.lA (b:=cb) (lenC c) hx
 have k1:=qif h gb q
 have k2:=qif h gb c
 have e1:IntKind.i64.wrap (gD G c+1)=gD G c+1:=qq (by omega) (by omega)
 have e2:(if (gD G c+1:Int) > gD G q then gD G c+1 else gD G q)=max (gD G q) (gD G c+1):=by split <;> omega
 have fin:∃ w',muR Try.prog 49 (.map (some gb)) (.agg ⟨nmC q⟩) (.int .i64 (max (gD G q) (gD G c+1))) w w'∧qi.j13 (some wb) t6 (some gb) t8 ⟨cb,0,none⟩ ⟨qb,0,none⟩ t93 t94 (j:Int) Q nx2 nx3 w':=by
  refine h.tset (g:=inV) (x:=max (gD G q) (gD G c+1)) gb 49 q.2 fun w h=>j13 w ?_
  exact h.sub
 repeat' first
  | exact fin
  | refine qw e1 ?_
  | refine qw e2 ?_
  | refine hA ?_
  | refine hB ?_
  | refine ⟨_,k1,?_⟩
  | refine ⟨_,k2,?_⟩
  | refine And.intro ?_ ?_
end
end Go.Proofs.Ytigmbblgfnkpbaa
namespace Go.Proofs.Ytigmbblgfnkpbaa
open Go Go.Proofs
set_option linter.unusedVariables false
set_option linter.unusedSimpArgs false
attribute [local irreducible] apK cpK mkK br
section
variable {M:Rws Nd} {pr:Nd→List Nm} {lost:Bool} {κ:Nm→List Nm} {O l H R:List Nm} {W G:Rws Int} {c q:Nm}
theorem nms_len {A:List Nm} (hn:A.Nodup) (hm:∀ c ∈ A,inM M c=true):A.length≤M.length:=by
 have h1:(A.map (·.1)).Nodup:=by
  rw [List.Nodup,List.pairwise_map]
  exact hn.imp fun h e=>h (Nm.ext' e)
 have:=qaf (S:=kys M) h1 fun x hx=>by
  obtain ⟨c,hc,rfl⟩:=List.mem_map.1 hx
  obtain ⟨n,hn⟩:=qlg (hm c hc)
  exact List.mem_map.2 ⟨_,qre hn,rfl⟩
 simpa [kys] using this
theorem mem_ksn {α:Type} {D:Rws α} {f:List Int × α} {k:List Int}:k ∈ kys (D ++ [f]) ↔ k ∈ kys D ∨ k=f.1:=by
 unfold kys
 rw [List.map_append,List.mem_append]
 simp
theorem w0N_le {n:Nd}:w0N M pr lost n≤(pr n).length+1:=by
 unfold w0N
 split
 · exact Nat.le_succ_of_le List.countP_le_length
 · exact Nat.le_refl _
end
section
variable {F0:List Nat} {w0 w:World} {ps rest:List As} {s t8:Sl} {wb gb cb j:Nat} {W G:Rws Int} {M:Rws Nd} {pr:Nd→List Nm} {lost:Bool} {κ:Nm→List Nm} {O l L:List Nm} {c q:Nm} {v:Int} {t6:Option Nat}
 {Q:VWP} {nx2:(Option Nat)→(Option Nat)→(Option Nat)→Sl→WP}
theorem work_3 (h:St F0 w0 w (tmA inV wb W :: tmA inV gb G :: ps))
 (hk:∀ G' w',(∀ k:Nm,lkE G' k.1=if (lkE W k.1).any (fun v=>decide (v > 0)) then none else lkE G k.1)→(∀ k ∈ kys G',k ∈ kys G)→St F0 w0 w' (tmA inV gb G' :: ps)→Q (.map (some gb)) w') :
 qi.j4 (some wb) (some gb) Q w:=by
 unfold qi.j4
 refine h.trange wb 49 fun r w h=>?_
 unfold qi.j6
 refine loop0 (fun (a:Rws Int × Rws Int) w'=>(∀ k:Nm,lkE a.2 k.1=if k.1 ∈ kys a.1∧(lkE W k.1).any (fun v=>decide (v > 0))=true then none else lkE G k.1)∧(∀ k ∈ kys a.2,k ∈ kys G)∧St F0 w0 w' (trA inV wb r W a.1 :: tmA inV gb a.2 :: ps)) (fun a=>W.length - a.1.length) ([],G) ⟨fun k=>by simp [kys],fun k hk=>hk,h⟩ ?_
 clear h
 rintro ⟨D,G'⟩ wL I μ ⟨h1,h2,h⟩ hin
 simp only at h1 h2 h hin ⊢
 unfold qi.b1
 refine h.tnext 0 (fun w' hp h=>?_) fun f w' hf hfD h hen=>?_
 · refine qzc (fun g=>by cases g) (fun _=>?_)
   unfold qi.j5
   refine hk G' w' (fun k=>?_) h2 (h.sub)
   rw [h1 k]
   by_cases g:k.1 ∈ kys D
   · simp [g]
   · have:k.1 ∉ kys W:=fun e=>g ((List.Perm.map (fun x:List Int × Int=>x.1) hp).mem_iff.2 e)
     rw [qod.2 this]
     simp
 · have hok:idOk f.1:=(h.okE wb).2 f hf
   have hlt:=h.trle.2.2
   simp only [List.length_append,List.length_singleton] at hlt
   have hlw:lkE W f.1=some f.2:=qfg (h.okE wb).1 hf
   refine qzc (fun _=>⟨⟨nmC ⟨f.1,hok⟩⟩,f.2,hen,?_⟩) (fun g=>by cases g)
   refine h.newNm (p:=⟨f.1,hok⟩) fun xb w h=>?_
   refine qlc (fun g=>?_) (fun g=>?_)
   · refine h.lA (b:=xb) ((inferInstance:Rec nmC 20).len _) ?_
     refine h.tdel (g:=inV) gb 49 0 28 hok fun w h=>⟨⟨rfl,rfl⟩,hin (D ++ [f],dRow G' f.1) w ⟨fun k=>?_,fun k hk=>?_,h.sub⟩ (by simp only [List.length_append,List.length_singleton]; omega)⟩
     · rw [lk_del,h1 k]
       by_cases e:k.1=f.1
       · rw [if_pos e,e,hlw,if_pos ⟨mem_ksn.2 (Or.inr rfl),by simpa using g⟩]
       · rw [if_neg e]
         simp only [mem_ksn,e,or_false]
     · rw [kys_del] at hk
       exact h2 k (List.mem_filter.1 hk).1
   · refine ⟨⟨rfl,rfl⟩,hin (D ++ [f],G') w ⟨fun k=>?_,h2,h.sub⟩ (by simp only [List.length_append,List.length_singleton]; omega)⟩
     rw [h1 k]
     by_cases e:k.1=f.1
     · rw [e,hlw]
       simp [g]
     · simp only [mem_ksn,e,or_false]
theorem work_2 (h:St F0 w0 w (tmA inV wb W :: tmA inV gb G :: qbb 20 t8 (l.flatMap nmC) :: ps)) (hM:M.length≤1000000) (hpr:∀ e ∈ M,(pr e.2).length≤1000000) (hid:∀ k ∈ kys M,idOk k) (hκ:KOk M pr lost κ) (h0:WkO M pr lost κ O l W G)
 (hK:∀ c:Nm,∃ s:Sl,(∀ w,St F0 w0 w ps→lkR Try.prog 94 (.map t6) (.agg ⟨nmC c⟩) false w (sV s))∧s.len=(κ c).length∧s.len≤1000000000∧Rdb F0 w0 s ps 20 ((κ c).flatMap nmC))
 (hk:∀ O G' w',WkE M pr lost O G'→St F0 w0 w' (tmA inV gb G' :: ps)→Q (.map (some gb)) w') :
 qi.j3 (some wb) t6 (some gb) t8 Q w:=by
 have lenC:∀ p:Nm,(nmC p).length=20:=fun p=>(inferInstance:Rec nmC 20).len p
 unfold qi.j3
 refine loop1 (fun (a:List Nm × List Nm × Rws Int × Rws Int) (t:Sl) w'=>WkO M pr lost κ a.1 a.2.1 a.2.2.1 a.2.2.2∧St F0 w0 w' (tmA inV wb a.2.2.1 :: tmA inV gb a.2.2.2 :: qbb 20 t (a.2.1.flatMap nmC) :: ps)) (fun a=>M.length - a.1.length) (O,l,W,G) ⟨h0,h⟩ ?_
 clear h h0
 rintro ⟨O,l,W,G⟩ t wL I μ ⟨h0,h⟩ hin
 simp only at h0 h hin ⊢
 have hlen:=nms_len h0.nd h0.mem
 simp only [List.length_append] at hlen
 have ht:l.length=t.len:=h.rlen (s:=t) (f:=nmC) (L:=l)
 unfold qi.b2
 refine qlc (fun g=>?_) (fun g=>?_)
 · have hne:l ≠ []:=fun e=>by subst e; simp at ht; omega
   obtain ⟨l',c,rfl⟩:∃ l' c,l=l' ++ [c]:=⟨l.dropLast,l.getLast hne,(List.dropLast_concat_getLast hne).symm⟩
   simp only [List.length_append,List.length_singleton] at ht hlen
   unfold qi.j7
   refine qw (e':=((l'.length:Nat):Int)) (by rw [qq (by omega) (by omega)]; omega) ?_
   refine h.lr (s:=t) (L:=l' ++ [c]) l'.length rfl (by simp) ?_
   rw [show (l' ++ [c])[l'.length]'(by simp)=c by simp]
   refine h.newNm (p:=c) fun cb w h=>?_
   unfold qi.j8
   refine qw (e':=((l'.length:Nat):Int)) (by rw [qq (by omega) (by omega)]; omega) ?_
   have hpop:=(show St F0 w0 w (qbb 20 t ((l' ++ [c]).flatMap nmC) :: qfb cb (nmC c) :: tmA inV wb W :: tmA inV gb G :: ps) from h.sub).popR
   obtain ⟨p1,p2,h⟩:=hpop
   refine qyj rfl (by omega) (qtd ?_)
   generalize (⟨qvd t.a t.cap 0 20,l'.length - 0,t.cap - 0⟩:Sl)=t' at h ⊢
   have h:St F0 w0 w (tmA inV wb W :: tmA inV gb G :: qbb 20 t' (l'.flatMap nmC) :: qfb cb (nmC c) :: ps):=h.sub
   refine h.drewK fun w h=>?_
   refine h.lA (b:=cb) (lenC c) ?_
   have hI:=h0.pop hκ
   have e1:(if (1:Int) > gD G c then 1 else gD G c)=max 1 (gD G c):=by split <;> omega
   have j9:∀ w,St F0 w0 w (tmA inV wb W :: tmA inV gb (qte G c.1 (max 1 (gD G c))) :: qbb 20 t' (l'.flatMap nmC) :: qfb cb (nmC c) :: ps)→qi.j9 (some wb) t6 (some gb) t' ⟨cb,0,none⟩ Q (fun t5' t6' t7' t8' w'=>(t5'=some wb∧t6'=t6∧t7'=some gb)∧I t8' w'∧μ t8' w' < μ t wL) w:=by
    intro w h
    unfold qi.j9
    refine h.lA (b:=cb) (lenC c) ?_
    obtain ⟨s,k1,k2,k4,k3⟩:=hK c
    refine ⟨s,k1 w h.sub,?_⟩
    unfold qi.j10
    refine loop2 (fun (a:Nat × List Nm × Rws Int × Rws Int) (t:Sl) (j':Int) w'=>j'=(a.1:Int)∧a.1≤(κ c).length∧WkI M pr lost κ O c ((κ c).take a.1) ((κ c).drop a.1) a.2.1 a.2.2.1 a.2.2.2∧St F0 w0 w' (tmA inV wb a.2.2.1 :: tmA inV gb a.2.2.2 :: qbb 20 t (a.2.1.flatMap nmC) :: qfb cb (nmC c) :: ps)) (fun a=>(κ c).length - a.1) (0,l',W,qte G c.1 (max 1 (gD G c)))
     ⟨rfl,Nat.zero_le _,hI,h⟩ ?_
    clear h hI
    rintro ⟨j,l2,W2,G2⟩ t2 _ wL2 I2 μ2 ⟨rfl,hj,hI,h⟩ hnx
    simp only at hj hI h hnx ⊢
    have hlen2:=nms_len hI.nd hI.mem
    simp only [List.length_append,List.length_singleton] at hlen2
    unfold qi.b3
    refine qlc (fun g2=>?_) (fun g2=>?_)
    · have hjl:j < (κ c).length:=by omega
      rw [List.drop_eq_getElem_cons hjl] at hI
      obtain ⟨s1,s2,v,s3,s4,s5,s6⟩:=hI.step hκ
      have hgc:gD G2 c≤1000000000:=by have:=hI.gC; omega
      have hgc0 : -5≤gD G2 c:=by
       obtain ⟨nc,hnc⟩:=qlg (hI.mem c (by simp))
       have:=hI.gO c nc (by simp) hnc
       unfold gD
       rw [this]
       simp only [Option.getD_some]
       omega
      obtain ⟨n,hn⟩:=qlg s1
      have hv:v≤1000000000:=by
       rw [hn] at s5
       simp only [Option.getD_some] at s5
       have:=w0N_le (M:=M) (pr:=pr) (lost:=lost) (n:=n)
       have:=hpr _ (qre hn)
       simp only at this
       omega
      refine work_kid (L:=κ c) (q:=(κ c)[j]) h hjl rfl s3 s4 hv (by omega) hgc0 hgc fun t3 w h=>?_
      unfold qi.j12
      refine qw (e':=((j+1:Nat):Int)) (by rw [qq (by omega) (by omega)]; rfl) ?_
      refine ⟨⟨rfl,rfl,rfl,rfl,rfl,rfl⟩,hnx (j+1,_,_,_) _ _ _ ⟨rfl,by simp only; omega,?_,h⟩ (by simp only; omega)⟩
      simp only
      rw [List.take_succ_eq_append_getElem hjl]
      exact s6
    · have hje:j=(κ c).length:=by omega
      subst hje
      rw [List.drop_length] at hI
      refine ⟨⟨rfl,rfl,rfl⟩,hin (O ++ [c],l2,W2,G2) _ _ ⟨hI.done hκ,h.sub⟩ ?_⟩
      simp only [List.length_append,List.length_singleton]
      omega
   have k1:=qif h gb c
   constructor
   · refine h.lA (b:=cb) (lenC c) ⟨_,k1,qw e1 ?_⟩
     refine h.tset (g:=inV) (x:=max 1 (gD G c)) gb 49 c.2 fun w h=>j9 w h.sub
   · refine ⟨_,k1,qw e1 ?_⟩
     refine h.lA (b:=cb) (lenC c) ?_
     refine h.tset (g:=inV) (x:=max 1 (gD G c)) gb 49 c.2 fun w h=>j9 w h.sub
 · have:l=[]:=List.eq_nil_of_length_eq_zero (by omega)
   subst this
   refine work_3 (W:=W) (G:=G) (ps:=ps) h.sub fun G' w' g1 g2 h=>?_
   exact hk O G' w' (wk_end hκ h0 g1 g2 hid) h
end
end Go.Proofs.Ytigmbblgfnkpbaa
namespace Go.Proofs.Ytigmbblgfnkpbaa
open Go Go.Proofs
set_option linter.unusedVariables false
set_option linter.unusedSimpArgs false
attribute [local irreducible] apK cpK mkK br
abbrev Kid:=Sl × List Nm
def kdV (x:Kid):Value:=slV x.1
def kdA (e:List Int × Kid):As:=qbb 20 e.2.1 (e.2.2.flatMap nmC)
def kdL (T:Rws Kid) (p:Nm):List Nm:=((lkE T p.1).map (·.2)).getD []
section
variable {α:Type}
theorem qxi:∀ {T:Rws α} {p:List Int} {x:α},(kys T).Nodup→lkE T p=some x→T.Perm ((p,x) :: dRow T p):=by
 intro T
 induction T with
 | nil=>intro p x _ h; cases h
 | cons e T ih =>
   intro p x hn h
   have hn':e.1 ∉ kys T∧(kys T).Nodup:=List.nodup_cons.1 hn
   rw [qje] at h
   by_cases g:e.1=p
   · rw [if_pos g] at h
     injection h with h
     subst g
     have:dRow (e :: T) e.1=T:=by
      have:=filt_idx (E:=e :: T) (j:=0) (f:=e) hn rfl
      rw [this]; rfl
     rw [this,← h]
   · rw [if_neg g] at h
     have:dRow (e :: T) p=e :: dRow T p:=by
      unfold dRow
      rw [List.filter_cons]
      simp [g]
     rw [this]
     exact ((ih hn'.2 h).cons e).trans (List.Perm.swap _ _ _)
theorem del_upd {T:Rws α} {p:List Int} {y:α}:dRow (qte T p y) p=dRow T p:=by
 unfold qte
 split
 · unfold dRow
   induction T with
   | nil=>rfl
   | cons e T ih =>
     rename_i hs
     rw [List.map_cons,List.filter_cons,List.filter_cons]
     have aux:∀ T:Rws α,(T.map fun e=>if e.1 == p then (p,y) else e).filter (fun e=>!(e.1 == p))=T.filter fun e=>!(e.1 == p):=by
      intro T
      induction T with
      | nil=>rfl
      | cons e T ih =>
        rw [List.map_cons,List.filter_cons,List.filter_cons,ih]
        by_cases g:e.1=p
        · simp [g]
        · simp [g]
     rw [aux T]
     by_cases g:e.1=p
     · simp [g]
     · simp [g]
 · rename_i hs
   unfold dRow
   rw [List.filter_append]
   simp
theorem hold_upd {T:Rws α} {p:List Int} {x0 y:α}:qte (holdE T p x0) p y=qte T p y:=by
 unfold holdE
 cases h:lkE T p with
 | some x=>rfl
 | none =>
   simp only [Option.isSome_none,Bool.false_eq_true,if_false]
   have h2:lkE (T ++ [(p,x0)]) p=some x0:=by rw [lk_app,h,qje,if_pos rfl]; rfl
   unfold qte
   rw [h2,h]
   simp only [Option.isSome_some,Option.isSome_none,Bool.false_eq_true,if_true,if_false]
   rw [List.map_append]
   have:(T.map fun e=>if e.1 == p then (p,y) else e)=T.map id:=List.map_congr_left fun f hf=>by
    have:¬ f.1=p:=fun e=>qod.1 h (List.mem_map.2 ⟨f,hf,e⟩)
    simp [this]
   rw [this,List.map_id]
   simp
end
section
variable {F0:List Nat} {w0 w:World} {ps rest:List As} {T:Rws Kid} {kb nb:Nat} {k p:Nm}
attribute [local irreducible] lkR muR meR esR
theorem kdL_upd {T:Rws Kid} {p:Nm} {y:Kid} (q:Nm):kdL (qte T p.1 y) q=if q=p then y.2 else kdL T q:=by
 unfold kdL
 rw [qrh]
 by_cases g:q=p
 · subst g; simp
 · have:¬ q.1=p.1:=fun e=>g (Nm.ext' e)
   simp [g,this]
theorem kid_add {X:World→Prop} (h:St F0 w0 w (qfb nb (nmC k) :: tmA kdV kb T :: qzd (T.map kdA) :: ps)) (hlen:(kdL T p).length≤100000000)
 (hk:∀ T' w',(∀ q,kdL T' q=if q=p then kdL T p ++ [k] else kdL T q)→St F0 w0 w' (tmA kdV kb T' :: qzd (T'.map kdA) :: ps)→X w') :
 ∃ r:Sl,∃ x:Int,∃ w',meR Try.prog 94 (.map (some kb)) (.agg ⟨nmC p⟩) w (sV r) x w'∧rdO w' (some ⟨nb,0,none⟩) (1 * 20) fun c=>apK Try.prog 28 w' r.a r.len r.cap 1 c fun s w2=>∃ w3,esR Try.prog 94 (.map (some kb)) (.int .i64 x) (sV s) w2 w3∧X w3:=by
 have hnT:(kys T).Nodup:=(h.okE kb).1
 have h2:St F0 w0 w (tmA kdV kb T :: qzd (T.map kdA) :: qfb nb (nmC k) :: ps):=h.sub
 refine ⟨((lkE T p.1).getD (⟨none,0,0⟩,[])).1,?_⟩
 refine h2.tent (g:=kdV) (x0:=((⟨none,0,0⟩,[]):Kid)) kb 94 rfl p.2 fun n w h=>?_
 have hx:∃ D:Rws Kid,(∀ y:Kid,(qte T p.1 y).Perm ((p.1,y) :: D))∧St F0 w0 w (qbb 20 ((lkE T p.1).getD (⟨none,0,0⟩,[])).1 ((kdL T p).flatMap nmC) :: qzd (D.map kdA) :: teA kdV kb (holdE T p.1 (⟨none,0,0⟩,[])) p.1 n :: qfb nb (nmC k) :: ps):=by
  cases hl:lkE T p.1 with
  | none =>
    refine ⟨T,fun y=>?_,?_⟩
    · unfold qte
      rw [hl]
      exact List.perm_append_singleton _ _
    · have e:kdL T p=[]:=by unfold kdL; rw [hl]; rfl
      rw [e]
      exact (show St F0 w0 w (qzd (T.map kdA) :: teA kdV kb (holdE T p.1 (⟨none,0,0⟩,[])) p.1 n :: qfb nb (nmC k) :: ps) from h.at1).nilO
  | some x =>
    refine ⟨dRow T p.1,fun y=>?_,?_⟩
    · have:=qxi (T:=qte T p.1 y) (p:=p.1) (x:=y) (nd_upd hnT) (by rw [qrh,if_pos rfl])
      rw [del_upd] at this
      exact this
    · have e:kdL T p=x.2:=by unfold kdL; rw [hl]; rfl
      rw [e]
      have h3:St F0 w0 w (qzd (T.map kdA) :: teA kdV kb (holdE T p.1 (⟨none,0,0⟩,[])) p.1 n :: qfb nb (nmC k) :: ps):=h.at1
      exact (h3.bagP ((qxi hnT hl).map kdA)).bagOut
 obtain ⟨D,hD,h⟩:=hx
 generalize ((lkE T p.1).getD (⟨none,0,0⟩,[])).1=s at h ⊢
 have h:St F0 w0 w (qfb nb ([k].flatMap nmC) :: qbb 20 s ((kdL T p).flatMap nmC) :: qzd (D.map kdA) :: teA kdV kb (holdE T p.1 (⟨none,0,0⟩,[])) p.1 n :: ps):=by
  rw [qeh]
  exact h.sub
 have h:=h.ownBR (sz:=20) (n:=1) (by rw [qoc]; rfl)
 refine St.appR (s:=s) (s2:=⟨some ⟨nb,0,none⟩,1,1⟩) (L:=kdL T p) (M:=[k]) h (by simp only [List.length_singleton]; omega) fun s' w' hs h=>?_
 have h:St F0 w0 w' (teA kdV kb (holdE T p.1 (⟨none,0,0⟩,[])) p.1 n :: qbb 20 s' ((kdL T p ++ [k]).flatMap nmC) :: qzd (D.map kdA) :: ps):=h.sub
 refine h.tsto (g:=kdV) (y:=(s',kdL T p ++ [k])) _ p.2 fun w h=>?_
 rw [hold_upd] at h
 refine hk (qte T p.1 (s',kdL T p ++ [k])) w (fun q=>kdL_upd q) ?_
 have h:St F0 w0 w (qbb 20 s' ((kdL T p ++ [k]).flatMap nmC) :: qzd (D.map kdA) :: tmA kdV kb (qte T p.1 (s',kdL T p ++ [k])) :: ps):=h.sub
 have h:St F0 w0 w (qzd (((p.1,(s',kdL T p ++ [k])) :: D).map kdA) :: tmA kdV kb (qte T p.1 (s',kdL T p ++ [k])) :: ps):=h.bagIn
 exact (h.bagP (((hD (s',kdL T p ++ [k])).symm).map kdA)).at1
end
section
variable {M D:Rws Nd} {pr:Nd→List Nm} {lost:Bool}
theorem kap_snoc (f:List Int × Nd) (q:Nm):kapD M pr lost (D ++ [f]) q=if inM M q then kapD M pr lost D q ++ List.replicate ((seenP M pr lost f.2).count q) f.2.nm else []:=by
 unfold kapD
 split
 · rw [List.flatMap_append]; simp
 · rfl
theorem kap_len (q:Nm):(kapD M pr lost D q).length≤(D.map fun e=>(pr e.2).length).sum:=by
 unfold kapD
 split
 · induction D with
   | nil=>simp
   | cons d D ih =>
     rw [List.flatMap_cons,List.length_append,List.map_cons,List.sum_cons,List.length_replicate]
     have h1:=(seen_sub (M:=M) (pr:=pr) (lost:=lost) d.2).count_le q
     have h2:(pr d.2).count q≤(pr d.2).length:=List.count_le_length
     omega
 · simp
theorem rdy_snoc (f:List Int × Nd):rdyD M pr lost (D ++ [f])=if w0N M pr lost f.2=0 then rdyD M pr lost D ++ [f.2.nm] else rdyD M pr lost D:=by
 unfold rdyD
 rw [List.filter_append,List.map_append]
 by_cases g:w0N M pr lost f.2=0
 · simp [g]
 · simp [g]
theorem wait_snoc (f:List Int × Nd) (hf:f.1 ∉ kys D):waitD M pr lost (D ++ [f])=qte (waitD M pr lost D) f.1 (w0N M pr lost f.2:Int):=by
 have:lkE (waitD M pr lost D) f.1=none:=qod.2 (by
  have:kys (waitD M pr lost D)=kys D:=by simp [kys,waitD]
  rw [this]; exact hf)
 unfold qte
 rw [this]
 simp [waitD]
theorem tw_take {ps:List Nm} {a:Nm→Bool}:∀ {j:Nat} (hj:j < ps.length),(∀ x ∈ ps.take j,a x=true)→a ps[j]=false→ps.takeWhile a=ps.take j:=by
 induction ps with
 | nil=>intro j hj; simp at hj
 | cons p ps ih =>
   intro j hj h1 h2
   cases j with
   | zero=>rw [List.takeWhile_cons]; simp only [List.getElem_cons_zero] at h2; rw [h2]; rfl
   | succ j =>
     rw [List.takeWhile_cons,h1 p (by simp)]
     simp only [if_true,List.take_succ_cons]
     rw [ih (by simpa using hj) (fun x hx=>h1 x (by simp [hx])) (by simpa using h2)]
end
theorem Blk.ldPar {w:World} {b:Nat} {n:Nd} {X:Sl→Prop} (h:Blk w b (ndC n)) (hk:X n.par):Go.Proofs.Ytigmbblgfnkpbaa.ldL w (Addr.add ⟨b,0,none⟩ 40) X:=by
 rw [qjc]
 refine h.ldL ?_ hk
 unfold ndC
 rw [List.getElem?_append_right (by rw [qt,n.hid]; decide),qt,n.hid,List.getElem?_append_right (by rw [qt,n.htr]; decide),qt,n.htr]
 rfl
end Go.Proofs.Ytigmbblgfnkpbaa
namespace Go.Proofs.Ytigmbblgfnkpbaa
open Go Go.Proofs
set_option linter.unusedVariables false
set_option linter.unusedSimpArgs false
attribute [local irreducible] apK cpK mkK br
theorem qpf {α:Type} {f:α→Nat}:∀ {L:List α} {e:α},e ∈ L→f e≤(L.map f).sum:=by
 intro L
 induction L with
 | nil=>intro e h; cases h
 | cons x L ih =>
   intro e h
   rw [List.map_cons,List.sum_cons]
   rcases List.mem_cons.1 h with rfl | h
   · omega
   · have:=ih h; omega
theorem sub_sum {f:List Int × Nd→Nat}:∀ {D M:Rws Nd},(kys D).Nodup→(kys M).Nodup→(∀ e ∈ D,e ∈ M)→(D.map f).sum≤(M.map f).sum:=by
 intro D
 induction D with
 | nil=>intro M _ _ _; simp
 | cons d D ih =>
   intro M hn hm hs
   have hn':d.1 ∉ kys D∧(kys D).Nodup:=List.nodup_cons.1 hn
   have hp:=qxi hm (qfg hm (hs d (by simp)))
   have h1:=ih (M:=dRow M d.1) hn'.2 (nd_del hm) fun e he=>List.mem_filter.2 ⟨hs e (by simp [he]),by
    have:¬ e.1=d.1:=fun h=>hn'.1 (by rw [← h]; exact List.mem_map.2 ⟨e,he,rfl⟩)
    simp [this]⟩
   have h2:=(hp.map f).sum_nat
   rw [h2,List.map_cons,List.map_cons,List.sum_cons,List.sum_cons]
   have:f (d.1,d.2)=f d:=rfl
   omega
section
variable {F0:List Nat} {w0 w:World} {ps rest:List As} {s t8:Sl} {mb wb kb gb r ib:Nat} {M D:Rws Nd} {pr:Nd→List Nm} {lost:Bool} {f:List Int × Nd} {T:Rws Kid} {t6 t7:Option Nat} {d_0:Option Nat} {i_1:Bool} {t25:Value}
 {Q:VWP} {nx4:(Option Nat)→Bool→(Option Nat)→(Option Nat)→(Option Nat)→Value→Sl→WP}
theorem work_18 (h:St F0 w0 w (tmA inV wb (waitD M pr lost D) :: qbb 20 t8 ((rdyD M pr lost D).flatMap nmC) :: qfb ib (nmC f.2.nm) :: ps)) (hlen:(rdyD M pr lost D).length≤100000000) (hf:f.1=f.2.id) (hfD:f.1 ∉ kys D) (here:Int) (hh:here=(w0N M pr lost f.2:Int))
 (hk:∀ t8' w',St F0 w0 w' (tmA inV wb (waitD M pr lost (D ++ [f])) :: qbb 20 t8' ((rdyD M pr lost (D ++ [f])).flatMap nmC) :: ps)→nx4 d_0 i_1 (some wb) t6 t7 t25 t8' w') :
 qi.j18 d_0 i_1 (some wb) t6 t7 t8 ⟨ib,0,none⟩ here t25 Q nx4 w:=by
 subst hh
 have hq:(nmC f.2.nm).length=20:=(inferInstance:Rec nmC 20).len _
 unfold qi.j18
 refine h.lA (b:=ib) hq ?_
 refine h.tset (g:=inV) (x:=(w0N M pr lost f.2:Int)) wb 49 f.2.nm.2 fun w h=>?_
 have e:qte (waitD M pr lost D) f.2.nm.1 (w0N M pr lost f.2:Int)=waitD M pr lost (D ++ [f]):=by
  rw [wait_snoc f hfD,hf]
  rfl
 rw [e] at h
 refine qzc (fun g=>?_) (fun g=>?_)
 · have g:w0N M pr lost f.2=0:=by
    have:(w0N M pr lost f.2:Int)=0:=by simpa using g
    omega
   refine h.lA (b:=ib) hq ⟨hq,?_⟩
   rw [qde (by rw [hq]; rfl)]
   refine h.pushR (s:=t8) (L:=rdyD M pr lost D) (x:=f.2.nm) (by omega) rfl fun s' w' hs h=>?_
   refine hk s' w' ?_
   rw [rdy_snoc,if_pos g]
   exact h.sub
 · have g:¬ w0N M pr lost f.2=0:=fun e=>by rw [e] at g; simp at g
   refine hk t8 w ?_
   rw [rdy_snoc,if_neg g]
   exact h.sub
theorem kid_read (h:St F0 w0 w (tmA kdV kb T :: qzd (T.map kdA) :: ps)) (hT:∀ q,kdL T q=kapD M pr lost D q) (hb:∀ q:Nm,(kapD M pr lost D q).length≤1000000000) (c:Nm) :
 ∃ s:Sl,(∀ w,St F0 w0 w (tmA kdV kb T :: qzd (T.map kdA) :: ps)→lkR Try.prog 94 (.map (some kb)) (.agg ⟨nmC c⟩) false w (sV s))∧s.len=(kapD M pr lost D c).length∧s.len≤1000000000∧Rdb F0 w0 s (tmA kdV kb T :: qzd (T.map kdA) :: ps) 20 ((kapD M pr lost D c).flatMap nmC):=by
 have hb:=hb c
 rw [← hT c] at hb ⊢
 have hnT:(kys T).Nodup:=(h.okE kb).1
 cases hl:lkE T c.1 with
 | none =>
   have e:kdL T c=[]:=by unfold kdL; rw [hl]; rfl
   rw [e]
   refine ⟨⟨none,0,0⟩,fun w h=>?_,rfl,by decide,⟨fun h=>⟨rfl,fun i hi=>by simp at hi⟩⟩⟩
   have:=h.tlook1 kb 94 c.2
   rw [hl] at this
   exact this
 | some x =>
   have e:kdL T c=x.2:=by unfold kdL; rw [hl]; rfl
   rw [e] at hb ⊢
   have own:∀ {w},St F0 w0 w (tmA kdV kb T :: qzd (T.map kdA) :: ps)→St F0 w0 w (qbb 20 x.1 (x.2.flatMap nmC) :: qzd ((dRow T c.1).map kdA) :: ps):=fun h=>(h.drop.bagP ((qxi hnT hl).map kdA)).bagOut
   have hlen:=(own h).rlen (s:=x.1) (f:=nmC) (L:=x.2)
   refine ⟨x.1,fun w h=>?_,hlen.symm,by omega,⟨fun h=>(own h).rdb x.1⟩⟩
   have:=h.tlook1 kb 94 c.2
   rw [hl] at this
   exact this
theorem qi.c {K:Ending→World→Prop} (h:St F0 w0 w (tmA ndV mb M :: ps)) (hM:M.length≤1000000) (ho:ownN M) (hsum:(M.map fun e=>(pr e.2).length).sum≤1000000) (hP:∀ e ∈ M,Rdb F0 w0 e.2.par ps 20 ((pr e.2).flatMap nmC))
 (hk:∀ gb O G w',WkE M pr lost O G→St F0 w0 w' (tmA inV gb G :: tmA ndV mb M :: ps)→K (.returned (.map (some gb))) w') :
 Calls Try.prog 30 ⟨[.map (some mb),.bool lost]⟩ w K:=by
 have lenC:∀ p:Nm,(nmC p).length=20:=fun p=>(inferInstance:Rec nmC 20).len p
 obtain ⟨hnM,hidM⟩:=h.okE mb
 have hpr:∀ e ∈ M,(pr e.2).length≤1000000:=fun e he=>Nat.le_trans (qpf (f:=fun e:List Int × Nd=>(pr e.2).length) he) hsum
 refine qnb (qi.ok _ _ _ _ ?_)
 unfold qi
 refine h.mkT inV _ fun wb w h=>?_
 refine h.mkT kdV _ fun kb w h=>?_
 unfold qi.j1
 refine h.mkT inV _ fun gb w h=>?_
 unfold qi.j2
 refine h.trange mb 68 fun r w h=>?_
 unfold qi.j15
 have h:St F0 w0 w (trA ndV mb r M [] :: tmA inV wb [] :: tmA kdV kb [] :: qzd [] :: tmA inV gb [] :: qbb 20 ⟨none,0,0⟩ [] :: ps):=by
  have h1:St F0 w0 w (qbb 20 ⟨none,0,0⟩ [] :: _):=h.nilO
  have h2:St F0 w0 w (qzd [] :: _):=h1.bag0
  exact h2.sub
 refine loop1 (fun (a:Rws Nd × Rws Kid) (t:Sl) w'=>(∀ q,kdL a.2 q=kapD M pr lost a.1 q)∧St F0 w0 w' (trA ndV mb r M a.1 :: tmA inV wb (waitD M pr lost a.1) :: tmA kdV kb a.2 :: qzd (a.2.map kdA) :: tmA inV gb [] :: qbb 20 t ((rdyD M pr lost a.1).flatMap nmC) :: ps)) (fun a=>M.length - a.1.length) ([],[])
  ⟨fun q=>by unfold kdL kapD; simp [qjk],h⟩ ?_
 clear h
 rintro ⟨D,T⟩ t wL I μ ⟨hT,h⟩ hin
 simp only at hT h hin ⊢
 obtain ⟨hnD,hDM,hDl⟩:=h.trle
 have hkl:∀ q,(kapD M pr lost D q).length≤1000000:=fun q=>Nat.le_trans (kap_len q) (Nat.le_trans (sub_sum hnD hnM hDM) hsum)
 unfold qi.b4
 refine h.tnext 0 (fun w hp h=>?_) fun f w hf hfD h hen=>?_
 · refine qzc (fun g=>by cases g) (fun _=>?_)
   have h2:St F0 w0 w (tmA inV wb (waitD M pr lost D) :: tmA inV gb [] :: qbb 20 t ((rdyD M pr lost D).flatMap nmC) :: tmA kdV kb T :: qzd (T.map kdA) :: tmA ndV mb M :: ps):=h.sub
   have h3:St F0 w0 w (tmA kdV kb T :: qzd (T.map kdA) :: tmA ndV mb M :: ps):=h2.sub
   refine work_2 (κ:=kapD M pr lost D) h2 hM hpr (fun k hk=>?_) (kap_ok hnM ho hp) (wk_start hnM ho hp) (fun c=>kid_read h3 hT (fun q=>by have:=hkl q; omega) c) fun O G' w' hE h=>?_
   · obtain ⟨e,he,rfl⟩:=List.mem_map.1 hk
     exact hidM e he
   · exact hk gb O G' w' hE h.sub
 · have hfi:=ho f hf
   obtain ⟨fk,n⟩:=f
   simp only at hfi
   subst hfi
   have hlt:=h.trle.2.2
   simp only [List.length_append,List.length_singleton] at hlt
   have hpl:=hpr _ hf
   simp only at hpl
   haveI:=hP _ hf
   refine qzc (fun _=>⟨⟨nmC n.nm⟩,⟨ndC n⟩,hen,?_⟩) (fun g=>by cases g)
   rw [zc_id,qmd]
   refine h.new fun ib w h=>?_
   refine h.new fun xb w h=>?_
   have h:St F0 w0 w (qfb xb (ndC ndZ) :: qfb ib (nmC ⟨z20,by refine ⟨rfl,?_⟩; decide⟩) :: trA ndV mb r M (D ++ [(n.id,n)]) :: tmA inV wb (waitD M pr lost D) :: tmA kdV kb T :: qzd (T.map kdA) :: tmA inV gb [] :: qbb 20 t ((rdyD M pr lost D).flatMap nmC) :: ps):=h
   refine ⟨lenC _,?_⟩
   refine h.at1.setR (f:=nmC) (lenC _) fun w h=>?_
   refine ⟨qz _,?_⟩
   refine h.at1.setR (qz _) fun w h=>?_
   unfold qi.j17
   refine h.blk.ldPar ?_
   unfold qi.j19
   have hpn:(pr n).length=n.par.len:=h.rlen (s:=n.par) (f:=nmC) (L:=pr n)
   have hrl:(rdyD M pr lost D).length≤100000000:=by
    have:(rdyD M pr lost D).length≤D.length:=by unfold rdyD; rw [List.length_map]; exact List.length_filter_le _ _
    omega
   have fin:∀ (T':Rws Kid) (here:Int) w,here=(w0N M pr lost n:Int)→(∀ q,kdL T' q=kapD M pr lost (D ++ [(n.id,n)]) q)→St F0 w0 w (qfb xb (ndC n) :: qfb ib (nmC n.nm) :: trA ndV mb r M (D ++ [(n.id,n)]) :: tmA inV wb (waitD M pr lost D) :: tmA kdV kb T' :: qzd (T'.map kdA) :: tmA inV gb [] :: qbb 20 t ((rdyD M pr lost D).flatMap nmC) :: ps) →
    qi.j18 (some mb) lost (some wb) (some kb) (some gb) t ⟨ib,0,none⟩ here (.pointer (some ⟨r,0,none⟩)) (fun v w'=>K (.returned v) w') (fun d_0' i_1' t5' t6' t7' t25' t8' w'=>(d_0'=some mb∧i_1'=lost∧t5'=some wb∧t6'=some kb∧t7'=some gb∧t25'=.pointer (some ⟨r,0,none⟩))∧I t8' w'∧μ t8' w' < μ t wL) w:=by
    intro T' here w hh hT' h
    have h2:St F0 w0 w (tmA inV wb (waitD M pr lost D) :: qbb 20 t ((rdyD M pr lost D).flatMap nmC) :: qfb ib (nmC n.nm) :: trA ndV mb r M (D ++ [(n.id,n)]) :: tmA kdV kb T' :: qzd (T'.map kdA) :: tmA inV gb [] :: ps):=h.sub
    refine work_18 (f:=(n.id,n)) h2 hrl rfl hfD here hh fun t8' w h=>?_
    refine ⟨⟨rfl,rfl,rfl,rfl,rfl,rfl⟩,hin (D ++ [(n.id,n)],T') t8' w ⟨hT',h.sub⟩ ?_⟩
    simp only [List.length_append,List.length_singleton]
    omega
   refine loop2 (fun (a:Nat × Rws Kid) (h' j':Int) w'=>h'=((((pr n).take a.1).countP (inM M):Nat):Int)∧j'=(a.1:Int)∧a.1≤(pr n).length∧(lost=true ∨ ∀ p ∈ (pr n).take a.1,inM M p=true)∧(∀ q,kdL a.2 q=if inM M q then kapD M pr lost D q ++ List.replicate (((pr n).take a.1).count q) n.nm else []) ∧
    St F0 w0 w' (qfb xb (ndC n) :: qfb ib (nmC n.nm) :: trA ndV mb r M (D ++ [(n.id,n)]) :: tmA inV wb (waitD M pr lost D) :: tmA kdV kb a.2 :: qzd (a.2.map kdA) :: tmA inV gb [] :: qbb 20 t ((rdyD M pr lost D).flatMap nmC) :: ps)) (fun a=>(pr n).length - a.1) (0,T)
    ⟨rfl,rfl,Nat.zero_le _,Or.inr (by simp),fun q=>by
      rw [hT q]
      simp only [List.take_zero,List.count_nil,List.replicate_zero,List.append_nil]
      unfold kapD
      split <;> rfl,h⟩ ?_
   clear h
   rintro ⟨j,T'⟩ _ _ wL2 I2 μ2 ⟨rfl,rfl,hj,hlo,hT',h⟩ hnx
   simp only at hj hlo hT' h hnx ⊢
   unfold qi.b5
   have hcnt:((pr n).take j).countP (inM M)≤j:=Nat.le_trans List.countP_le_length (by rw [List.length_take]; omega)
   refine qlc (fun g=>?_) (fun g=>?_)
   · have hjl:j < (pr n).length:=by omega
     refine h.lr (s:=n.par) (L:=pr n) j rfl hjl ?_
     have hsn:=List.take_succ_eq_append_getElem hjl
     have htw:(∀ x ∈ (pr n).take j,inM M x=true)→inM M (pr n)[j]=false→(pr n).takeWhile (inM M)=(pr n).take j:=tw_take hjl
     have hpm:(pr n)[j] ∈ pr n:=List.getElem_mem hjl
     generalize (pr n)[j]=p at hsn htw hpm ⊢
     refine h.newNm (p:=p) fun pb w h=>?_
     refine h.lA (b:=pb) (lenC p) ?_
     refine ⟨(match lkE M p.1 with | some x=>⟨ndC x⟩ | none=>⟨ndC ndZ⟩),(lkE M p.1).isSome,?_,?_⟩
     · have:=h.tlook2 mb 68 p.2
       cases hlk:lkE M p.1 <;> rw [hlk] at this <;> exact this
     rw [qmd]
     refine h.new fun yb w h=>?_
     have h:St F0 w0 w (qfb yb (ndC ndZ) :: qfb pb (nmC p) :: qfb xb (ndC n) :: qfb ib (nmC n.nm) :: trA ndV mb r M (D ++ [(n.id,n)]) :: tmA inV wb (waitD M pr lost D) :: tmA kdV kb T' :: qzd (T'.map kdA) :: tmA inV gb [] :: qbb 20 t ((rdyD M pr lost D).flatMap nmC) :: ps):=h
     cases hlk:lkE M p.1 with
     | some x =>
       have hpin:inM M p=true:=by unfold inM; rw [hlk]; rfl
       refine ⟨qz _,?_⟩
       refine h.setR (qz _) fun w h=>?_
       refine qzc (fun _=>?_) (fun g=>by cases g)
       refine qw (e':=((((pr n).take (j+1)).countP (inM M):Nat):Int)) ?_ ?_
       · rw [hsn,List.countP_append,List.countP_singleton,hpin,qq (by omega) (by omega)]
         rfl
       refine h.lA (b:=pb) (lenC p) ?_
       refine h.lA (b:=ib) (lenC _) ⟨lenC _,?_⟩
       rw [qde (by rw [lenC]; rfl)]
       refine h.new fun nb w h=>?_
       have h2:St F0 w0 w (qfb nb (nmC n.nm) :: tmA kdV kb T' :: qzd (T'.map kdA) :: qfb xb (ndC n) :: qfb ib (nmC n.nm) :: trA ndV mb r M (D ++ [(n.id,n)]) :: tmA inV wb (waitD M pr lost D) :: tmA inV gb [] :: qbb 20 t ((rdyD M pr lost D).flatMap nmC) :: ps):=St.sub h
       refine kid_add (p:=p) h2 ?_ fun T2 w hT2 h=>?_
       · rw [hT' p,if_pos hpin,List.length_append,List.length_replicate]
         have h5:=hkl p
         have h6:((pr n).take j).count p≤((pr n).take j).length:=List.count_le_length
         rw [List.length_take] at h6
         omega
       refine qw (e':=((j+1:Nat):Int)) (by rw [qq (by omega) (by omega)]; rfl) ?_
       refine ⟨⟨rfl,rfl,rfl,rfl,rfl,rfl,rfl,rfl,rfl,rfl,rfl⟩,hnx (j+1,T2) _ _ _ ⟨rfl,rfl,by simp only; omega,?_,fun q=>?_,h.sub⟩ (by simp only; omega)⟩
       · rcases hlo with hlo | hlo
         · exact Or.inl hlo
         · refine Or.inr fun y hy=>?_
           rw [hsn] at hy
           rcases List.mem_append.1 hy with hy | hy
           · exact hlo y hy
           · have:y=p:=by simpa using hy
             rw [this]; exact hpin
       · simp only
         rw [hT2 q,hT' q,hsn,List.count_append]
         by_cases e:q=p
         · subst e
           rw [if_pos rfl,hT' q,if_pos hpin,if_pos hpin]
           rw [show [q].count q=1 by simp,← List.replicate_append_replicate,List.append_assoc]
           rfl
         · have:[p].count q=0:=by
            rw [List.count_eq_zero]
            simpa using e
           rw [if_neg e,this,Nat.add_zero]
     | none =>
       have hpin:inM M p=false:=by unfold inM; rw [hlk]; rfl
       refine ⟨qz _,?_⟩
       refine h.setR (qz _) fun w h=>?_
       refine qzc (fun g=>by cases g) (fun _=>?_)
       refine qzc (fun g=>?_) (fun g=>?_)
       · have hlf:lost=false:=by simpa using g
         have hall:=hlo.resolve_left (by rw [hlf]; decide)
         refine (h.toB xb).blk.ldPar ?_
         refine qw (e':=(((pr n).length+1:Nat):Int)) (by rw [qq (by omega) (by omega)]; omega) ?_
         have hnf:fineN M pr lost n=false:=by
          unfold fineN
          rw [hlf,Bool.false_or]
          cases hc:(pr n).all (inM M) with
          | false=>rfl
          | true =>
            have:=List.all_eq_true.1 hc p hpm
            rw [hpin] at this
            cases this
         refine fin T' _ w ?_ (fun q=>?_) h.sub
         · unfold w0N
           rw [hnf]
           rfl
         · rw [hT' q,kap_snoc]
           have:seenP M pr lost n=(pr n).take j:=by
            unfold seenP
            rw [hlf,if_neg (by decide)]
            exact htw hall hpin
           simp only [this]
       · have hlt2:lost=true:=by simpa using g
         refine qw (e':=((j+1:Nat):Int)) (by rw [qq (by omega) (by omega)]; rfl) ?_
         refine ⟨⟨rfl,rfl,rfl,rfl,rfl,rfl,rfl,rfl,rfl,rfl,rfl⟩,hnx (j+1,T') _ _ _ ⟨?_,rfl,by simp only; omega,Or.inl hlt2,fun q=>?_,h.sub⟩ (by simp only; omega)⟩
         · simp only
           rw [hsn,List.countP_append,List.countP_singleton,hpin]
           rfl
         · simp only
           rw [hT' q,hsn,List.count_append]
           by_cases e:q=p
           · subst e
             rw [hpin]
             rfl
           · have:[p].count q=0:=by
              rw [List.count_eq_zero]
              simpa using e
             rw [this,Nat.add_zero]
   · have hje:j=(pr n).length:=by omega
     subst hje
     rw [List.take_length] at hlo hT' ⊢
     have hfine:fineN M pr lost n=true:=by
      unfold fineN
      rcases hlo with hlo | hlo
      · rw [hlo]; rfl
      · rw [List.all_eq_true.2 hlo,Bool.or_true]
     refine fin T' _ wL2 ?_ (fun q=>?_) h
     · unfold w0N
       rw [if_pos hfine]
       rfl
     · rw [hT' q,kap_snoc]
       simp only [seen_fine hfine]
end
end Go.Proofs.Ytigmbblgfnkpbaa
namespace Go.Proofs.Ytigmbblgfnkpbaa
open Go Go.Proofs
set_option linter.unusedVariables false
set_option linter.unusedSimpArgs false
attribute [local irreducible] apK cpK mkK br
def rowsN (L:List Nd):Rws Nd:=L.map fun n=>(n.id,n)
theorem own_rows (L:List Nd):ownN (rowsN L):=by
 intro e he
 obtain ⟨n,_,rfl⟩:=List.mem_map.1 he
 rfl
theorem addE_len (E:Rws Nd) (n:Nd):(addE E n).length≤E.length+1:=by
 unfold addE
 split
 · omega
 · unfold qte
   split
   · simp
   · simp
theorem firstE_go (L:List Nd):∀ E:Rws Nd,(kys E ++ L.map (·.id)).Nodup→L.foldl addE E=E ++ rowsN L:=by
 induction L with
 | nil=>intro E _; simp [rowsN]
 | cons n L ih =>
   intro E hn
   have h1:n.id ∉ kys E:=by
    intro hm
    have:=(List.nodup_append.1 hn).2.2 _ hm n.id (by simp)
    exact this rfl
   have h2:addE E n=E ++ [(n.id,n)]:=by
    unfold addE qte
    rw [qod.2 h1]
    simp
   rw [List.foldl_cons,h2,ih]
   · simp [rowsN]
   · have:kys (E ++ [(n.id,n)]) ++ L.map (·.id)=kys E ++ (n :: L).map (·.id):=by simp [kys]
     rw [this]
     exact hn
theorem quh {L:List Nd} (h:(L.map (·.id)).Nodup):qcc L=rowsN L:=by
 unfold qcc
 rw [firstE_go L [] (by simpa [kys] using h)]
 simp
theorem firstE_le (L:List Nd):∀ E:Rws Nd,(L.foldl addE E).length≤E.length+L.length:=by
 induction L with
 | nil=>intro E; simp
 | cons n L ih =>
   intro E
   rw [List.foldl_cons]
   have:=ih (addE E n)
   have:=addE_len E n
   simp only [List.length_cons]
   omega
theorem kys_addE (E:Rws Nd) (n:Nd):kys (addE E n)=if n.id ∈ kys E then kys E else kys E ++ [n.id]:=by
 unfold addE
 cases h:lkE E n.id with
 | none =>
   rw [if_neg (qod.1 h)]
   simp only [Option.isSome_none,Bool.false_eq_true,if_false]
   rw [qii,if_neg (qod.1 h)]
 | some x =>
   have:n.id ∈ kys E:=List.mem_map.2 ⟨_,qre h,rfl⟩
   rw [if_pos this]
   rfl
theorem firstE_lt (L:List Nd):∀ E:Rws Nd,(kys E).Nodup→¬ (kys E ++ L.map (·.id)).Nodup→(L.foldl addE E).length < E.length+L.length:=by
 induction L with
 | nil=>intro E h1 h2; simp at h2; exact absurd h1 h2
 | cons n L ih =>
   intro E h1 h2
   rw [List.foldl_cons]
   by_cases g:n.id ∈ kys E
   · have e:addE E n=E:=by
      unfold addE
      cases h:lkE E n.id with
      | none=>exact absurd g (qod.1 h)
      | some x=>rfl
     rw [e]
     have:=firstE_le L E
     simp only [List.length_cons]
     omega
   · have e:kys (addE E n)=kys E ++ [n.id]:=by rw [kys_addE,if_neg g]
     have h3:(kys (addE E n)).Nodup:=by
      rw [e,List.nodup_append]
      refine ⟨h1,by simp,fun a ha b hb=>?_⟩
      have:b=n.id:=by simpa using hb
      subst this
      intro e
      subst e
      exact g ha
     have:=ih (addE E n) h3 (by rw [e]; simpa using h2)
     have:=addE_len E n
     simp only [List.length_cons]
     omega
theorem qpk {L:List Nd} (h:¬ (L.map (·.id)).Nodup):(qcc L).length < L.length:=by
 have:=firstE_lt L [] (by simp [kys]) (by simpa [kys] using h)
 simpa [qcc] using this
section
variable {F0:List Nat} {w0 w:World} {ps rest:List As} {s:Sl} {L:List Nd} {n:Nd} {P:List Nm} {pr:Nd→List Nm} {K:Ending→World→Prop}
theorem ids_Clone.c (h:St F0 w0 w ps) [Rdb F0 w0 s ps 20 (P.flatMap nmC)] (hP:P.length≤1000000) (hk:∀ t w',t.len=P.length→St F0 w0 w' (qbb 20 t (P.flatMap nmC) :: ps)→K (.returned (slV t)) w') :
 Calls Try.prog 56 ⟨[sV s]⟩ w K:=by
 refine qnb (qfd.ok _ _ _ ?_)
 unfold qfd
 refine qzc (fun g=>?_) (fun g=>?_)
 · have:s.a=none:=by simpa using g
   have hP:=h.isnil (s:=s) (f:=nmC) (L:=P) this
   subst hP
   exact hk ⟨none,0,0⟩ w rfl h.nilO
 · refine h.cloneR (s2:=s) (M:=P) (by omega) fun s' w' hs h=>?_
   exact hk s' w' hs h
theorem ids_Clip.c (h:St F0 w0 w (qbb 20 s (P.flatMap nmC) :: ps)) (hc:s.len≤s.cap) (hk:∀ t w',t.len=s.len→St F0 w0 w' (rdA 20 t (P.flatMap nmC) :: ps)→K (.returned (slV t)) w') :
 Calls Try.prog 55 ⟨[sV s]⟩ w K:=by
 refine qnb (qnd.ok _ _ _ ?_)
 unfold qnd
 refine qyj rfl hc (qyj rfl (Nat.le_refl _) (qtd ?_))
 refine hk _ w ?_ (h.ro.recap ?_ ?_)
 · show s.len - 0=s.len
   omega
 · show qvd s.a s.len 0 20=s.a
   unfold qvd
   split
   · rfl
   · rw [Nat.zero_mul]
     cases s.a with
     | none=>rfl
     | some a=>simp [Addr.add]
 · show s.len - 0=s.len
   omega
theorem own_cap {sz:Nat} (hsz:0 < sz) {cs:List Value} (h:St F0 w0 w (qbb sz s cs :: ps)):s.len≤s.cap:=by
 obtain ⟨F,ho,hst⟩:=h.step
 rcases ho with ⟨rfl,hnil,_⟩ | ⟨ob,rs,h1,hb,h2,h3,rfl⟩
 · exact Nat.le_refl _
 · rw [List.length_append,h2] at h3
   exact Nat.le_of_mul_le_mul_right (by omega:s.len * sz≤s.cap * sz) hsz
theorem Generations.c (h:St F0 w0 w ps) [Rdb F0 w0 s ps 42 (L.flatMap ndC)] (hL:L.length≤1000000) (hsum:(L.map fun n=>(pr n).length).sum≤1000000) (hP:∀ n ∈ L,Rdb F0 w0 n.par ps 20 ((pr n).flatMap nmC))
 (hk1:¬ (L.map (·.id)).Nodup→∀ w',St F0 w0 w' ps→K (.returned (.tuple ⟨[.map none,.int .i64 9]⟩)) w')
 (hk2:(L.map (·.id)).Nodup→∀ O G w',WkE (rowsN L) pr true O G→G.length < L.length→St F0 w0 w' ps→K (.returned (.tuple ⟨[.map none,.int .i64 12]⟩)) w')
 (hk3:(L.map (·.id)).Nodup→∀ gb O G w',WkE (rowsN L) pr true O G→L.length≤G.length→St F0 w0 w' (tmA inV gb G :: ps)→K (.returned (.tuple ⟨[.map (some gb),.int .i64 0]⟩)) w') :
 Calls Try.prog 15 ⟨[sV s]⟩ w K:=by
 have hl:=h.rlen (s:=s) (f:=ndC) (L:=L)
 refine qnb (qrd.ok _ _ _ ?_)
 unfold qrd
 refine qjb.c h hL fun mb w h=>⟨_,rfl,?_⟩
 refine ⟨_,h.tlen mb 68 _,?_⟩
 by_cases hn:(L.map (·.id)).Nodup
 · have e:=quh hn
   have el:(qcc L).length=L.length:=by rw [e]; simp [rowsN]
   refine qlc (fun g=>by exfalso; omega) (fun g=>?_)
   rw [e] at h
   refine qi.c (pr:=pr) h (by simpa [rowsN] using hL) (own_rows L) ?_ ?_ fun gb O G w hE h=>⟨_,rfl,?_⟩
   · have:(rowsN L).map (fun e=>(pr e.2).length)=L.map fun n=>(pr n).length:=by simp [rowsN]
     rw [this]
     exact hsum
   · intro e he
     obtain ⟨n,hn,rfl⟩:=List.mem_map.1 he
     exact hP n hn
   · refine ⟨_,h.tlen gb 49 _,_,h.tlen mb 68 _,?_⟩
     have er:(rowsN L).length=L.length:=by simp [rowsN]
     refine qlc (fun g=>?_) (fun g=>?_)
     · exact hk2 hn O G w hE (by omega) h.sub
     · exact hk3 hn gb O G w hE (by omega) h.sub
 · have:=qpk hn
   refine qlc (fun g=>?_) (fun g=>by exfalso; omega)
   exact hk1 hn w h.drop
end
end Go.Proofs.Ytigmbblgfnkpbaa
namespace Go.Proofs.Ytigmbblgfnkpbaa
open Go Go.Proofs
set_option linter.unusedVariables false
set_option linter.unusedSimpArgs false
attribute [local irreducible] apK cpK mkK br
def badN (M:Rws Nd) (pr:Nd→List Nm) (n:Nd):Bool:=decide (n.date < 0) || (decide (n.date ≥ 17179869184) || (pr n).any fun p=>!inM M p)
def wrongN (pr:Nd→List Nm) (L:List Nd):Bool:=!decide ((L.map (·.id)).Nodup) || L.any (badN (rowsN L) pr)
theorem any_take {α:Type} {L:List α} {f:α→Bool} {j:Nat} (hj:j < L.length) (h:(L.take j).any f=false) (hf:f L[j]=false):(L.take (j+1)).any f=false:=by
 rw [List.take_succ_eq_append_getElem hj,List.any_append,h]
 simp [hf]
theorem any_at {α:Type} {L:List α} {f:α→Bool} {j:Nat} (hj:j < L.length) (hf:f L[j]=true):L.any f=true:=List.any_eq_true.2 ⟨_,List.getElem_mem hj,hf⟩
theorem Blk.ldDate {w:World} {b:Nat} {n:Nd} {X:Int→Prop} (h:Blk w b (ndC n)) (hk:X n.date):Go.Proofs.Ytigmbblgfnkpbaa.ldI .i64 w (Addr.add ⟨b,0,none⟩ 41) X:=by
 rw [qjc]
 refine h.ldI ?_ hk
 unfold ndC
 rw [List.getElem?_append_right (by rw [qt,n.hid]; decide),qt,n.hid,List.getElem?_append_right (by rw [qt,n.htr]; decide),qt,n.htr]
 rfl
section
variable {F0:List Nat} {w0 w:World} {ps rest:List As} {s:Sl} {L:List Nd} {n:Nd} {P:List Nm} {p:Nm} {M:Rws Nd} {cb mb:Nat} {pr:Nd→List Nm} {K:Ending→World→Prop}
theorem wrong11.c (h:St F0 w0 w ps) [PkB cb ps [.map (some mb)] rest] [MpR Nd ndV mb ps M] (hk:∀ w',St F0 w0 w' ps→K (.returned (.bool (!inM M p))) w') :
 Calls Try.prog 38 ⟨[.agg ⟨nmC p⟩,.pointer (some ⟨cb,0,none⟩)]⟩ w K:=by
 refine qnb (qfe.ok _ _ _ _ ?_)
 unfold qfe
 refine h.new fun xb w h=>?_
 have h:St F0 w0 w (qfb xb (nmC p) :: ps):=h
 refine h.fM (b:=cb) ?_
 refine h.lA (b:=xb) ((inferInstance:Rec nmC 20).len p) ?_
 refine ⟨(match lkE M p.1 with | some x=>⟨ndC x⟩ | none=>⟨ndC ndZ⟩),(lkE M p.1).isSome,?_,?_⟩
 · have:=h.tlook2 mb 68 p.2
   cases hlk:lkE M p.1 <;> rw [hlk] at this <;> exact this
 rw [qmd]
 refine h.new fun yb w h=>?_
 have h:St F0 w0 w (qfb yb (ndC ndZ) :: qfb xb (nmC p) :: ps):=h
 unfold inM at hk
 cases hlk:lkE M p.1 with
 | some x =>
   rw [hlk] at hk
   refine ⟨qz _,?_⟩
   exact h.setR (qz _) fun w h=>hk w h.drop.drop
 | none =>
   rw [hlk] at hk
   refine ⟨qz _,?_⟩
   exact h.setR (qz _) fun w h=>hk w h.drop.drop
theorem index_ids.c (h:St F0 w0 w ps) [PkB cb ps [.map (some mb)] rest] [MpR Nd ndV mb ps M] [Rdb F0 w0 s ps 20 (P.flatMap nmC)] (hP:P.length≤1000000) (hk:∀ (r:Int) w',decide (r ≥ 0)=P.any (fun p=>!inM M p)→St F0 w0 w' ps→K (.returned (.int .i64 r)) w') :
 Calls Try.prog 61 ⟨[sV s,.func (.func 38) ⟨[]⟩ ⟨[.pointer (some ⟨cb,0,none⟩)]⟩]⟩ w K:=by
 have hl:=h.rlen (s:=s) (f:=nmC) (L:=P)
 refine qnb (qv.ok _ _ _ _ ?_)
 unfold qv qv.j1 qv.j3
 refine loop1 (fun (i:Nat) (i':Int) w'=>i'=(i:Int)∧i≤P.length∧(P.take i).any (fun p=>!inM M p)=false∧St F0 w0 w' ps) (fun i=>P.length - i) 0 ⟨rfl,Nat.zero_le _,rfl,h⟩ ?_
 clear h
 rintro i _ wL I μ ⟨rfl,hi,ha,h⟩ hin
 unfold qv.b1
 refine qlc (fun g=>?_) (fun g=>?_)
 · have hix:i < P.length:=by omega
   refine h.lr (s:=s) (L:=P) i rfl hix ?_
   refine wrong11.c (M:=M) h fun w h=>⟨_,rfl,?_⟩
   refine qzc (fun g2=>?_) (fun g2=>?_)
   · refine hk _ w ?_ h
     rw [any_at (f:=fun p=>!inM M p) hix g2]
     exact decide_eq_true (by omega)
   · refine qw (e':=((i+1:Nat):Int)) (by rw [qq (by omega) (by omega)]; rfl) ?_
     exact ⟨⟨rfl,rfl,rfl⟩,hin (i+1) _ _ ⟨rfl,by omega,any_take (f:=fun p=>!inM M p) hix ha g2,h⟩ (by omega)⟩
 · have:i=P.length:=by omega
   subst this
   rw [List.take_length] at ha
   unfold qv.j2
   refine hk _ wL ?_ h
   rw [ha]
   rfl
theorem contains_ids.c (h:St F0 w0 w ps) [PkB cb ps [.map (some mb)] rest] [MpR Nd ndV mb ps M] [Rdb F0 w0 s ps 20 (P.flatMap nmC)] (hP:P.length≤1000000) (hk:∀ w',St F0 w0 w' ps→K (.returned (.bool (P.any fun p=>!inM M p))) w') :
 Calls Try.prog 37 ⟨[sV s,.func (.func 38) ⟨[]⟩ ⟨[.pointer (some ⟨cb,0,none⟩)]⟩]⟩ w K:=by
 refine qnb (qec.ok _ _ _ _ ?_)
 unfold qec
 refine index_ids.c (M:=M) (P:=P) h hP fun r w hr h=>⟨_,rfl,?_⟩
 have:=hk w h
 rw [← hr] at this
 exact this
theorem wrong1.c (h:St F0 w0 w ps) [PkB cb ps [.map (some mb)] rest] [MpR Nd ndV mb ps M] [Rdb F0 w0 n.par ps 20 ((pr n).flatMap nmC)] (hP:(pr n).length≤1000000) (hk:∀ w',St F0 w0 w' ps→K (.returned (.bool (badN M pr n))) w') :
 Calls Try.prog 36 ⟨[.agg ⟨ndC n⟩,.pointer (some ⟨cb,0,none⟩)]⟩ w K:=by
 refine qnb (qve.ok _ _ _ _ ?_)
 unfold qve
 refine h.new fun xb w h=>?_
 have h:St F0 w0 w (qfb xb (ndC n) :: ps):=h
 refine h.blk.ldDate ?_
 refine qlc (fun g=>?_) (fun g=>?_)
 · have:=hk w h.drop
   unfold badN at this
   rw [decide_eq_true g,Bool.true_or] at this
   exact this
 · unfold badN at hk
   rw [decide_eq_false g,Bool.false_or] at hk
   refine h.blk.ldDate ?_
   refine qlc (fun g2=>?_) (fun g2=>?_)
   · have:=hk w h.drop
     rw [decide_eq_true g2,Bool.true_or] at this
     exact this
   · rw [decide_eq_false g2,Bool.false_or] at hk
     refine h.blk.ldPar ?_
     refine contains_ids.c (M:=M) (P:=pr n) h hP fun w h=>⟨_,rfl,?_⟩
     exact hk w h.drop
theorem index_nds.c (h:St F0 w0 w ps) [PkB cb ps [.map (some mb)] rest] [MpR Nd ndV mb ps M] [Rdb F0 w0 s ps 42 (L.flatMap ndC)] (hL:L.length≤1000000) (hpr:∀ n ∈ L,(pr n).length≤1000000) (hP:∀ n ∈ L,Rdb F0 w0 n.par ps 20 ((pr n).flatMap nmC)) (hk:∀ (r:Int) w',decide (r ≥ 0)=L.any (badN M pr)→St F0 w0 w' ps→K (.returned (.int .i64 r)) w') :
 Calls Try.prog 60 ⟨[sV s,.func (.func 36) ⟨[]⟩ ⟨[.pointer (some ⟨cb,0,none⟩)]⟩]⟩ w K:=by
 have hl:=h.rlen (s:=s) (f:=ndC) (L:=L)
 refine qnb (qr.ok _ _ _ _ ?_)
 unfold qr qr.j1 qr.j3
 refine loop1 (fun (i:Nat) (i':Int) w'=>i'=(i:Int)∧i≤L.length∧(L.take i).any (badN M pr)=false∧St F0 w0 w' ps) (fun i=>L.length - i) 0 ⟨rfl,Nat.zero_le _,rfl,h⟩ ?_
 clear h
 rintro i _ wL I μ ⟨rfl,hi,ha,h⟩ hin
 unfold qr.b1
 refine qlc (fun g=>?_) (fun g=>?_)
 · have hix:i < L.length:=by omega
   refine h.lr (s:=s) (L:=L) i rfl hix ?_
   haveI:=hP _ (List.getElem_mem hix)
   refine wrong1.c (M:=M) (pr:=pr) h (hpr _ (List.getElem_mem hix)) fun w h=>⟨_,rfl,?_⟩
   refine qzc (fun g2=>?_) (fun g2=>?_)
   · refine hk _ w ?_ h
     rw [any_at (f:=badN M pr) hix g2]
     exact decide_eq_true (by omega)
   · refine qw (e':=((i+1:Nat):Int)) (by rw [qq (by omega) (by omega)]; rfl) ?_
     exact ⟨⟨rfl,rfl,rfl⟩,hin (i+1) _ _ ⟨rfl,by omega,any_take (f:=badN M pr) hix ha g2,h⟩ (by omega)⟩
 · have:i=L.length:=by omega
   subst this
   rw [List.take_length] at ha
   unfold qr.j2
   refine hk _ wL ?_ h
   rw [ha]
   rfl
theorem wrong.c (h:St F0 w0 w ps) [Rdb F0 w0 s ps 42 (L.flatMap ndC)] (hL:L.length≤1000000) (hpr:∀ n ∈ L,(pr n).length≤1000000) (hP:∀ n ∈ L,Rdb F0 w0 n.par ps 20 ((pr n).flatMap nmC))
 (hk:∀ w',St F0 w0 w' ps→K (.returned (.bool (wrongN pr L))) w') :
 Calls Try.prog 14 ⟨[sV s]⟩ w K:=by
 have hl:=h.rlen (s:=s) (f:=ndC) (L:=L)
 refine qnb (qag.ok _ _ _ ?_)
 unfold qag
 refine qjb.c h hL fun mb w h=>⟨_,rfl,?_⟩
 rw [show zc Try.prog 68=⟨[.map none]⟩ by kernel_rfl]
 refine h.new fun cb w h=>?_
 have h:St F0 w0 w (qfb cb [.map none] :: tmA ndV mb (qcc L) :: ps):=h
 refine h.fst (b:=cb) trivial fun w h=>?_
 refine h.fM (b:=cb) ?_
 refine ⟨_,h.tlen mb 68 _,?_⟩
 by_cases hn:(L.map (·.id)).Nodup
 · have e:=quh hn
   have el:(qcc L).length=L.length:=by rw [e]; simp [rowsN]
   refine qlc (fun g=>by exfalso; omega) (fun g=>?_)
   rw [e] at h
   refine qnb (qxb.ok _ _ _ _ ?_)
   unfold qxb
   refine index_nds.c (M:=rowsN L) (pr:=pr) (L:=L) h hL hpr (fun n hn=>by haveI:=hP n hn; infer_instance) fun r w hr h=>⟨_,rfl,⟨_,rfl,?_⟩⟩
   have:=hk w h.drop.drop
   unfold wrongN at this
   rw [decide_eq_true hn,Bool.not_true,Bool.false_or,← hr] at this
   exact this
 · have:=qpk hn
   refine qlc (fun g=>?_) (fun g=>by exfalso; omega)
   have:=hk w h.drop.drop
   unfold wrongN at this
   rw [decide_eq_false hn] at this
   exact this
theorem qrb.c (h:St F0 w0 w ps) [Rdb F0 w0 s ps 42 (L.flatMap ndC)] (hL:L.length≤1000000) (hk:∀ t w',t.len=L.length→St F0 w0 w' (qbb 20 t ((L.map Nd.nm).flatMap nmC) :: ps)→K (.returned (sV t)) w') :
 Calls Try.prog 19 ⟨[sV s]⟩ w K:=by
 have hl:=h.rlen (s:=s) (f:=ndC) (L:=L)
 have lenC:∀ p:Nm,(nmC p).length=20:=fun p=>(inferInstance:Rec nmC 20).len p
 refine qnb (qrb.ok _ _ _ ?_)
 unfold qrb qrb.j1 qrb.j3
 refine loop2 (fun (i:Nat) (t:Sl) (i':Int) w'=>i'=(i:Int)∧i≤L.length∧St F0 w0 w' (qbb 20 t (((L.take i).map Nd.nm).flatMap nmC) :: ps)) (fun i=>L.length - i) 0 ⟨rfl,Nat.zero_le _,h.nilO⟩ ?_
 clear h
 rintro i t _ wL I μ ⟨rfl,hi,h⟩ hin
 unfold qrb.b1
 refine qlc (fun g=>?_) (fun g=>?_)
 · have hix:i < L.length:=by omega
   refine h.lr (s:=s) (L:=L) i rfl hix ?_
   have hsn:(L.take (i+1)).map Nd.nm=(L.take i).map Nd.nm ++ [L[i].nm]:=by rw [List.take_succ_eq_append_getElem hix,List.map_append]; rfl
   generalize L[i]=n at hsn ⊢
   rw [qmd]
   refine h.new fun xb w h=>?_
   have h:St F0 w0 w (qfb xb (ndC ndZ) :: qbb 20 t (((L.take i).map Nd.nm).flatMap nmC) :: ps):=h
   refine ⟨qz _,?_⟩
   refine h.setR (qz _) fun w h=>?_
   refine h.blk.ldIdN ⟨lenC n.nm,?_⟩
   rw [qde (by rw [show (ivs .u8 n.id).length=20 from lenC n.nm]; rfl)]
   refine h.pushR (s:=t) (L:=(L.take i).map Nd.nm) (x:=n.nm) (by rw [List.length_map,List.length_take]; omega) rfl fun s' w hs h=>?_
   rw [← hsn] at h
   refine qw (e':=((i+1:Nat):Int)) (by rw [qq (by omega) (by omega)]; rfl) ?_
   exact ⟨⟨rfl,rfl⟩,hin (i+1) _ _ _ ⟨rfl,by omega,h.sub⟩ (by omega)⟩
 · have:i=L.length:=by omega
   subst this
   rw [List.take_length] at h
   have h5:=h.rlen (s:=t) (f:=nmC) (L:=L.map Nd.nm)
   rw [List.length_map] at h5
   unfold qrb.j2
   exact hk t wL h5.symm h
end
end Go.Proofs.Ytigmbblgfnkpbaa
namespace Go.Proofs.Ytigmbblgfnkpbaa
open Go Go.Proofs
set_option linter.unusedVariables false
set_option maxRecDepth 100000
def qtg (a_0:(Array Value)) (b_1:(Array Value)) (Q:VWP) (w:World):Prop :=
 nw w a_0 28 fun a1 w2 =>
 nw w2 b_1 28 fun a3 w4 =>
 lt (World.drew w4) fun w5 =>
 lt (⟨cutP a1 20 0 1,20 - 0,20 - 0⟩:Sl) fun s6 =>
 lt (⟨cutP a3 20 0 1,20 - 0,20 - 0⟩:Sl) fun s7 =>
 qhf 41 [sV s6,sV s7] w5 fun r10 w9 =>
 Q (.bool (decide (r10 < 0))) w9
theorem qtg.ok (a_0:(Array Value)) (b_1:(Array Value)) (Q:VWP) (w:World) (h:qtg a_0 b_1 Q w):Calls Try.prog 59 ⟨[.agg a_0,.agg b_1]⟩ w (Ret Q) :=
 qqb [.tmp 4] qed Try.func59 rfl rfl rfl rfl .lf (by kernel_rfl) h
def qug (i_0:Int) (p1:Addr) (p2:Addr) (Q:VWP) (w:World):Prop :=
 lt (World.drew w) fun w1 =>
 ldL w1 p1 fun x2 =>
 ixS x2.a x2.len i_0 20 fun a3 =>
 ldA w1 a3 20 fun c4 =>
 ldA w1 p2 20 fun c5 =>
 cr_B 59 [.agg c4,.agg c5] w1 fun r8 w7 =>
 Q (.bool (!r8)) w7
theorem qug.ok (i_0:Int) (p1:Addr) (p2:Addr) (Q:VWP) (w:World) (h:qug i_0 p1 p2 Q w):Calls Try.prog 58 ⟨[.int .i64 i_0,.pointer (some p1),.pointer (some p2)]⟩ w (Ret Q) :=
 qqb [.tmp 4] qed Try.func58 rfl rfl rfl rfl .lf (by kernel_rfl) h
def qsb.j2 (i_5:Int) (Q:VWP) (w:World):Prop :=
 Q (.int .i64 i_5) w
def qsb.b1 (f_1:(Option Addr × Option Addr)) (i_5 j_6:Int) (Q:VWP) (nx1:(Option Addr × Option Addr)→Int→Int→WP) (w:World):Prop :=
 br (decide (i_5 < j_6)) (
 lt (IntKind.i64.wrap (i_5+j_6)) fun x1 =>
 lt (IntKind.u64.wrap x1) fun x2 =>
 (0:Int)≤1 ∧
 lt (shrV .u64 x2 1) fun x3 =>
 lt (IntKind.i64.wrap x3) fun x4 =>
 cr_B 58 [.int .i64 x4,.pointer f_1.1,.pointer f_1.2] w fun r7 w6 =>
 br (!r7) (
 lt (IntKind.i64.wrap (x4+1)) fun x8 =>
 nx1 f_1 x8 j_6 w6) (
 nx1 f_1 i_5 x4 w6)) (
 qsb.j2 i_5 Q w)
def qsb.l1 (f_1:(Option Addr × Option Addr)) (i_5 j_6:Int) (Q:VWP) (w:World):Prop :=
 ∃ (I:Int→Int→WP) (μ:Int→Int→World→Nat),I i_5 j_6 w∧∀ i_5:Int,∀ j_6:Int,∀ w:World,I i_5 j_6 w→qsb.b1 f_1 i_5 j_6 Q (fun f_1' i_5' j_6' w'=>(f_1'=f_1)∧I i_5' j_6' w'∧μ i_5' j_6' w' < μ i_5 j_6 w) w
def qsb.j1 (f_1:(Option Addr × Option Addr)) (i_5 j_6:Int) (Q:VWP) (w:World):Prop :=
 qsb.l1 f_1 i_5 j_6 Q w
def qsb (n_0:Int) (cap1:(Option Addr × Option Addr)) (Q:VWP) (w:World):Prop :=
 qsb.j1 cap1 0 n_0 Q w
theorem qsb.ok (n_0:Int) (cap1:(Option Addr × Option Addr)) (Q:VWP) (w:World) (h:qsb n_0 cap1 Q w):Calls Try.prog 57 ⟨[.int .i64 n_0,.func (.func 58) ⟨[]⟩ ⟨[.pointer cap1.1,.pointer cap1.2]⟩]⟩ w (Ret Q) :=
 qqb [.tmp 4] qed Try.func57 rfl rfl rfl rfl (.pr 1 [(1,.d2 58),sI 5,sI 6] (fun a b c w=>qsb.j1 a b c Q w) (.sq [sI 5] (fun a w=>qsb.j2 a Q w) (.bk (.lo [(1,.d2 58)] [sI 5,sI 6] (fun a b c w=>qsb.l1 a b c Q w) (fun nx1 a b c w=>qsb.b1 a b c Q nx1 w) fun nx1=>.lf)) .lf)) (by kernel_rfl) h
def qwf (l_0:Sl) (id_1:(Array Value)) (Q:VWP) (w:World):Prop :=
 nw w ⟨[sV l_0]⟩ 29 fun a1 w2 =>
 nw w2 id_1 28 fun a3 w4 =>
 ldL w4 a1 fun x5 =>
 qhf 57 [.int .i64 (x5.len:Int),.func (.func 58) ⟨[]⟩ ⟨[.pointer (some a1),.pointer (some a3)]⟩] w4 fun r8 w7 =>
 lt (World.drew w7) fun w9 =>
 ldL w9 a1 fun x10 =>
 br (decide (r8 < (x10.len:Int))) (
 ldL w9 a1 fun x11 =>
 ixS x11.a x11.len r8 20 fun a12 =>
 ldA w9 a12 20 fun c13 =>
 ldA w9 a3 20 fun c14 =>
 eqA .u8 20 c13 c14 fun x15 =>
 Q (.tuple ⟨[.int .i64 r8,.bool x15]⟩) w9) (
 Q (.tuple ⟨[.int .i64 r8,.bool false]⟩) w9)
theorem qwf.ok (l_0:Sl) (id_1:(Array Value)) (Q:VWP) (w:World) (h:qwf l_0 id_1 Q w):Calls Try.prog 33 ⟨[sV l_0,.agg id_1]⟩ w (Ret Q) :=
 qqb [.tmp 4,.tmp 5] qed Try.func33 rfl rfl rfl rfl .lf (by kernel_rfl) h
def qdb.j3 (t2 out_3:Addr) (Q:VWP) (w:World):Prop :=
 ldA w out_3 256 fun c1 =>
 (c1).size=256 ∧
 stA w t2 c1 fun w2 =>
 ldA w2 t2 256 fun c3 =>
 Q (.agg c3) w2
def qdb.b1 (t2 out_3:Addr) (i_6:Int) (Q:VWP) (nx1:Addr→Addr→Int→WP) (w:World):Prop :=
 br (decide (i_6 < 256)) (
 lt (World.drew w) fun w4 =>
 ixA out_3 256 i_6 1 fun a5 =>
 ldI .i64 w4 a5 fun x6 =>
 lt (IntKind.i64.wrap (i_6 - 1)) fun x7 =>
 ixA out_3 256 x7 1 fun a8 =>
 ldI .i64 w4 a8 fun x9 =>
 lt (IntKind.i64.wrap (x6+x9)) fun x10 =>
 ixA out_3 256 i_6 1 fun a11 =>
 st w4 a11 (.int .i64 x10) fun w12 =>
 lt (IntKind.i64.wrap (i_6+1)) fun x13 =>
 nx1 t2 out_3 x13 w12) (
 qdb.j3 t2 out_3 Q w)
def qdb.l1 (t2 out_3:Addr) (i_6:Int) (Q:VWP) (w:World):Prop :=
 ∃ (I:Int→WP) (μ:Int→World→Nat),I i_6 w∧∀ i_6:Int,∀ w:World,I i_6 w→qdb.b1 t2 out_3 i_6 Q (fun t2' out_3' i_6' w'=>(t2'=t2∧out_3'=out_3)∧I i_6' w'∧μ i_6' w' < μ i_6 w) w
def qdb.j4 (t2 out_3:Addr) (i_6:Int) (Q:VWP) (w:World):Prop :=
 qdb.l1 t2 out_3 i_6 Q w
def qdb.j2 (t2 out_3:Addr) (Q:VWP) (w:World):Prop :=
 qdb.j4 t2 out_3 1 Q w
def qdb.b2 (t2 out_3:Addr) (t7:Sl) (t8 t9:Int) (Q:VWP) (nx2:Addr→Addr→Sl→Int→Int→WP) (w:World):Prop :=
 br (decide (t9 < t8)) (
 ixS t7.a t7.len t9 20 fun a14 =>
 ldA w a14 20 fun c15 =>
 nw w (zc Try.prog 28) 28 fun a16 w17 =>
 (c15).size=20 ∧
 stA w17 a16 c15 fun w18 =>
 ixA a16 20 0 1 fun a19 =>
 ldI .u8 w18 a19 fun x20 =>
 ixA out_3 256 x20 1 fun a21 =>
 ldI .i64 w18 a21 fun x22 =>
 lt (IntKind.i64.wrap (x22+1)) fun x23 =>
 ixA out_3 256 x20 1 fun a24 =>
 st w18 a24 (.int .i64 x23) fun w25 =>
 lt (IntKind.i64.wrap (t9+1)) fun x26 =>
 nx2 t2 out_3 t7 t8 x26 w25) (
 qdb.j2 t2 out_3 Q w)
def qdb.l2 (t2 out_3:Addr) (t7:Sl) (t8 t9:Int) (Q:VWP) (w:World):Prop :=
 ∃ (I:Int→WP) (μ:Int→World→Nat),I t9 w∧∀ t9:Int,∀ w:World,I t9 w→qdb.b2 t2 out_3 t7 t8 t9 Q (fun t2' out_3' t7' t8' t9' w'=>(t2'=t2∧out_3'=out_3∧t7'=t7∧t8'=t8)∧I t9' w'∧μ t9' w' < μ t9 w) w
def qdb.j5 (t2 out_3:Addr) (t7:Sl) (t8 t9:Int) (Q:VWP) (w:World):Prop :=
 qdb.l2 t2 out_3 t7 t8 t9 Q w
def qdb.j1 (l_0:Sl) (t2:Addr) (out_3:Addr) (Q:VWP) (w:World):Prop :=
 qdb.j5 t2 out_3 l_0 (l_0.len:Int) 0 Q w
def qdb (l_0:Sl) (Q:VWP) (w:World):Prop :=
 nw w (zc Try.prog 55) 55 fun a27 w28 =>
 nw w28 (zc Try.prog 55) 55 fun a29 w30 =>
 qdb.j1 l_0 a27 a29 Q w30
theorem qdb.ok (l_0:Sl) (Q:VWP) (w:World) (h:qdb l_0 Q w):Calls Try.prog 20 ⟨[sV l_0]⟩ w (Ret Q) :=
 qqb [.cell 2 55] qed Try.func20 rfl rfl rfl rfl (.pr 1 [sL 0,sA 2,sA 3] (fun a b c w=>qdb.j1 a b c Q w) (.sq [sA 2,sA 3] (fun a b w=>qdb.j2 a b Q w) (.sq [sA 2,sA 3,sL 7,sI 8,sI 9] (fun a b c d e w=>qdb.j5 a b c d e Q w) .lf (.bk (.lo [sA 2,sA 3,sL 7,sI 8] [sI 9] (fun a b c d e w=>qdb.l2 a b c d e Q w) (fun nx2 a b c d e w=>qdb.b2 a b c d e Q nx2 w) fun nx2=>.lf))) (.sq [sA 2,sA 3] (fun a b w=>qdb.j3 a b Q w) (.sq [sA 2,sA 3,sI 6] (fun a b c w=>qdb.j4 a b c Q w) .lf (.bk (.lo [sA 2,sA 3] [sI 6] (fun a b c w=>qdb.l1 a b c Q w) (fun nx1 a b c w=>qdb.b1 a b c Q nx1 w) fun nx1=>.lf))) .lf))) (by kernel_rfl) h
end Go.Proofs.Ytigmbblgfnkpbaa
