/- Own texts as one, only what is reached (shake.py). -/
import Derived.Test.YtonmgkkkiejicaaGreatMce
import Derived.Test.YtonmgkkkiejicaaGreatProg
set_option linter.unusedSectionVars false
namespace Go.Proofs.YtonmgkkkiejicaaGreat
open Go Go.Proofs
set_option linter.unusedVariables false
set_option maxRecDepth 100000
def qgf (i_0:Int) (Q:VWP) (w:World):Prop :=
 nw w (zc Tryz.prog 38) 38 fun a1 w2 =>
 ixA a1 20 0 1 fun a3 =>
 st w2 a3 (.int .u8 i_0) fun w4 =>
 ldA w4 a1 20 fun c5 =>
 Calls Tryz.prog 29 ⟨[.agg c5]⟩ w4 fun e6 w7 =>
 ∃ r8:ByteArray,e6=.returned (.string r8) ∧
 ((ByteArray.size ({ data:=#[112,97,99,107,45] })+ByteArray.size r8:Nat):Int)≤IntKind.i64.max ∧
 lt (({ data:=#[112,97,99,107,45] }) ++ r8:ByteArray) fun x9 =>
 ((ByteArray.size x9+ByteArray.size ({ data:=#[46,105,100,120] }):Nat):Int)≤IntKind.i64.max ∧
 lt (x9 ++ ({ data:=#[46,105,100,120] }):ByteArray) fun x10 =>
 Q (.string x10) w7
theorem qgf.ok (i_0:Int) (Q:VWP) (w:World) (h:qgf i_0 Q w):Calls Tryz.prog 10 ⟨[.int .u8 i_0]⟩ w (Ret Q) :=
 qvb [.tmp 2] qkd Tryz.func10 rfl rfl rfl rfl .lf (by kernel_rfl) h
def qg.j2 (t3:Sl) (t4:Int) (Q:VWP) (w:World):Prop :=
 ct_PI 11 [sV t3] w fun r3 r4 w2 =>
 lt (IntKind.i64.wrap (t4+r4)) fun x5 =>
 br (x5 != 0) (
 Q (.bool false) w2) (
 br (Option.isNone r3) (
 Q (.bool false) w2) (
 ct_GB 13 [.pointer r3,.agg ⟨[.int .u8 0,.int .u8 0,.int .u8 0,.int .u8 0,.int .u8 0,.int .u8 0,.int .u8 0,.int .u8 0,.int .u8 0,.int .u8 0,.int .u8 0,.int .u8 0,.int .u8 0,.int .u8 0,.int .u8 0,.int .u8 0,.int .u8 0,.int .u8 0,.int .u8 0,.int .u8 0]⟩] w2 fun r8 r9 w7 =>
 nw w7 (zc Tryz.prog 52) 52 fun a10 w11 =>
 (r8).size=2 ∧
 stA w11 a10 r8 fun w12 =>
 lt (World.drew w12) fun w13 =>
 br r9 (
 (ldS w13 (Addr.add a10 0) fun x14 =>
 Calls Tryz.prog 10 ⟨[.int .u8 1]⟩ w13 fun e15 w16 =>
 ∃ r17:ByteArray,e15=.returned (.string r17) ∧
 br (ByteArray.toList x14 == ByteArray.toList r17) (
 ldI .i64 w16 (Addr.add a10 1) fun x18 =>
 br (x18 == 12) (
 qri 12 [.pointer r3] w16 fun r21 w20 =>
 br (r21 == 1) (
 qqf 16 [.pointer r3] w20 fun r24 w23 =>
 br ((r24.len:Int) == 2) (
 Q (.bool ((t3.len:Int) == 1244)) w23) (
 Q (.bool false) w23)) (
 Q (.bool false) w20)) (
 Q (.bool false) w16)) (
 Q (.bool false) w16))∧(
 Calls Tryz.prog 10 ⟨[.int .u8 1]⟩ w13 fun e25 w26 =>
 ∃ r27:ByteArray,e25=.returned (.string r27) ∧
 ldS w26 (Addr.add a10 0) fun x28 =>
 br (ByteArray.toList x28 == ByteArray.toList r27) (
 ldI .i64 w26 (Addr.add a10 1) fun x29 =>
 br (x29 == 12) (
 qri 12 [.pointer r3] w26 fun r32 w31 =>
 br (r32 == 1) (
 qqf 16 [.pointer r3] w31 fun r35 w34 =>
 br ((r35.len:Int) == 2) (
 Q (.bool ((t3.len:Int) == 1244)) w34) (
 Q (.bool false) w34)) (
 Q (.bool false) w31)) (
 Q (.bool false) w26)) (
 Q (.bool false) w26))) (
 (Q (.bool false) w13)∧(
 Q (.bool false) w13))))
def qg.j1 (i_1:Addr) (Q:VWP) (w:World):Prop :=
 nw w (zc Tryz.prog 42) 42 fun a36 w37 =>
 ((⟨[.int .u8 0,.int .u8 0,.int .u8 0,.int .u8 0,.int .u8 0,.int .u8 0,.int .u8 0,.int .u8 0,.int .u8 0,.int .u8 0,.int .u8 0,.int .u8 0,.int .u8 0,.int .u8 0,.int .u8 0,.int .u8 0,.int .u8 0,.int .u8 0,.int .u8 0,.int .u8 0,.int .u32 0,.int .i64 50]⟩:Array Value)).size=22 ∧
 stA w37 a36 (⟨[.int .u8 0,.int .u8 0,.int .u8 0,.int .u8 0,.int .u8 0,.int .u8 0,.int .u8 0,.int .u8 0,.int .u8 0,.int .u8 0,.int .u8 0,.int .u8 0,.int .u8 0,.int .u8 0,.int .u8 0,.int .u8 0,.int .u8 0,.int .u8 0,.int .u8 0,.int .u8 0,.int .u32 0,.int .i64 50]⟩:Array Value) fun w38 =>
 lt (World.drew w38) fun w39 =>
 (Calls Tryz.prog 10 ⟨[.int .u8 2]⟩ w39 fun e40 w41 =>
 ∃ r42:ByteArray,e40=.returned (.string r42) ∧
 (ldA w41 a36 22 fun c43 =>
 ((c43).size=22 ∧
 nw w41 ⟨(spl [.int .u8 0,.int .u8 0,.int .u8 0,.int .u8 0,.int .u8 0,.int .u8 0,.int .u8 0,.int .u8 0,.int .u8 0,.int .u8 0,.int .u8 0,.int .u8 0,.int .u8 0,.int .u8 0,.int .u8 0,.int .u8 0,.int .u8 0,.int .u8 0,.int .u8 0,.int .u8 0,.int .u32 0,.int .i64 0] 0 c43)⟩ 42 fun a44 w45 =>
 (Calls Tryz.prog 10 ⟨[.int .u8 1]⟩ w45 fun e46 w47 =>
 ∃ r48:ByteArray,e46=.returned (.string r48) ∧
 ldA w47 i_1 22 fun c49 =>
 (c49).size=22 ∧
 nw w47 ⟨(spl [.int .u8 0,.int .u8 0,.int .u8 0,.int .u8 0,.int .u8 0,.int .u8 0,.int .u8 0,.int .u8 0,.int .u8 0,.int .u8 0,.int .u8 0,.int .u8 0,.int .u8 0,.int .u8 0,.int .u8 0,.int .u8 0,.int .u8 0,.int .u8 0,.int .u8 0,.int .u8 0,.int .u32 0,.int .i64 0] 0 c49)⟩ 42 fun a50 w51 =>
 ((⟨[.string r42,.slice (some a44) 1 1]⟩:Array Value)).size=2 ∧
 ((⟨[.string r48,.slice (some a50) 1 1]⟩:Array Value)).size=2 ∧
 nw w51 ⟨(spl (spl [.string ({ data:=#[] }),.slice none 0 0,.string ({ data:=#[] }),.slice none 0 0] 0 (⟨[.string r42,.slice (some a44) 1 1]⟩:Array Value)) 2 (⟨[.string r48,.slice (some a50) 1 1]⟩:Array Value))⟩ 46 fun a52 w53 =>
 qyb 9 [.slice (some a52) 2 2] w53 fun r56 r57 w55 =>
 qg.j2 r56 r57 Q w55)∧(
 ldA w45 i_1 22 fun c58 =>
 (Calls Tryz.prog 10 ⟨[.int .u8 1]⟩ w45 fun e59 w60 =>
 ∃ r61:ByteArray,e59=.returned (.string r61) ∧
 (c58).size=22 ∧
 nw w60 ⟨(spl [.int .u8 0,.int .u8 0,.int .u8 0,.int .u8 0,.int .u8 0,.int .u8 0,.int .u8 0,.int .u8 0,.int .u8 0,.int .u8 0,.int .u8 0,.int .u8 0,.int .u8 0,.int .u8 0,.int .u8 0,.int .u8 0,.int .u8 0,.int .u8 0,.int .u8 0,.int .u8 0,.int .u32 0,.int .i64 0] 0 c58)⟩ 42 fun a62 w63 =>
 ((⟨[.string r42,.slice (some a44) 1 1]⟩:Array Value)).size=2 ∧
 ((⟨[.string r61,.slice (some a62) 1 1]⟩:Array Value)).size=2 ∧
 nw w63 ⟨(spl (spl [.string ({ data:=#[] }),.slice none 0 0,.string ({ data:=#[] }),.slice none 0 0] 0 (⟨[.string r42,.slice (some a44) 1 1]⟩:Array Value)) 2 (⟨[.string r61,.slice (some a62) 1 1]⟩:Array Value))⟩ 46 fun a64 w65 =>
 qyb 9 [.slice (some a64) 2 2] w65 fun r68 r69 w67 =>
 qg.j2 r68 r69 Q w67)∧(
 (c58).size=22 ∧
 nw w45 ⟨(spl [.int .u8 0,.int .u8 0,.int .u8 0,.int .u8 0,.int .u8 0,.int .u8 0,.int .u8 0,.int .u8 0,.int .u8 0,.int .u8 0,.int .u8 0,.int .u8 0,.int .u8 0,.int .u8 0,.int .u8 0,.int .u8 0,.int .u8 0,.int .u8 0,.int .u8 0,.int .u8 0,.int .u32 0,.int .i64 0] 0 c58)⟩ 42 fun a70 w71 =>
 Calls Tryz.prog 10 ⟨[.int .u8 1]⟩ w71 fun e72 w73 =>
 ∃ r74:ByteArray,e72=.returned (.string r74) ∧
 ((⟨[.string r42,.slice (some a44) 1 1]⟩:Array Value)).size=2 ∧
 ((⟨[.string r74,.slice (some a70) 1 1]⟩:Array Value)).size=2 ∧
 nw w73 ⟨(spl (spl [.string ({ data:=#[] }),.slice none 0 0,.string ({ data:=#[] }),.slice none 0 0] 0 (⟨[.string r42,.slice (some a44) 1 1]⟩:Array Value)) 2 (⟨[.string r74,.slice (some a70) 1 1]⟩:Array Value))⟩ 46 fun a75 w76 =>
 qyb 9 [.slice (some a75) 2 2] w76 fun r79 r80 w78 =>
 qg.j2 r79 r80 Q w78)))∧(
 Calls Tryz.prog 10 ⟨[.int .u8 1]⟩ w41 fun e81 w82 =>
 ∃ r83:ByteArray,e81=.returned (.string r83) ∧
 ((c43).size=22 ∧
 nw w82 ⟨(spl [.int .u8 0,.int .u8 0,.int .u8 0,.int .u8 0,.int .u8 0,.int .u8 0,.int .u8 0,.int .u8 0,.int .u8 0,.int .u8 0,.int .u8 0,.int .u8 0,.int .u8 0,.int .u8 0,.int .u8 0,.int .u8 0,.int .u8 0,.int .u8 0,.int .u8 0,.int .u8 0,.int .u32 0,.int .i64 0] 0 c43)⟩ 42 fun a84 w85 =>
 ldA w85 i_1 22 fun c86 =>
 (c86).size=22 ∧
 nw w85 ⟨(spl [.int .u8 0,.int .u8 0,.int .u8 0,.int .u8 0,.int .u8 0,.int .u8 0,.int .u8 0,.int .u8 0,.int .u8 0,.int .u8 0,.int .u8 0,.int .u8 0,.int .u8 0,.int .u8 0,.int .u8 0,.int .u8 0,.int .u8 0,.int .u8 0,.int .u8 0,.int .u8 0,.int .u32 0,.int .i64 0] 0 c86)⟩ 42 fun a87 w88 =>
 ((⟨[.string r42,.slice (some a84) 1 1]⟩:Array Value)).size=2 ∧
 ((⟨[.string r83,.slice (some a87) 1 1]⟩:Array Value)).size=2 ∧
 nw w88 ⟨(spl (spl [.string ({ data:=#[] }),.slice none 0 0,.string ({ data:=#[] }),.slice none 0 0] 0 (⟨[.string r42,.slice (some a84) 1 1]⟩:Array Value)) 2 (⟨[.string r83,.slice (some a87) 1 1]⟩:Array Value))⟩ 46 fun a89 w90 =>
 qyb 9 [.slice (some a89) 2 2] w90 fun r93 r94 w92 =>
 qg.j2 r93 r94 Q w92)∧(
 ldA w82 i_1 22 fun c95 =>
 ((c43).size=22 ∧
 nw w82 ⟨(spl [.int .u8 0,.int .u8 0,.int .u8 0,.int .u8 0,.int .u8 0,.int .u8 0,.int .u8 0,.int .u8 0,.int .u8 0,.int .u8 0,.int .u8 0,.int .u8 0,.int .u8 0,.int .u8 0,.int .u8 0,.int .u8 0,.int .u8 0,.int .u8 0,.int .u8 0,.int .u8 0,.int .u32 0,.int .i64 0] 0 c43)⟩ 42 fun a96 w97 =>
 (c95).size=22 ∧
 nw w97 ⟨(spl [.int .u8 0,.int .u8 0,.int .u8 0,.int .u8 0,.int .u8 0,.int .u8 0,.int .u8 0,.int .u8 0,.int .u8 0,.int .u8 0,.int .u8 0,.int .u8 0,.int .u8 0,.int .u8 0,.int .u8 0,.int .u8 0,.int .u8 0,.int .u8 0,.int .u8 0,.int .u8 0,.int .u32 0,.int .i64 0] 0 c95)⟩ 42 fun a98 w99 =>
 ((⟨[.string r42,.slice (some a96) 1 1]⟩:Array Value)).size=2 ∧
 ((⟨[.string r83,.slice (some a98) 1 1]⟩:Array Value)).size=2 ∧
 nw w99 ⟨(spl (spl [.string ({ data:=#[] }),.slice none 0 0,.string ({ data:=#[] }),.slice none 0 0] 0 (⟨[.string r42,.slice (some a96) 1 1]⟩:Array Value)) 2 (⟨[.string r83,.slice (some a98) 1 1]⟩:Array Value))⟩ 46 fun a100 w101 =>
 qyb 9 [.slice (some a100) 2 2] w101 fun r104 r105 w103 =>
 qg.j2 r104 r105 Q w103)∧(
 (c95).size=22 ∧
 nw w82 ⟨(spl [.int .u8 0,.int .u8 0,.int .u8 0,.int .u8 0,.int .u8 0,.int .u8 0,.int .u8 0,.int .u8 0,.int .u8 0,.int .u8 0,.int .u8 0,.int .u8 0,.int .u8 0,.int .u8 0,.int .u8 0,.int .u8 0,.int .u8 0,.int .u8 0,.int .u8 0,.int .u8 0,.int .u32 0,.int .i64 0] 0 c95)⟩ 42 fun a106 w107 =>
 (c43).size=22 ∧
 nw w107 ⟨(spl [.int .u8 0,.int .u8 0,.int .u8 0,.int .u8 0,.int .u8 0,.int .u8 0,.int .u8 0,.int .u8 0,.int .u8 0,.int .u8 0,.int .u8 0,.int .u8 0,.int .u8 0,.int .u8 0,.int .u8 0,.int .u8 0,.int .u8 0,.int .u8 0,.int .u8 0,.int .u8 0,.int .u32 0,.int .i64 0] 0 c43)⟩ 42 fun a108 w109 =>
 ((⟨[.string r42,.slice (some a108) 1 1]⟩:Array Value)).size=2 ∧
 ((⟨[.string r83,.slice (some a106) 1 1]⟩:Array Value)).size=2 ∧
 nw w109 ⟨(spl (spl [.string ({ data:=#[] }),.slice none 0 0,.string ({ data:=#[] }),.slice none 0 0] 0 (⟨[.string r42,.slice (some a108) 1 1]⟩:Array Value)) 2 (⟨[.string r83,.slice (some a106) 1 1]⟩:Array Value))⟩ 46 fun a110 w111 =>
 qyb 9 [.slice (some a110) 2 2] w111 fun r114 r115 w113 =>
 qg.j2 r114 r115 Q w113)))∧(
 ldA w41 i_1 22 fun c116 =>
 ((c43).size=22 ∧
 nw w41 ⟨(spl [.int .u8 0,.int .u8 0,.int .u8 0,.int .u8 0,.int .u8 0,.int .u8 0,.int .u8 0,.int .u8 0,.int .u8 0,.int .u8 0,.int .u8 0,.int .u8 0,.int .u8 0,.int .u8 0,.int .u8 0,.int .u8 0,.int .u8 0,.int .u8 0,.int .u8 0,.int .u8 0,.int .u32 0,.int .i64 0] 0 c43)⟩ 42 fun a117 w118 =>
 (Calls Tryz.prog 10 ⟨[.int .u8 1]⟩ w118 fun e119 w120 =>
 ∃ r121:ByteArray,e119=.returned (.string r121) ∧
 (c116).size=22 ∧
 nw w120 ⟨(spl [.int .u8 0,.int .u8 0,.int .u8 0,.int .u8 0,.int .u8 0,.int .u8 0,.int .u8 0,.int .u8 0,.int .u8 0,.int .u8 0,.int .u8 0,.int .u8 0,.int .u8 0,.int .u8 0,.int .u8 0,.int .u8 0,.int .u8 0,.int .u8 0,.int .u8 0,.int .u8 0,.int .u32 0,.int .i64 0] 0 c116)⟩ 42 fun a122 w123 =>
 ((⟨[.string r42,.slice (some a117) 1 1]⟩:Array Value)).size=2 ∧
 ((⟨[.string r121,.slice (some a122) 1 1]⟩:Array Value)).size=2 ∧
 nw w123 ⟨(spl (spl [.string ({ data:=#[] }),.slice none 0 0,.string ({ data:=#[] }),.slice none 0 0] 0 (⟨[.string r42,.slice (some a117) 1 1]⟩:Array Value)) 2 (⟨[.string r121,.slice (some a122) 1 1]⟩:Array Value))⟩ 46 fun a124 w125 =>
 qyb 9 [.slice (some a124) 2 2] w125 fun r128 r129 w127 =>
 qg.j2 r128 r129 Q w127)∧(
 (c116).size=22 ∧
 nw w118 ⟨(spl [.int .u8 0,.int .u8 0,.int .u8 0,.int .u8 0,.int .u8 0,.int .u8 0,.int .u8 0,.int .u8 0,.int .u8 0,.int .u8 0,.int .u8 0,.int .u8 0,.int .u8 0,.int .u8 0,.int .u8 0,.int .u8 0,.int .u8 0,.int .u8 0,.int .u8 0,.int .u8 0,.int .u32 0,.int .i64 0] 0 c116)⟩ 42 fun a130 w131 =>
 Calls Tryz.prog 10 ⟨[.int .u8 1]⟩ w131 fun e132 w133 =>
 ∃ r134:ByteArray,e132=.returned (.string r134) ∧
 ((⟨[.string r42,.slice (some a117) 1 1]⟩:Array Value)).size=2 ∧
 ((⟨[.string r134,.slice (some a130) 1 1]⟩:Array Value)).size=2 ∧
 nw w133 ⟨(spl (spl [.string ({ data:=#[] }),.slice none 0 0,.string ({ data:=#[] }),.slice none 0 0] 0 (⟨[.string r42,.slice (some a117) 1 1]⟩:Array Value)) 2 (⟨[.string r134,.slice (some a130) 1 1]⟩:Array Value))⟩ 46 fun a135 w136 =>
 qyb 9 [.slice (some a135) 2 2] w136 fun r139 r140 w138 =>
 qg.j2 r139 r140 Q w138))∧(
 Calls Tryz.prog 10 ⟨[.int .u8 1]⟩ w41 fun e141 w142 =>
 ∃ r143:ByteArray,e141=.returned (.string r143) ∧
 ((c43).size=22 ∧
 nw w142 ⟨(spl [.int .u8 0,.int .u8 0,.int .u8 0,.int .u8 0,.int .u8 0,.int .u8 0,.int .u8 0,.int .u8 0,.int .u8 0,.int .u8 0,.int .u8 0,.int .u8 0,.int .u8 0,.int .u8 0,.int .u8 0,.int .u8 0,.int .u8 0,.int .u8 0,.int .u8 0,.int .u8 0,.int .u32 0,.int .i64 0] 0 c43)⟩ 42 fun a144 w145 =>
 (c116).size=22 ∧
 nw w145 ⟨(spl [.int .u8 0,.int .u8 0,.int .u8 0,.int .u8 0,.int .u8 0,.int .u8 0,.int .u8 0,.int .u8 0,.int .u8 0,.int .u8 0,.int .u8 0,.int .u8 0,.int .u8 0,.int .u8 0,.int .u8 0,.int .u8 0,.int .u8 0,.int .u8 0,.int .u8 0,.int .u8 0,.int .u32 0,.int .i64 0] 0 c116)⟩ 42 fun a146 w147 =>
 ((⟨[.string r42,.slice (some a144) 1 1]⟩:Array Value)).size=2 ∧
 ((⟨[.string r143,.slice (some a146) 1 1]⟩:Array Value)).size=2 ∧
 nw w147 ⟨(spl (spl [.string ({ data:=#[] }),.slice none 0 0,.string ({ data:=#[] }),.slice none 0 0] 0 (⟨[.string r42,.slice (some a144) 1 1]⟩:Array Value)) 2 (⟨[.string r143,.slice (some a146) 1 1]⟩:Array Value))⟩ 46 fun a148 w149 =>
 qyb 9 [.slice (some a148) 2 2] w149 fun r152 r153 w151 =>
 qg.j2 r152 r153 Q w151)∧(
 (c116).size=22 ∧
 nw w142 ⟨(spl [.int .u8 0,.int .u8 0,.int .u8 0,.int .u8 0,.int .u8 0,.int .u8 0,.int .u8 0,.int .u8 0,.int .u8 0,.int .u8 0,.int .u8 0,.int .u8 0,.int .u8 0,.int .u8 0,.int .u8 0,.int .u8 0,.int .u8 0,.int .u8 0,.int .u8 0,.int .u8 0,.int .u32 0,.int .i64 0] 0 c116)⟩ 42 fun a154 w155 =>
 (c43).size=22 ∧
 nw w155 ⟨(spl [.int .u8 0,.int .u8 0,.int .u8 0,.int .u8 0,.int .u8 0,.int .u8 0,.int .u8 0,.int .u8 0,.int .u8 0,.int .u8 0,.int .u8 0,.int .u8 0,.int .u8 0,.int .u8 0,.int .u8 0,.int .u8 0,.int .u8 0,.int .u8 0,.int .u8 0,.int .u8 0,.int .u32 0,.int .i64 0] 0 c43)⟩ 42 fun a156 w157 =>
 ((⟨[.string r42,.slice (some a156) 1 1]⟩:Array Value)).size=2 ∧
 ((⟨[.string r143,.slice (some a154) 1 1]⟩:Array Value)).size=2 ∧
 nw w157 ⟨(spl (spl [.string ({ data:=#[] }),.slice none 0 0,.string ({ data:=#[] }),.slice none 0 0] 0 (⟨[.string r42,.slice (some a156) 1 1]⟩:Array Value)) 2 (⟨[.string r143,.slice (some a154) 1 1]⟩:Array Value))⟩ 46 fun a158 w159 =>
 qyb 9 [.slice (some a158) 2 2] w159 fun r162 r163 w161 =>
 qg.j2 r162 r163 Q w161))∧(
 (c116).size=22 ∧
 nw w41 ⟨(spl [.int .u8 0,.int .u8 0,.int .u8 0,.int .u8 0,.int .u8 0,.int .u8 0,.int .u8 0,.int .u8 0,.int .u8 0,.int .u8 0,.int .u8 0,.int .u8 0,.int .u8 0,.int .u8 0,.int .u8 0,.int .u8 0,.int .u8 0,.int .u8 0,.int .u8 0,.int .u8 0,.int .u32 0,.int .i64 0] 0 c116)⟩ 42 fun a164 w165 =>
 ((c43).size=22 ∧
 nw w165 ⟨(spl [.int .u8 0,.int .u8 0,.int .u8 0,.int .u8 0,.int .u8 0,.int .u8 0,.int .u8 0,.int .u8 0,.int .u8 0,.int .u8 0,.int .u8 0,.int .u8 0,.int .u8 0,.int .u8 0,.int .u8 0,.int .u8 0,.int .u8 0,.int .u8 0,.int .u8 0,.int .u8 0,.int .u32 0,.int .i64 0] 0 c43)⟩ 42 fun a166 w167 =>
 Calls Tryz.prog 10 ⟨[.int .u8 1]⟩ w167 fun e168 w169 =>
 ∃ r170:ByteArray,e168=.returned (.string r170) ∧
 ((⟨[.string r42,.slice (some a166) 1 1]⟩:Array Value)).size=2 ∧
 ((⟨[.string r170,.slice (some a164) 1 1]⟩:Array Value)).size=2 ∧
 nw w169 ⟨(spl (spl [.string ({ data:=#[] }),.slice none 0 0,.string ({ data:=#[] }),.slice none 0 0] 0 (⟨[.string r42,.slice (some a166) 1 1]⟩:Array Value)) 2 (⟨[.string r170,.slice (some a164) 1 1]⟩:Array Value))⟩ 46 fun a171 w172 =>
 qyb 9 [.slice (some a171) 2 2] w172 fun r175 r176 w174 =>
 qg.j2 r175 r176 Q w174)∧(
 Calls Tryz.prog 10 ⟨[.int .u8 1]⟩ w165 fun e177 w178 =>
 ∃ r179:ByteArray,e177=.returned (.string r179) ∧
 (c43).size=22 ∧
 nw w178 ⟨(spl [.int .u8 0,.int .u8 0,.int .u8 0,.int .u8 0,.int .u8 0,.int .u8 0,.int .u8 0,.int .u8 0,.int .u8 0,.int .u8 0,.int .u8 0,.int .u8 0,.int .u8 0,.int .u8 0,.int .u8 0,.int .u8 0,.int .u8 0,.int .u8 0,.int .u8 0,.int .u8 0,.int .u32 0,.int .i64 0] 0 c43)⟩ 42 fun a180 w181 =>
 ((⟨[.string r42,.slice (some a180) 1 1]⟩:Array Value)).size=2 ∧
 ((⟨[.string r179,.slice (some a164) 1 1]⟩:Array Value)).size=2 ∧
 nw w181 ⟨(spl (spl [.string ({ data:=#[] }),.slice none 0 0,.string ({ data:=#[] }),.slice none 0 0] 0 (⟨[.string r42,.slice (some a180) 1 1]⟩:Array Value)) 2 (⟨[.string r179,.slice (some a164) 1 1]⟩:Array Value))⟩ 46 fun a182 w183 =>
 qyb 9 [.slice (some a182) 2 2] w183 fun r186 r187 w185 =>
 qg.j2 r186 r187 Q w185))))∧(
 Calls Tryz.prog 10 ⟨[.int .u8 1]⟩ w41 fun e188 w189 =>
 ∃ r190:ByteArray,e188=.returned (.string r190) ∧
 (ldA w189 a36 22 fun c191 =>
 ((c191).size=22 ∧
 nw w189 ⟨(spl [.int .u8 0,.int .u8 0,.int .u8 0,.int .u8 0,.int .u8 0,.int .u8 0,.int .u8 0,.int .u8 0,.int .u8 0,.int .u8 0,.int .u8 0,.int .u8 0,.int .u8 0,.int .u8 0,.int .u8 0,.int .u8 0,.int .u8 0,.int .u8 0,.int .u8 0,.int .u8 0,.int .u32 0,.int .i64 0] 0 c191)⟩ 42 fun a192 w193 =>
 ldA w193 i_1 22 fun c194 =>
 (c194).size=22 ∧
 nw w193 ⟨(spl [.int .u8 0,.int .u8 0,.int .u8 0,.int .u8 0,.int .u8 0,.int .u8 0,.int .u8 0,.int .u8 0,.int .u8 0,.int .u8 0,.int .u8 0,.int .u8 0,.int .u8 0,.int .u8 0,.int .u8 0,.int .u8 0,.int .u8 0,.int .u8 0,.int .u8 0,.int .u8 0,.int .u32 0,.int .i64 0] 0 c194)⟩ 42 fun a195 w196 =>
 ((⟨[.string r42,.slice (some a192) 1 1]⟩:Array Value)).size=2 ∧
 ((⟨[.string r190,.slice (some a195) 1 1]⟩:Array Value)).size=2 ∧
 nw w196 ⟨(spl (spl [.string ({ data:=#[] }),.slice none 0 0,.string ({ data:=#[] }),.slice none 0 0] 0 (⟨[.string r42,.slice (some a192) 1 1]⟩:Array Value)) 2 (⟨[.string r190,.slice (some a195) 1 1]⟩:Array Value))⟩ 46 fun a197 w198 =>
 qyb 9 [.slice (some a197) 2 2] w198 fun r201 r202 w200 =>
 qg.j2 r201 r202 Q w200)∧(
 ldA w189 i_1 22 fun c203 =>
 ((c191).size=22 ∧
 nw w189 ⟨(spl [.int .u8 0,.int .u8 0,.int .u8 0,.int .u8 0,.int .u8 0,.int .u8 0,.int .u8 0,.int .u8 0,.int .u8 0,.int .u8 0,.int .u8 0,.int .u8 0,.int .u8 0,.int .u8 0,.int .u8 0,.int .u8 0,.int .u8 0,.int .u8 0,.int .u8 0,.int .u8 0,.int .u32 0,.int .i64 0] 0 c191)⟩ 42 fun a204 w205 =>
 (c203).size=22 ∧
 nw w205 ⟨(spl [.int .u8 0,.int .u8 0,.int .u8 0,.int .u8 0,.int .u8 0,.int .u8 0,.int .u8 0,.int .u8 0,.int .u8 0,.int .u8 0,.int .u8 0,.int .u8 0,.int .u8 0,.int .u8 0,.int .u8 0,.int .u8 0,.int .u8 0,.int .u8 0,.int .u8 0,.int .u8 0,.int .u32 0,.int .i64 0] 0 c203)⟩ 42 fun a206 w207 =>
 ((⟨[.string r42,.slice (some a204) 1 1]⟩:Array Value)).size=2 ∧
 ((⟨[.string r190,.slice (some a206) 1 1]⟩:Array Value)).size=2 ∧
 nw w207 ⟨(spl (spl [.string ({ data:=#[] }),.slice none 0 0,.string ({ data:=#[] }),.slice none 0 0] 0 (⟨[.string r42,.slice (some a204) 1 1]⟩:Array Value)) 2 (⟨[.string r190,.slice (some a206) 1 1]⟩:Array Value))⟩ 46 fun a208 w209 =>
 qyb 9 [.slice (some a208) 2 2] w209 fun r212 r213 w211 =>
 qg.j2 r212 r213 Q w211)∧(
 (c203).size=22 ∧
 nw w189 ⟨(spl [.int .u8 0,.int .u8 0,.int .u8 0,.int .u8 0,.int .u8 0,.int .u8 0,.int .u8 0,.int .u8 0,.int .u8 0,.int .u8 0,.int .u8 0,.int .u8 0,.int .u8 0,.int .u8 0,.int .u8 0,.int .u8 0,.int .u8 0,.int .u8 0,.int .u8 0,.int .u8 0,.int .u32 0,.int .i64 0] 0 c203)⟩ 42 fun a214 w215 =>
 (c191).size=22 ∧
 nw w215 ⟨(spl [.int .u8 0,.int .u8 0,.int .u8 0,.int .u8 0,.int .u8 0,.int .u8 0,.int .u8 0,.int .u8 0,.int .u8 0,.int .u8 0,.int .u8 0,.int .u8 0,.int .u8 0,.int .u8 0,.int .u8 0,.int .u8 0,.int .u8 0,.int .u8 0,.int .u8 0,.int .u8 0,.int .u32 0,.int .i64 0] 0 c191)⟩ 42 fun a216 w217 =>
 ((⟨[.string r42,.slice (some a216) 1 1]⟩:Array Value)).size=2 ∧
 ((⟨[.string r190,.slice (some a214) 1 1]⟩:Array Value)).size=2 ∧
 nw w217 ⟨(spl (spl [.string ({ data:=#[] }),.slice none 0 0,.string ({ data:=#[] }),.slice none 0 0] 0 (⟨[.string r42,.slice (some a216) 1 1]⟩:Array Value)) 2 (⟨[.string r190,.slice (some a214) 1 1]⟩:Array Value))⟩ 46 fun a218 w219 =>
 qyb 9 [.slice (some a218) 2 2] w219 fun r222 r223 w221 =>
 qg.j2 r222 r223 Q w221)))∧(
 ldA w189 i_1 22 fun c224 =>
 (ldA w189 a36 22 fun c225 =>
 ((c225).size=22 ∧
 nw w189 ⟨(spl [.int .u8 0,.int .u8 0,.int .u8 0,.int .u8 0,.int .u8 0,.int .u8 0,.int .u8 0,.int .u8 0,.int .u8 0,.int .u8 0,.int .u8 0,.int .u8 0,.int .u8 0,.int .u8 0,.int .u8 0,.int .u8 0,.int .u8 0,.int .u8 0,.int .u8 0,.int .u8 0,.int .u32 0,.int .i64 0] 0 c225)⟩ 42 fun a226 w227 =>
 (c224).size=22 ∧
 nw w227 ⟨(spl [.int .u8 0,.int .u8 0,.int .u8 0,.int .u8 0,.int .u8 0,.int .u8 0,.int .u8 0,.int .u8 0,.int .u8 0,.int .u8 0,.int .u8 0,.int .u8 0,.int .u8 0,.int .u8 0,.int .u8 0,.int .u8 0,.int .u8 0,.int .u8 0,.int .u8 0,.int .u8 0,.int .u32 0,.int .i64 0] 0 c224)⟩ 42 fun a228 w229 =>
 ((⟨[.string r42,.slice (some a226) 1 1]⟩:Array Value)).size=2 ∧
 ((⟨[.string r190,.slice (some a228) 1 1]⟩:Array Value)).size=2 ∧
 nw w229 ⟨(spl (spl [.string ({ data:=#[] }),.slice none 0 0,.string ({ data:=#[] }),.slice none 0 0] 0 (⟨[.string r42,.slice (some a226) 1 1]⟩:Array Value)) 2 (⟨[.string r190,.slice (some a228) 1 1]⟩:Array Value))⟩ 46 fun a230 w231 =>
 qyb 9 [.slice (some a230) 2 2] w231 fun r234 r235 w233 =>
 qg.j2 r234 r235 Q w233)∧(
 (c224).size=22 ∧
 nw w189 ⟨(spl [.int .u8 0,.int .u8 0,.int .u8 0,.int .u8 0,.int .u8 0,.int .u8 0,.int .u8 0,.int .u8 0,.int .u8 0,.int .u8 0,.int .u8 0,.int .u8 0,.int .u8 0,.int .u8 0,.int .u8 0,.int .u8 0,.int .u8 0,.int .u8 0,.int .u8 0,.int .u8 0,.int .u32 0,.int .i64 0] 0 c224)⟩ 42 fun a236 w237 =>
 (c225).size=22 ∧
 nw w237 ⟨(spl [.int .u8 0,.int .u8 0,.int .u8 0,.int .u8 0,.int .u8 0,.int .u8 0,.int .u8 0,.int .u8 0,.int .u8 0,.int .u8 0,.int .u8 0,.int .u8 0,.int .u8 0,.int .u8 0,.int .u8 0,.int .u8 0,.int .u8 0,.int .u8 0,.int .u8 0,.int .u8 0,.int .u32 0,.int .i64 0] 0 c225)⟩ 42 fun a238 w239 =>
 ((⟨[.string r42,.slice (some a238) 1 1]⟩:Array Value)).size=2 ∧
 ((⟨[.string r190,.slice (some a236) 1 1]⟩:Array Value)).size=2 ∧
 nw w239 ⟨(spl (spl [.string ({ data:=#[] }),.slice none 0 0,.string ({ data:=#[] }),.slice none 0 0] 0 (⟨[.string r42,.slice (some a238) 1 1]⟩:Array Value)) 2 (⟨[.string r190,.slice (some a236) 1 1]⟩:Array Value))⟩ 46 fun a240 w241 =>
 qyb 9 [.slice (some a240) 2 2] w241 fun r244 r245 w243 =>
 qg.j2 r244 r245 Q w243))∧(
 (c224).size=22 ∧
 nw w189 ⟨(spl [.int .u8 0,.int .u8 0,.int .u8 0,.int .u8 0,.int .u8 0,.int .u8 0,.int .u8 0,.int .u8 0,.int .u8 0,.int .u8 0,.int .u8 0,.int .u8 0,.int .u8 0,.int .u8 0,.int .u8 0,.int .u8 0,.int .u8 0,.int .u8 0,.int .u8 0,.int .u8 0,.int .u32 0,.int .i64 0] 0 c224)⟩ 42 fun a246 w247 =>
 ldA w247 a36 22 fun c248 =>
 (c248).size=22 ∧
 nw w247 ⟨(spl [.int .u8 0,.int .u8 0,.int .u8 0,.int .u8 0,.int .u8 0,.int .u8 0,.int .u8 0,.int .u8 0,.int .u8 0,.int .u8 0,.int .u8 0,.int .u8 0,.int .u8 0,.int .u8 0,.int .u8 0,.int .u8 0,.int .u8 0,.int .u8 0,.int .u8 0,.int .u8 0,.int .u32 0,.int .i64 0] 0 c248)⟩ 42 fun a249 w250 =>
 ((⟨[.string r42,.slice (some a249) 1 1]⟩:Array Value)).size=2 ∧
 ((⟨[.string r190,.slice (some a246) 1 1]⟩:Array Value)).size=2 ∧
 nw w250 ⟨(spl (spl [.string ({ data:=#[] }),.slice none 0 0,.string ({ data:=#[] }),.slice none 0 0] 0 (⟨[.string r42,.slice (some a249) 1 1]⟩:Array Value)) 2 (⟨[.string r190,.slice (some a246) 1 1]⟩:Array Value))⟩ 46 fun a251 w252 =>
 qyb 9 [.slice (some a251) 2 2] w252 fun r255 r256 w254 =>
 qg.j2 r255 r256 Q w254)))∧(
 ldA w41 i_1 22 fun c257 =>
 (ldA w41 a36 22 fun c258 =>
 ((c258).size=22 ∧
 nw w41 ⟨(spl [.int .u8 0,.int .u8 0,.int .u8 0,.int .u8 0,.int .u8 0,.int .u8 0,.int .u8 0,.int .u8 0,.int .u8 0,.int .u8 0,.int .u8 0,.int .u8 0,.int .u8 0,.int .u8 0,.int .u8 0,.int .u8 0,.int .u8 0,.int .u8 0,.int .u8 0,.int .u8 0,.int .u32 0,.int .i64 0] 0 c258)⟩ 42 fun a259 w260 =>
 (Calls Tryz.prog 10 ⟨[.int .u8 1]⟩ w260 fun e261 w262 =>
 ∃ r263:ByteArray,e261=.returned (.string r263) ∧
 (c257).size=22 ∧
 nw w262 ⟨(spl [.int .u8 0,.int .u8 0,.int .u8 0,.int .u8 0,.int .u8 0,.int .u8 0,.int .u8 0,.int .u8 0,.int .u8 0,.int .u8 0,.int .u8 0,.int .u8 0,.int .u8 0,.int .u8 0,.int .u8 0,.int .u8 0,.int .u8 0,.int .u8 0,.int .u8 0,.int .u8 0,.int .u32 0,.int .i64 0] 0 c257)⟩ 42 fun a264 w265 =>
 ((⟨[.string r42,.slice (some a259) 1 1]⟩:Array Value)).size=2 ∧
 ((⟨[.string r263,.slice (some a264) 1 1]⟩:Array Value)).size=2 ∧
 nw w265 ⟨(spl (spl [.string ({ data:=#[] }),.slice none 0 0,.string ({ data:=#[] }),.slice none 0 0] 0 (⟨[.string r42,.slice (some a259) 1 1]⟩:Array Value)) 2 (⟨[.string r263,.slice (some a264) 1 1]⟩:Array Value))⟩ 46 fun a266 w267 =>
 qyb 9 [.slice (some a266) 2 2] w267 fun r270 r271 w269 =>
 qg.j2 r270 r271 Q w269)∧(
 (c257).size=22 ∧
 nw w260 ⟨(spl [.int .u8 0,.int .u8 0,.int .u8 0,.int .u8 0,.int .u8 0,.int .u8 0,.int .u8 0,.int .u8 0,.int .u8 0,.int .u8 0,.int .u8 0,.int .u8 0,.int .u8 0,.int .u8 0,.int .u8 0,.int .u8 0,.int .u8 0,.int .u8 0,.int .u8 0,.int .u8 0,.int .u32 0,.int .i64 0] 0 c257)⟩ 42 fun a272 w273 =>
 Calls Tryz.prog 10 ⟨[.int .u8 1]⟩ w273 fun e274 w275 =>
 ∃ r276:ByteArray,e274=.returned (.string r276) ∧
 ((⟨[.string r42,.slice (some a259) 1 1]⟩:Array Value)).size=2 ∧
 ((⟨[.string r276,.slice (some a272) 1 1]⟩:Array Value)).size=2 ∧
 nw w275 ⟨(spl (spl [.string ({ data:=#[] }),.slice none 0 0,.string ({ data:=#[] }),.slice none 0 0] 0 (⟨[.string r42,.slice (some a259) 1 1]⟩:Array Value)) 2 (⟨[.string r276,.slice (some a272) 1 1]⟩:Array Value))⟩ 46 fun a277 w278 =>
 qyb 9 [.slice (some a277) 2 2] w278 fun r281 r282 w280 =>
 qg.j2 r281 r282 Q w280))∧(
 Calls Tryz.prog 10 ⟨[.int .u8 1]⟩ w41 fun e283 w284 =>
 ∃ r285:ByteArray,e283=.returned (.string r285) ∧
 ((c258).size=22 ∧
 nw w284 ⟨(spl [.int .u8 0,.int .u8 0,.int .u8 0,.int .u8 0,.int .u8 0,.int .u8 0,.int .u8 0,.int .u8 0,.int .u8 0,.int .u8 0,.int .u8 0,.int .u8 0,.int .u8 0,.int .u8 0,.int .u8 0,.int .u8 0,.int .u8 0,.int .u8 0,.int .u8 0,.int .u8 0,.int .u32 0,.int .i64 0] 0 c258)⟩ 42 fun a286 w287 =>
 (c257).size=22 ∧
 nw w287 ⟨(spl [.int .u8 0,.int .u8 0,.int .u8 0,.int .u8 0,.int .u8 0,.int .u8 0,.int .u8 0,.int .u8 0,.int .u8 0,.int .u8 0,.int .u8 0,.int .u8 0,.int .u8 0,.int .u8 0,.int .u8 0,.int .u8 0,.int .u8 0,.int .u8 0,.int .u8 0,.int .u8 0,.int .u32 0,.int .i64 0] 0 c257)⟩ 42 fun a288 w289 =>
 ((⟨[.string r42,.slice (some a286) 1 1]⟩:Array Value)).size=2 ∧
 ((⟨[.string r285,.slice (some a288) 1 1]⟩:Array Value)).size=2 ∧
 nw w289 ⟨(spl (spl [.string ({ data:=#[] }),.slice none 0 0,.string ({ data:=#[] }),.slice none 0 0] 0 (⟨[.string r42,.slice (some a286) 1 1]⟩:Array Value)) 2 (⟨[.string r285,.slice (some a288) 1 1]⟩:Array Value))⟩ 46 fun a290 w291 =>
 qyb 9 [.slice (some a290) 2 2] w291 fun r294 r295 w293 =>
 qg.j2 r294 r295 Q w293)∧(
 (c257).size=22 ∧
 nw w284 ⟨(spl [.int .u8 0,.int .u8 0,.int .u8 0,.int .u8 0,.int .u8 0,.int .u8 0,.int .u8 0,.int .u8 0,.int .u8 0,.int .u8 0,.int .u8 0,.int .u8 0,.int .u8 0,.int .u8 0,.int .u8 0,.int .u8 0,.int .u8 0,.int .u8 0,.int .u8 0,.int .u8 0,.int .u32 0,.int .i64 0] 0 c257)⟩ 42 fun a296 w297 =>
 (c258).size=22 ∧
 nw w297 ⟨(spl [.int .u8 0,.int .u8 0,.int .u8 0,.int .u8 0,.int .u8 0,.int .u8 0,.int .u8 0,.int .u8 0,.int .u8 0,.int .u8 0,.int .u8 0,.int .u8 0,.int .u8 0,.int .u8 0,.int .u8 0,.int .u8 0,.int .u8 0,.int .u8 0,.int .u8 0,.int .u8 0,.int .u32 0,.int .i64 0] 0 c258)⟩ 42 fun a298 w299 =>
 ((⟨[.string r42,.slice (some a298) 1 1]⟩:Array Value)).size=2 ∧
 ((⟨[.string r285,.slice (some a296) 1 1]⟩:Array Value)).size=2 ∧
 nw w299 ⟨(spl (spl [.string ({ data:=#[] }),.slice none 0 0,.string ({ data:=#[] }),.slice none 0 0] 0 (⟨[.string r42,.slice (some a298) 1 1]⟩:Array Value)) 2 (⟨[.string r285,.slice (some a296) 1 1]⟩:Array Value))⟩ 46 fun a300 w301 =>
 qyb 9 [.slice (some a300) 2 2] w301 fun r304 r305 w303 =>
 qg.j2 r304 r305 Q w303))∧(
 (c257).size=22 ∧
 nw w41 ⟨(spl [.int .u8 0,.int .u8 0,.int .u8 0,.int .u8 0,.int .u8 0,.int .u8 0,.int .u8 0,.int .u8 0,.int .u8 0,.int .u8 0,.int .u8 0,.int .u8 0,.int .u8 0,.int .u8 0,.int .u8 0,.int .u8 0,.int .u8 0,.int .u8 0,.int .u8 0,.int .u8 0,.int .u32 0,.int .i64 0] 0 c257)⟩ 42 fun a306 w307 =>
 ((c258).size=22 ∧
 nw w307 ⟨(spl [.int .u8 0,.int .u8 0,.int .u8 0,.int .u8 0,.int .u8 0,.int .u8 0,.int .u8 0,.int .u8 0,.int .u8 0,.int .u8 0,.int .u8 0,.int .u8 0,.int .u8 0,.int .u8 0,.int .u8 0,.int .u8 0,.int .u8 0,.int .u8 0,.int .u8 0,.int .u8 0,.int .u32 0,.int .i64 0] 0 c258)⟩ 42 fun a308 w309 =>
 Calls Tryz.prog 10 ⟨[.int .u8 1]⟩ w309 fun e310 w311 =>
 ∃ r312:ByteArray,e310=.returned (.string r312) ∧
 ((⟨[.string r42,.slice (some a308) 1 1]⟩:Array Value)).size=2 ∧
 ((⟨[.string r312,.slice (some a306) 1 1]⟩:Array Value)).size=2 ∧
 nw w311 ⟨(spl (spl [.string ({ data:=#[] }),.slice none 0 0,.string ({ data:=#[] }),.slice none 0 0] 0 (⟨[.string r42,.slice (some a308) 1 1]⟩:Array Value)) 2 (⟨[.string r312,.slice (some a306) 1 1]⟩:Array Value))⟩ 46 fun a313 w314 =>
 qyb 9 [.slice (some a313) 2 2] w314 fun r317 r318 w316 =>
 qg.j2 r317 r318 Q w316)∧(
 Calls Tryz.prog 10 ⟨[.int .u8 1]⟩ w307 fun e319 w320 =>
 ∃ r321:ByteArray,e319=.returned (.string r321) ∧
 (c258).size=22 ∧
 nw w320 ⟨(spl [.int .u8 0,.int .u8 0,.int .u8 0,.int .u8 0,.int .u8 0,.int .u8 0,.int .u8 0,.int .u8 0,.int .u8 0,.int .u8 0,.int .u8 0,.int .u8 0,.int .u8 0,.int .u8 0,.int .u8 0,.int .u8 0,.int .u8 0,.int .u8 0,.int .u8 0,.int .u8 0,.int .u32 0,.int .i64 0] 0 c258)⟩ 42 fun a322 w323 =>
 ((⟨[.string r42,.slice (some a322) 1 1]⟩:Array Value)).size=2 ∧
 ((⟨[.string r321,.slice (some a306) 1 1]⟩:Array Value)).size=2 ∧
 nw w323 ⟨(spl (spl [.string ({ data:=#[] }),.slice none 0 0,.string ({ data:=#[] }),.slice none 0 0] 0 (⟨[.string r42,.slice (some a322) 1 1]⟩:Array Value)) 2 (⟨[.string r321,.slice (some a306) 1 1]⟩:Array Value))⟩ 46 fun a324 w325 =>
 qyb 9 [.slice (some a324) 2 2] w325 fun r328 r329 w327 =>
 qg.j2 r328 r329 Q w327)))∧(
 Calls Tryz.prog 10 ⟨[.int .u8 1]⟩ w41 fun e330 w331 =>
 ∃ r332:ByteArray,e330=.returned (.string r332) ∧
 (ldA w331 a36 22 fun c333 =>
 ((c333).size=22 ∧
 nw w331 ⟨(spl [.int .u8 0,.int .u8 0,.int .u8 0,.int .u8 0,.int .u8 0,.int .u8 0,.int .u8 0,.int .u8 0,.int .u8 0,.int .u8 0,.int .u8 0,.int .u8 0,.int .u8 0,.int .u8 0,.int .u8 0,.int .u8 0,.int .u8 0,.int .u8 0,.int .u8 0,.int .u8 0,.int .u32 0,.int .i64 0] 0 c333)⟩ 42 fun a334 w335 =>
 (c257).size=22 ∧
 nw w335 ⟨(spl [.int .u8 0,.int .u8 0,.int .u8 0,.int .u8 0,.int .u8 0,.int .u8 0,.int .u8 0,.int .u8 0,.int .u8 0,.int .u8 0,.int .u8 0,.int .u8 0,.int .u8 0,.int .u8 0,.int .u8 0,.int .u8 0,.int .u8 0,.int .u8 0,.int .u8 0,.int .u8 0,.int .u32 0,.int .i64 0] 0 c257)⟩ 42 fun a336 w337 =>
 ((⟨[.string r42,.slice (some a334) 1 1]⟩:Array Value)).size=2 ∧
 ((⟨[.string r332,.slice (some a336) 1 1]⟩:Array Value)).size=2 ∧
 nw w337 ⟨(spl (spl [.string ({ data:=#[] }),.slice none 0 0,.string ({ data:=#[] }),.slice none 0 0] 0 (⟨[.string r42,.slice (some a334) 1 1]⟩:Array Value)) 2 (⟨[.string r332,.slice (some a336) 1 1]⟩:Array Value))⟩ 46 fun a338 w339 =>
 qyb 9 [.slice (some a338) 2 2] w339 fun r342 r343 w341 =>
 qg.j2 r342 r343 Q w341)∧(
 (c257).size=22 ∧
 nw w331 ⟨(spl [.int .u8 0,.int .u8 0,.int .u8 0,.int .u8 0,.int .u8 0,.int .u8 0,.int .u8 0,.int .u8 0,.int .u8 0,.int .u8 0,.int .u8 0,.int .u8 0,.int .u8 0,.int .u8 0,.int .u8 0,.int .u8 0,.int .u8 0,.int .u8 0,.int .u8 0,.int .u8 0,.int .u32 0,.int .i64 0] 0 c257)⟩ 42 fun a344 w345 =>
 (c333).size=22 ∧
 nw w345 ⟨(spl [.int .u8 0,.int .u8 0,.int .u8 0,.int .u8 0,.int .u8 0,.int .u8 0,.int .u8 0,.int .u8 0,.int .u8 0,.int .u8 0,.int .u8 0,.int .u8 0,.int .u8 0,.int .u8 0,.int .u8 0,.int .u8 0,.int .u8 0,.int .u8 0,.int .u8 0,.int .u8 0,.int .u32 0,.int .i64 0] 0 c333)⟩ 42 fun a346 w347 =>
 ((⟨[.string r42,.slice (some a346) 1 1]⟩:Array Value)).size=2 ∧
 ((⟨[.string r332,.slice (some a344) 1 1]⟩:Array Value)).size=2 ∧
 nw w347 ⟨(spl (spl [.string ({ data:=#[] }),.slice none 0 0,.string ({ data:=#[] }),.slice none 0 0] 0 (⟨[.string r42,.slice (some a346) 1 1]⟩:Array Value)) 2 (⟨[.string r332,.slice (some a344) 1 1]⟩:Array Value))⟩ 46 fun a348 w349 =>
 qyb 9 [.slice (some a348) 2 2] w349 fun r352 r353 w351 =>
 qg.j2 r352 r353 Q w351))∧(
 (c257).size=22 ∧
 nw w331 ⟨(spl [.int .u8 0,.int .u8 0,.int .u8 0,.int .u8 0,.int .u8 0,.int .u8 0,.int .u8 0,.int .u8 0,.int .u8 0,.int .u8 0,.int .u8 0,.int .u8 0,.int .u8 0,.int .u8 0,.int .u8 0,.int .u8 0,.int .u8 0,.int .u8 0,.int .u8 0,.int .u8 0,.int .u32 0,.int .i64 0] 0 c257)⟩ 42 fun a354 w355 =>
 ldA w355 a36 22 fun c356 =>
 (c356).size=22 ∧
 nw w355 ⟨(spl [.int .u8 0,.int .u8 0,.int .u8 0,.int .u8 0,.int .u8 0,.int .u8 0,.int .u8 0,.int .u8 0,.int .u8 0,.int .u8 0,.int .u8 0,.int .u8 0,.int .u8 0,.int .u8 0,.int .u8 0,.int .u8 0,.int .u8 0,.int .u8 0,.int .u8 0,.int .u8 0,.int .u32 0,.int .i64 0] 0 c356)⟩ 42 fun a357 w358 =>
 ((⟨[.string r42,.slice (some a357) 1 1]⟩:Array Value)).size=2 ∧
 ((⟨[.string r332,.slice (some a354) 1 1]⟩:Array Value)).size=2 ∧
 nw w358 ⟨(spl (spl [.string ({ data:=#[] }),.slice none 0 0,.string ({ data:=#[] }),.slice none 0 0] 0 (⟨[.string r42,.slice (some a357) 1 1]⟩:Array Value)) 2 (⟨[.string r332,.slice (some a354) 1 1]⟩:Array Value))⟩ 46 fun a359 w360 =>
 qyb 9 [.slice (some a359) 2 2] w360 fun r363 r364 w362 =>
 qg.j2 r363 r364 Q w362))∧(
 (c257).size=22 ∧
 nw w41 ⟨(spl [.int .u8 0,.int .u8 0,.int .u8 0,.int .u8 0,.int .u8 0,.int .u8 0,.int .u8 0,.int .u8 0,.int .u8 0,.int .u8 0,.int .u8 0,.int .u8 0,.int .u8 0,.int .u8 0,.int .u8 0,.int .u8 0,.int .u8 0,.int .u8 0,.int .u8 0,.int .u8 0,.int .u32 0,.int .i64 0] 0 c257)⟩ 42 fun a365 w366 =>
 (ldA w366 a36 22 fun c367 =>
 ((c367).size=22 ∧
 nw w366 ⟨(spl [.int .u8 0,.int .u8 0,.int .u8 0,.int .u8 0,.int .u8 0,.int .u8 0,.int .u8 0,.int .u8 0,.int .u8 0,.int .u8 0,.int .u8 0,.int .u8 0,.int .u8 0,.int .u8 0,.int .u8 0,.int .u8 0,.int .u8 0,.int .u8 0,.int .u8 0,.int .u8 0,.int .u32 0,.int .i64 0] 0 c367)⟩ 42 fun a368 w369 =>
 Calls Tryz.prog 10 ⟨[.int .u8 1]⟩ w369 fun e370 w371 =>
 ∃ r372:ByteArray,e370=.returned (.string r372) ∧
 ((⟨[.string r42,.slice (some a368) 1 1]⟩:Array Value)).size=2 ∧
 ((⟨[.string r372,.slice (some a365) 1 1]⟩:Array Value)).size=2 ∧
 nw w371 ⟨(spl (spl [.string ({ data:=#[] }),.slice none 0 0,.string ({ data:=#[] }),.slice none 0 0] 0 (⟨[.string r42,.slice (some a368) 1 1]⟩:Array Value)) 2 (⟨[.string r372,.slice (some a365) 1 1]⟩:Array Value))⟩ 46 fun a373 w374 =>
 qyb 9 [.slice (some a373) 2 2] w374 fun r377 r378 w376 =>
 qg.j2 r377 r378 Q w376)∧(
 Calls Tryz.prog 10 ⟨[.int .u8 1]⟩ w366 fun e379 w380 =>
 ∃ r381:ByteArray,e379=.returned (.string r381) ∧
 (c367).size=22 ∧
 nw w380 ⟨(spl [.int .u8 0,.int .u8 0,.int .u8 0,.int .u8 0,.int .u8 0,.int .u8 0,.int .u8 0,.int .u8 0,.int .u8 0,.int .u8 0,.int .u8 0,.int .u8 0,.int .u8 0,.int .u8 0,.int .u8 0,.int .u8 0,.int .u8 0,.int .u8 0,.int .u8 0,.int .u8 0,.int .u32 0,.int .i64 0] 0 c367)⟩ 42 fun a382 w383 =>
 ((⟨[.string r42,.slice (some a382) 1 1]⟩:Array Value)).size=2 ∧
 ((⟨[.string r381,.slice (some a365) 1 1]⟩:Array Value)).size=2 ∧
 nw w383 ⟨(spl (spl [.string ({ data:=#[] }),.slice none 0 0,.string ({ data:=#[] }),.slice none 0 0] 0 (⟨[.string r42,.slice (some a382) 1 1]⟩:Array Value)) 2 (⟨[.string r381,.slice (some a365) 1 1]⟩:Array Value))⟩ 46 fun a384 w385 =>
 qyb 9 [.slice (some a384) 2 2] w385 fun r388 r389 w387 =>
 qg.j2 r388 r389 Q w387))∧(
 Calls Tryz.prog 10 ⟨[.int .u8 1]⟩ w366 fun e390 w391 =>
 ∃ r392:ByteArray,e390=.returned (.string r392) ∧
 ldA w391 a36 22 fun c393 =>
 (c393).size=22 ∧
 nw w391 ⟨(spl [.int .u8 0,.int .u8 0,.int .u8 0,.int .u8 0,.int .u8 0,.int .u8 0,.int .u8 0,.int .u8 0,.int .u8 0,.int .u8 0,.int .u8 0,.int .u8 0,.int .u8 0,.int .u8 0,.int .u8 0,.int .u8 0,.int .u8 0,.int .u8 0,.int .u8 0,.int .u8 0,.int .u32 0,.int .i64 0] 0 c393)⟩ 42 fun a394 w395 =>
 ((⟨[.string r42,.slice (some a394) 1 1]⟩:Array Value)).size=2 ∧
 ((⟨[.string r392,.slice (some a365) 1 1]⟩:Array Value)).size=2 ∧
 nw w395 ⟨(spl (spl [.string ({ data:=#[] }),.slice none 0 0,.string ({ data:=#[] }),.slice none 0 0] 0 (⟨[.string r42,.slice (some a394) 1 1]⟩:Array Value)) 2 (⟨[.string r392,.slice (some a365) 1 1]⟩:Array Value))⟩ 46 fun a396 w397 =>
 qyb 9 [.slice (some a396) 2 2] w397 fun r400 r401 w399 =>
 qg.j2 r400 r401 Q w399))))∧(
 ldA w39 a36 22 fun c402 =>
 (Calls Tryz.prog 10 ⟨[.int .u8 2]⟩ w39 fun e403 w404 =>
 ∃ r405:ByteArray,e403=.returned (.string r405) ∧
 ((c402).size=22 ∧
 nw w404 ⟨(spl [.int .u8 0,.int .u8 0,.int .u8 0,.int .u8 0,.int .u8 0,.int .u8 0,.int .u8 0,.int .u8 0,.int .u8 0,.int .u8 0,.int .u8 0,.int .u8 0,.int .u8 0,.int .u8 0,.int .u8 0,.int .u8 0,.int .u8 0,.int .u8 0,.int .u8 0,.int .u8 0,.int .u32 0,.int .i64 0] 0 c402)⟩ 42 fun a406 w407 =>
 (Calls Tryz.prog 10 ⟨[.int .u8 1]⟩ w407 fun e408 w409 =>
 ∃ r410:ByteArray,e408=.returned (.string r410) ∧
 ldA w409 i_1 22 fun c411 =>
 (c411).size=22 ∧
 nw w409 ⟨(spl [.int .u8 0,.int .u8 0,.int .u8 0,.int .u8 0,.int .u8 0,.int .u8 0,.int .u8 0,.int .u8 0,.int .u8 0,.int .u8 0,.int .u8 0,.int .u8 0,.int .u8 0,.int .u8 0,.int .u8 0,.int .u8 0,.int .u8 0,.int .u8 0,.int .u8 0,.int .u8 0,.int .u32 0,.int .i64 0] 0 c411)⟩ 42 fun a412 w413 =>
 ((⟨[.string r405,.slice (some a406) 1 1]⟩:Array Value)).size=2 ∧
 ((⟨[.string r410,.slice (some a412) 1 1]⟩:Array Value)).size=2 ∧
 nw w413 ⟨(spl (spl [.string ({ data:=#[] }),.slice none 0 0,.string ({ data:=#[] }),.slice none 0 0] 0 (⟨[.string r405,.slice (some a406) 1 1]⟩:Array Value)) 2 (⟨[.string r410,.slice (some a412) 1 1]⟩:Array Value))⟩ 46 fun a414 w415 =>
 qyb 9 [.slice (some a414) 2 2] w415 fun r418 r419 w417 =>
 qg.j2 r418 r419 Q w417)∧(
 ldA w407 i_1 22 fun c420 =>
 (Calls Tryz.prog 10 ⟨[.int .u8 1]⟩ w407 fun e421 w422 =>
 ∃ r423:ByteArray,e421=.returned (.string r423) ∧
 (c420).size=22 ∧
 nw w422 ⟨(spl [.int .u8 0,.int .u8 0,.int .u8 0,.int .u8 0,.int .u8 0,.int .u8 0,.int .u8 0,.int .u8 0,.int .u8 0,.int .u8 0,.int .u8 0,.int .u8 0,.int .u8 0,.int .u8 0,.int .u8 0,.int .u8 0,.int .u8 0,.int .u8 0,.int .u8 0,.int .u8 0,.int .u32 0,.int .i64 0] 0 c420)⟩ 42 fun a424 w425 =>
 ((⟨[.string r405,.slice (some a406) 1 1]⟩:Array Value)).size=2 ∧
 ((⟨[.string r423,.slice (some a424) 1 1]⟩:Array Value)).size=2 ∧
 nw w425 ⟨(spl (spl [.string ({ data:=#[] }),.slice none 0 0,.string ({ data:=#[] }),.slice none 0 0] 0 (⟨[.string r405,.slice (some a406) 1 1]⟩:Array Value)) 2 (⟨[.string r423,.slice (some a424) 1 1]⟩:Array Value))⟩ 46 fun a426 w427 =>
 qyb 9 [.slice (some a426) 2 2] w427 fun r430 r431 w429 =>
 qg.j2 r430 r431 Q w429)∧(
 (c420).size=22 ∧
 nw w407 ⟨(spl [.int .u8 0,.int .u8 0,.int .u8 0,.int .u8 0,.int .u8 0,.int .u8 0,.int .u8 0,.int .u8 0,.int .u8 0,.int .u8 0,.int .u8 0,.int .u8 0,.int .u8 0,.int .u8 0,.int .u8 0,.int .u8 0,.int .u8 0,.int .u8 0,.int .u8 0,.int .u8 0,.int .u32 0,.int .i64 0] 0 c420)⟩ 42 fun a432 w433 =>
 Calls Tryz.prog 10 ⟨[.int .u8 1]⟩ w433 fun e434 w435 =>
 ∃ r436:ByteArray,e434=.returned (.string r436) ∧
 ((⟨[.string r405,.slice (some a406) 1 1]⟩:Array Value)).size=2 ∧
 ((⟨[.string r436,.slice (some a432) 1 1]⟩:Array Value)).size=2 ∧
 nw w435 ⟨(spl (spl [.string ({ data:=#[] }),.slice none 0 0,.string ({ data:=#[] }),.slice none 0 0] 0 (⟨[.string r405,.slice (some a406) 1 1]⟩:Array Value)) 2 (⟨[.string r436,.slice (some a432) 1 1]⟩:Array Value))⟩ 46 fun a437 w438 =>
 qyb 9 [.slice (some a437) 2 2] w438 fun r441 r442 w440 =>
 qg.j2 r441 r442 Q w440)))∧(
 Calls Tryz.prog 10 ⟨[.int .u8 1]⟩ w404 fun e443 w444 =>
 ∃ r445:ByteArray,e443=.returned (.string r445) ∧
 ((c402).size=22 ∧
 nw w444 ⟨(spl [.int .u8 0,.int .u8 0,.int .u8 0,.int .u8 0,.int .u8 0,.int .u8 0,.int .u8 0,.int .u8 0,.int .u8 0,.int .u8 0,.int .u8 0,.int .u8 0,.int .u8 0,.int .u8 0,.int .u8 0,.int .u8 0,.int .u8 0,.int .u8 0,.int .u8 0,.int .u8 0,.int .u32 0,.int .i64 0] 0 c402)⟩ 42 fun a446 w447 =>
 ldA w447 i_1 22 fun c448 =>
 (c448).size=22 ∧
 nw w447 ⟨(spl [.int .u8 0,.int .u8 0,.int .u8 0,.int .u8 0,.int .u8 0,.int .u8 0,.int .u8 0,.int .u8 0,.int .u8 0,.int .u8 0,.int .u8 0,.int .u8 0,.int .u8 0,.int .u8 0,.int .u8 0,.int .u8 0,.int .u8 0,.int .u8 0,.int .u8 0,.int .u8 0,.int .u32 0,.int .i64 0] 0 c448)⟩ 42 fun a449 w450 =>
 ((⟨[.string r405,.slice (some a446) 1 1]⟩:Array Value)).size=2 ∧
 ((⟨[.string r445,.slice (some a449) 1 1]⟩:Array Value)).size=2 ∧
 nw w450 ⟨(spl (spl [.string ({ data:=#[] }),.slice none 0 0,.string ({ data:=#[] }),.slice none 0 0] 0 (⟨[.string r405,.slice (some a446) 1 1]⟩:Array Value)) 2 (⟨[.string r445,.slice (some a449) 1 1]⟩:Array Value))⟩ 46 fun a451 w452 =>
 qyb 9 [.slice (some a451) 2 2] w452 fun r455 r456 w454 =>
 qg.j2 r455 r456 Q w454)∧(
 ldA w444 i_1 22 fun c457 =>
 ((c402).size=22 ∧
 nw w444 ⟨(spl [.int .u8 0,.int .u8 0,.int .u8 0,.int .u8 0,.int .u8 0,.int .u8 0,.int .u8 0,.int .u8 0,.int .u8 0,.int .u8 0,.int .u8 0,.int .u8 0,.int .u8 0,.int .u8 0,.int .u8 0,.int .u8 0,.int .u8 0,.int .u8 0,.int .u8 0,.int .u8 0,.int .u32 0,.int .i64 0] 0 c402)⟩ 42 fun a458 w459 =>
 (c457).size=22 ∧
 nw w459 ⟨(spl [.int .u8 0,.int .u8 0,.int .u8 0,.int .u8 0,.int .u8 0,.int .u8 0,.int .u8 0,.int .u8 0,.int .u8 0,.int .u8 0,.int .u8 0,.int .u8 0,.int .u8 0,.int .u8 0,.int .u8 0,.int .u8 0,.int .u8 0,.int .u8 0,.int .u8 0,.int .u8 0,.int .u32 0,.int .i64 0] 0 c457)⟩ 42 fun a460 w461 =>
 ((⟨[.string r405,.slice (some a458) 1 1]⟩:Array Value)).size=2 ∧
 ((⟨[.string r445,.slice (some a460) 1 1]⟩:Array Value)).size=2 ∧
 nw w461 ⟨(spl (spl [.string ({ data:=#[] }),.slice none 0 0,.string ({ data:=#[] }),.slice none 0 0] 0 (⟨[.string r405,.slice (some a458) 1 1]⟩:Array Value)) 2 (⟨[.string r445,.slice (some a460) 1 1]⟩:Array Value))⟩ 46 fun a462 w463 =>
 qyb 9 [.slice (some a462) 2 2] w463 fun r466 r467 w465 =>
 qg.j2 r466 r467 Q w465)∧(
 (c457).size=22 ∧
 nw w444 ⟨(spl [.int .u8 0,.int .u8 0,.int .u8 0,.int .u8 0,.int .u8 0,.int .u8 0,.int .u8 0,.int .u8 0,.int .u8 0,.int .u8 0,.int .u8 0,.int .u8 0,.int .u8 0,.int .u8 0,.int .u8 0,.int .u8 0,.int .u8 0,.int .u8 0,.int .u8 0,.int .u8 0,.int .u32 0,.int .i64 0] 0 c457)⟩ 42 fun a468 w469 =>
 (c402).size=22 ∧
 nw w469 ⟨(spl [.int .u8 0,.int .u8 0,.int .u8 0,.int .u8 0,.int .u8 0,.int .u8 0,.int .u8 0,.int .u8 0,.int .u8 0,.int .u8 0,.int .u8 0,.int .u8 0,.int .u8 0,.int .u8 0,.int .u8 0,.int .u8 0,.int .u8 0,.int .u8 0,.int .u8 0,.int .u8 0,.int .u32 0,.int .i64 0] 0 c402)⟩ 42 fun a470 w471 =>
 ((⟨[.string r405,.slice (some a470) 1 1]⟩:Array Value)).size=2 ∧
 ((⟨[.string r445,.slice (some a468) 1 1]⟩:Array Value)).size=2 ∧
 nw w471 ⟨(spl (spl [.string ({ data:=#[] }),.slice none 0 0,.string ({ data:=#[] }),.slice none 0 0] 0 (⟨[.string r405,.slice (some a470) 1 1]⟩:Array Value)) 2 (⟨[.string r445,.slice (some a468) 1 1]⟩:Array Value))⟩ 46 fun a472 w473 =>
 qyb 9 [.slice (some a472) 2 2] w473 fun r476 r477 w475 =>
 qg.j2 r476 r477 Q w475)))∧(
 ldA w404 i_1 22 fun c478 =>
 ((c402).size=22 ∧
 nw w404 ⟨(spl [.int .u8 0,.int .u8 0,.int .u8 0,.int .u8 0,.int .u8 0,.int .u8 0,.int .u8 0,.int .u8 0,.int .u8 0,.int .u8 0,.int .u8 0,.int .u8 0,.int .u8 0,.int .u8 0,.int .u8 0,.int .u8 0,.int .u8 0,.int .u8 0,.int .u8 0,.int .u8 0,.int .u32 0,.int .i64 0] 0 c402)⟩ 42 fun a479 w480 =>
 (Calls Tryz.prog 10 ⟨[.int .u8 1]⟩ w480 fun e481 w482 =>
 ∃ r483:ByteArray,e481=.returned (.string r483) ∧
 (c478).size=22 ∧
 nw w482 ⟨(spl [.int .u8 0,.int .u8 0,.int .u8 0,.int .u8 0,.int .u8 0,.int .u8 0,.int .u8 0,.int .u8 0,.int .u8 0,.int .u8 0,.int .u8 0,.int .u8 0,.int .u8 0,.int .u8 0,.int .u8 0,.int .u8 0,.int .u8 0,.int .u8 0,.int .u8 0,.int .u8 0,.int .u32 0,.int .i64 0] 0 c478)⟩ 42 fun a484 w485 =>
 ((⟨[.string r405,.slice (some a479) 1 1]⟩:Array Value)).size=2 ∧
 ((⟨[.string r483,.slice (some a484) 1 1]⟩:Array Value)).size=2 ∧
 nw w485 ⟨(spl (spl [.string ({ data:=#[] }),.slice none 0 0,.string ({ data:=#[] }),.slice none 0 0] 0 (⟨[.string r405,.slice (some a479) 1 1]⟩:Array Value)) 2 (⟨[.string r483,.slice (some a484) 1 1]⟩:Array Value))⟩ 46 fun a486 w487 =>
 qyb 9 [.slice (some a486) 2 2] w487 fun r490 r491 w489 =>
 qg.j2 r490 r491 Q w489)∧(
 (c478).size=22 ∧
 nw w480 ⟨(spl [.int .u8 0,.int .u8 0,.int .u8 0,.int .u8 0,.int .u8 0,.int .u8 0,.int .u8 0,.int .u8 0,.int .u8 0,.int .u8 0,.int .u8 0,.int .u8 0,.int .u8 0,.int .u8 0,.int .u8 0,.int .u8 0,.int .u8 0,.int .u8 0,.int .u8 0,.int .u8 0,.int .u32 0,.int .i64 0] 0 c478)⟩ 42 fun a492 w493 =>
 Calls Tryz.prog 10 ⟨[.int .u8 1]⟩ w493 fun e494 w495 =>
 ∃ r496:ByteArray,e494=.returned (.string r496) ∧
 ((⟨[.string r405,.slice (some a479) 1 1]⟩:Array Value)).size=2 ∧
 ((⟨[.string r496,.slice (some a492) 1 1]⟩:Array Value)).size=2 ∧
 nw w495 ⟨(spl (spl [.string ({ data:=#[] }),.slice none 0 0,.string ({ data:=#[] }),.slice none 0 0] 0 (⟨[.string r405,.slice (some a479) 1 1]⟩:Array Value)) 2 (⟨[.string r496,.slice (some a492) 1 1]⟩:Array Value))⟩ 46 fun a497 w498 =>
 qyb 9 [.slice (some a497) 2 2] w498 fun r501 r502 w500 =>
 qg.j2 r501 r502 Q w500))∧(
 Calls Tryz.prog 10 ⟨[.int .u8 1]⟩ w404 fun e503 w504 =>
 ∃ r505:ByteArray,e503=.returned (.string r505) ∧
 ((c402).size=22 ∧
 nw w504 ⟨(spl [.int .u8 0,.int .u8 0,.int .u8 0,.int .u8 0,.int .u8 0,.int .u8 0,.int .u8 0,.int .u8 0,.int .u8 0,.int .u8 0,.int .u8 0,.int .u8 0,.int .u8 0,.int .u8 0,.int .u8 0,.int .u8 0,.int .u8 0,.int .u8 0,.int .u8 0,.int .u8 0,.int .u32 0,.int .i64 0] 0 c402)⟩ 42 fun a506 w507 =>
 (c478).size=22 ∧
 nw w507 ⟨(spl [.int .u8 0,.int .u8 0,.int .u8 0,.int .u8 0,.int .u8 0,.int .u8 0,.int .u8 0,.int .u8 0,.int .u8 0,.int .u8 0,.int .u8 0,.int .u8 0,.int .u8 0,.int .u8 0,.int .u8 0,.int .u8 0,.int .u8 0,.int .u8 0,.int .u8 0,.int .u8 0,.int .u32 0,.int .i64 0] 0 c478)⟩ 42 fun a508 w509 =>
 ((⟨[.string r405,.slice (some a506) 1 1]⟩:Array Value)).size=2 ∧
 ((⟨[.string r505,.slice (some a508) 1 1]⟩:Array Value)).size=2 ∧
 nw w509 ⟨(spl (spl [.string ({ data:=#[] }),.slice none 0 0,.string ({ data:=#[] }),.slice none 0 0] 0 (⟨[.string r405,.slice (some a506) 1 1]⟩:Array Value)) 2 (⟨[.string r505,.slice (some a508) 1 1]⟩:Array Value))⟩ 46 fun a510 w511 =>
 qyb 9 [.slice (some a510) 2 2] w511 fun r514 r515 w513 =>
 qg.j2 r514 r515 Q w513)∧(
 (c478).size=22 ∧
 nw w504 ⟨(spl [.int .u8 0,.int .u8 0,.int .u8 0,.int .u8 0,.int .u8 0,.int .u8 0,.int .u8 0,.int .u8 0,.int .u8 0,.int .u8 0,.int .u8 0,.int .u8 0,.int .u8 0,.int .u8 0,.int .u8 0,.int .u8 0,.int .u8 0,.int .u8 0,.int .u8 0,.int .u8 0,.int .u32 0,.int .i64 0] 0 c478)⟩ 42 fun a516 w517 =>
 (c402).size=22 ∧
 nw w517 ⟨(spl [.int .u8 0,.int .u8 0,.int .u8 0,.int .u8 0,.int .u8 0,.int .u8 0,.int .u8 0,.int .u8 0,.int .u8 0,.int .u8 0,.int .u8 0,.int .u8 0,.int .u8 0,.int .u8 0,.int .u8 0,.int .u8 0,.int .u8 0,.int .u8 0,.int .u8 0,.int .u8 0,.int .u32 0,.int .i64 0] 0 c402)⟩ 42 fun a518 w519 =>
 ((⟨[.string r405,.slice (some a518) 1 1]⟩:Array Value)).size=2 ∧
 ((⟨[.string r505,.slice (some a516) 1 1]⟩:Array Value)).size=2 ∧
 nw w519 ⟨(spl (spl [.string ({ data:=#[] }),.slice none 0 0,.string ({ data:=#[] }),.slice none 0 0] 0 (⟨[.string r405,.slice (some a518) 1 1]⟩:Array Value)) 2 (⟨[.string r505,.slice (some a516) 1 1]⟩:Array Value))⟩ 46 fun a520 w521 =>
 qyb 9 [.slice (some a520) 2 2] w521 fun r524 r525 w523 =>
 qg.j2 r524 r525 Q w523))∧(
 (c478).size=22 ∧
 nw w404 ⟨(spl [.int .u8 0,.int .u8 0,.int .u8 0,.int .u8 0,.int .u8 0,.int .u8 0,.int .u8 0,.int .u8 0,.int .u8 0,.int .u8 0,.int .u8 0,.int .u8 0,.int .u8 0,.int .u8 0,.int .u8 0,.int .u8 0,.int .u8 0,.int .u8 0,.int .u8 0,.int .u8 0,.int .u32 0,.int .i64 0] 0 c478)⟩ 42 fun a526 w527 =>
 ((c402).size=22 ∧
 nw w527 ⟨(spl [.int .u8 0,.int .u8 0,.int .u8 0,.int .u8 0,.int .u8 0,.int .u8 0,.int .u8 0,.int .u8 0,.int .u8 0,.int .u8 0,.int .u8 0,.int .u8 0,.int .u8 0,.int .u8 0,.int .u8 0,.int .u8 0,.int .u8 0,.int .u8 0,.int .u8 0,.int .u8 0,.int .u32 0,.int .i64 0] 0 c402)⟩ 42 fun a528 w529 =>
 Calls Tryz.prog 10 ⟨[.int .u8 1]⟩ w529 fun e530 w531 =>
 ∃ r532:ByteArray,e530=.returned (.string r532) ∧
 ((⟨[.string r405,.slice (some a528) 1 1]⟩:Array Value)).size=2 ∧
 ((⟨[.string r532,.slice (some a526) 1 1]⟩:Array Value)).size=2 ∧
 nw w531 ⟨(spl (spl [.string ({ data:=#[] }),.slice none 0 0,.string ({ data:=#[] }),.slice none 0 0] 0 (⟨[.string r405,.slice (some a528) 1 1]⟩:Array Value)) 2 (⟨[.string r532,.slice (some a526) 1 1]⟩:Array Value))⟩ 46 fun a533 w534 =>
 qyb 9 [.slice (some a533) 2 2] w534 fun r537 r538 w536 =>
 qg.j2 r537 r538 Q w536)∧(
 Calls Tryz.prog 10 ⟨[.int .u8 1]⟩ w527 fun e539 w540 =>
 ∃ r541:ByteArray,e539=.returned (.string r541) ∧
 (c402).size=22 ∧
 nw w540 ⟨(spl [.int .u8 0,.int .u8 0,.int .u8 0,.int .u8 0,.int .u8 0,.int .u8 0,.int .u8 0,.int .u8 0,.int .u8 0,.int .u8 0,.int .u8 0,.int .u8 0,.int .u8 0,.int .u8 0,.int .u8 0,.int .u8 0,.int .u8 0,.int .u8 0,.int .u8 0,.int .u8 0,.int .u32 0,.int .i64 0] 0 c402)⟩ 42 fun a542 w543 =>
 ((⟨[.string r405,.slice (some a542) 1 1]⟩:Array Value)).size=2 ∧
 ((⟨[.string r541,.slice (some a526) 1 1]⟩:Array Value)).size=2 ∧
 nw w543 ⟨(spl (spl [.string ({ data:=#[] }),.slice none 0 0,.string ({ data:=#[] }),.slice none 0 0] 0 (⟨[.string r405,.slice (some a542) 1 1]⟩:Array Value)) 2 (⟨[.string r541,.slice (some a526) 1 1]⟩:Array Value))⟩ 46 fun a544 w545 =>
 qyb 9 [.slice (some a544) 2 2] w545 fun r548 r549 w547 =>
 qg.j2 r548 r549 Q w547))))∧(
 (c402).size=22 ∧
 nw w39 ⟨(spl [.int .u8 0,.int .u8 0,.int .u8 0,.int .u8 0,.int .u8 0,.int .u8 0,.int .u8 0,.int .u8 0,.int .u8 0,.int .u8 0,.int .u8 0,.int .u8 0,.int .u8 0,.int .u8 0,.int .u8 0,.int .u8 0,.int .u8 0,.int .u8 0,.int .u8 0,.int .u8 0,.int .u32 0,.int .i64 0] 0 c402)⟩ 42 fun a550 w551 =>
 (Calls Tryz.prog 10 ⟨[.int .u8 2]⟩ w551 fun e552 w553 =>
 ∃ r554:ByteArray,e552=.returned (.string r554) ∧
 (Calls Tryz.prog 10 ⟨[.int .u8 1]⟩ w553 fun e555 w556 =>
 ∃ r557:ByteArray,e555=.returned (.string r557) ∧
 ldA w556 i_1 22 fun c558 =>
 (c558).size=22 ∧
 nw w556 ⟨(spl [.int .u8 0,.int .u8 0,.int .u8 0,.int .u8 0,.int .u8 0,.int .u8 0,.int .u8 0,.int .u8 0,.int .u8 0,.int .u8 0,.int .u8 0,.int .u8 0,.int .u8 0,.int .u8 0,.int .u8 0,.int .u8 0,.int .u8 0,.int .u8 0,.int .u8 0,.int .u8 0,.int .u32 0,.int .i64 0] 0 c558)⟩ 42 fun a559 w560 =>
 ((⟨[.string r554,.slice (some a550) 1 1]⟩:Array Value)).size=2 ∧
 ((⟨[.string r557,.slice (some a559) 1 1]⟩:Array Value)).size=2 ∧
 nw w560 ⟨(spl (spl [.string ({ data:=#[] }),.slice none 0 0,.string ({ data:=#[] }),.slice none 0 0] 0 (⟨[.string r554,.slice (some a550) 1 1]⟩:Array Value)) 2 (⟨[.string r557,.slice (some a559) 1 1]⟩:Array Value))⟩ 46 fun a561 w562 =>
 qyb 9 [.slice (some a561) 2 2] w562 fun r565 r566 w564 =>
 qg.j2 r565 r566 Q w564)∧(
 ldA w553 i_1 22 fun c567 =>
 (Calls Tryz.prog 10 ⟨[.int .u8 1]⟩ w553 fun e568 w569 =>
 ∃ r570:ByteArray,e568=.returned (.string r570) ∧
 (c567).size=22 ∧
 nw w569 ⟨(spl [.int .u8 0,.int .u8 0,.int .u8 0,.int .u8 0,.int .u8 0,.int .u8 0,.int .u8 0,.int .u8 0,.int .u8 0,.int .u8 0,.int .u8 0,.int .u8 0,.int .u8 0,.int .u8 0,.int .u8 0,.int .u8 0,.int .u8 0,.int .u8 0,.int .u8 0,.int .u8 0,.int .u32 0,.int .i64 0] 0 c567)⟩ 42 fun a571 w572 =>
 ((⟨[.string r554,.slice (some a550) 1 1]⟩:Array Value)).size=2 ∧
 ((⟨[.string r570,.slice (some a571) 1 1]⟩:Array Value)).size=2 ∧
 nw w572 ⟨(spl (spl [.string ({ data:=#[] }),.slice none 0 0,.string ({ data:=#[] }),.slice none 0 0] 0 (⟨[.string r554,.slice (some a550) 1 1]⟩:Array Value)) 2 (⟨[.string r570,.slice (some a571) 1 1]⟩:Array Value))⟩ 46 fun a573 w574 =>
 qyb 9 [.slice (some a573) 2 2] w574 fun r577 r578 w576 =>
 qg.j2 r577 r578 Q w576)∧(
 (c567).size=22 ∧
 nw w553 ⟨(spl [.int .u8 0,.int .u8 0,.int .u8 0,.int .u8 0,.int .u8 0,.int .u8 0,.int .u8 0,.int .u8 0,.int .u8 0,.int .u8 0,.int .u8 0,.int .u8 0,.int .u8 0,.int .u8 0,.int .u8 0,.int .u8 0,.int .u8 0,.int .u8 0,.int .u8 0,.int .u8 0,.int .u32 0,.int .i64 0] 0 c567)⟩ 42 fun a579 w580 =>
 Calls Tryz.prog 10 ⟨[.int .u8 1]⟩ w580 fun e581 w582 =>
 ∃ r583:ByteArray,e581=.returned (.string r583) ∧
 ((⟨[.string r554,.slice (some a550) 1 1]⟩:Array Value)).size=2 ∧
 ((⟨[.string r583,.slice (some a579) 1 1]⟩:Array Value)).size=2 ∧
 nw w582 ⟨(spl (spl [.string ({ data:=#[] }),.slice none 0 0,.string ({ data:=#[] }),.slice none 0 0] 0 (⟨[.string r554,.slice (some a550) 1 1]⟩:Array Value)) 2 (⟨[.string r583,.slice (some a579) 1 1]⟩:Array Value))⟩ 46 fun a584 w585 =>
 qyb 9 [.slice (some a584) 2 2] w585 fun r588 r589 w587 =>
 qg.j2 r588 r589 Q w587)))∧(
 ldA w551 i_1 22 fun c590 =>
 (Calls Tryz.prog 10 ⟨[.int .u8 2]⟩ w551 fun e591 w592 =>
 ∃ r593:ByteArray,e591=.returned (.string r593) ∧
 (Calls Tryz.prog 10 ⟨[.int .u8 1]⟩ w592 fun e594 w595 =>
 ∃ r596:ByteArray,e594=.returned (.string r596) ∧
 (c590).size=22 ∧
 nw w595 ⟨(spl [.int .u8 0,.int .u8 0,.int .u8 0,.int .u8 0,.int .u8 0,.int .u8 0,.int .u8 0,.int .u8 0,.int .u8 0,.int .u8 0,.int .u8 0,.int .u8 0,.int .u8 0,.int .u8 0,.int .u8 0,.int .u8 0,.int .u8 0,.int .u8 0,.int .u8 0,.int .u8 0,.int .u32 0,.int .i64 0] 0 c590)⟩ 42 fun a597 w598 =>
 ((⟨[.string r593,.slice (some a550) 1 1]⟩:Array Value)).size=2 ∧
 ((⟨[.string r596,.slice (some a597) 1 1]⟩:Array Value)).size=2 ∧
 nw w598 ⟨(spl (spl [.string ({ data:=#[] }),.slice none 0 0,.string ({ data:=#[] }),.slice none 0 0] 0 (⟨[.string r593,.slice (some a550) 1 1]⟩:Array Value)) 2 (⟨[.string r596,.slice (some a597) 1 1]⟩:Array Value))⟩ 46 fun a599 w600 =>
 qyb 9 [.slice (some a599) 2 2] w600 fun r603 r604 w602 =>
 qg.j2 r603 r604 Q w602)∧(
 (c590).size=22 ∧
 nw w592 ⟨(spl [.int .u8 0,.int .u8 0,.int .u8 0,.int .u8 0,.int .u8 0,.int .u8 0,.int .u8 0,.int .u8 0,.int .u8 0,.int .u8 0,.int .u8 0,.int .u8 0,.int .u8 0,.int .u8 0,.int .u8 0,.int .u8 0,.int .u8 0,.int .u8 0,.int .u8 0,.int .u8 0,.int .u32 0,.int .i64 0] 0 c590)⟩ 42 fun a605 w606 =>
 Calls Tryz.prog 10 ⟨[.int .u8 1]⟩ w606 fun e607 w608 =>
 ∃ r609:ByteArray,e607=.returned (.string r609) ∧
 ((⟨[.string r593,.slice (some a550) 1 1]⟩:Array Value)).size=2 ∧
 ((⟨[.string r609,.slice (some a605) 1 1]⟩:Array Value)).size=2 ∧
 nw w608 ⟨(spl (spl [.string ({ data:=#[] }),.slice none 0 0,.string ({ data:=#[] }),.slice none 0 0] 0 (⟨[.string r593,.slice (some a550) 1 1]⟩:Array Value)) 2 (⟨[.string r609,.slice (some a605) 1 1]⟩:Array Value))⟩ 46 fun a610 w611 =>
 qyb 9 [.slice (some a610) 2 2] w611 fun r614 r615 w613 =>
 qg.j2 r614 r615 Q w613))∧(
 (c590).size=22 ∧
 nw w551 ⟨(spl [.int .u8 0,.int .u8 0,.int .u8 0,.int .u8 0,.int .u8 0,.int .u8 0,.int .u8 0,.int .u8 0,.int .u8 0,.int .u8 0,.int .u8 0,.int .u8 0,.int .u8 0,.int .u8 0,.int .u8 0,.int .u8 0,.int .u8 0,.int .u8 0,.int .u8 0,.int .u8 0,.int .u32 0,.int .i64 0] 0 c590)⟩ 42 fun a616 w617 =>
 Calls Tryz.prog 10 ⟨[.int .u8 2]⟩ w617 fun e618 w619 =>
 ∃ r620:ByteArray,e618=.returned (.string r620) ∧
 Calls Tryz.prog 10 ⟨[.int .u8 1]⟩ w619 fun e621 w622 =>
 ∃ r623:ByteArray,e621=.returned (.string r623) ∧
 ((⟨[.string r620,.slice (some a550) 1 1]⟩:Array Value)).size=2 ∧
 ((⟨[.string r623,.slice (some a616) 1 1]⟩:Array Value)).size=2 ∧
 nw w622 ⟨(spl (spl [.string ({ data:=#[] }),.slice none 0 0,.string ({ data:=#[] }),.slice none 0 0] 0 (⟨[.string r620,.slice (some a550) 1 1]⟩:Array Value)) 2 (⟨[.string r623,.slice (some a616) 1 1]⟩:Array Value))⟩ 46 fun a624 w625 =>
 qyb 9 [.slice (some a624) 2 2] w625 fun r628 r629 w627 =>
 qg.j2 r628 r629 Q w627)))∧(
 ldA w39 i_1 22 fun c630 =>
 (Calls Tryz.prog 10 ⟨[.int .u8 2]⟩ w39 fun e631 w632 =>
 ∃ r633:ByteArray,e631=.returned (.string r633) ∧
 ((c402).size=22 ∧
 nw w632 ⟨(spl [.int .u8 0,.int .u8 0,.int .u8 0,.int .u8 0,.int .u8 0,.int .u8 0,.int .u8 0,.int .u8 0,.int .u8 0,.int .u8 0,.int .u8 0,.int .u8 0,.int .u8 0,.int .u8 0,.int .u8 0,.int .u8 0,.int .u8 0,.int .u8 0,.int .u8 0,.int .u8 0,.int .u32 0,.int .i64 0] 0 c402)⟩ 42 fun a634 w635 =>
 (Calls Tryz.prog 10 ⟨[.int .u8 1]⟩ w635 fun e636 w637 =>
 ∃ r638:ByteArray,e636=.returned (.string r638) ∧
 (c630).size=22 ∧
 nw w637 ⟨(spl [.int .u8 0,.int .u8 0,.int .u8 0,.int .u8 0,.int .u8 0,.int .u8 0,.int .u8 0,.int .u8 0,.int .u8 0,.int .u8 0,.int .u8 0,.int .u8 0,.int .u8 0,.int .u8 0,.int .u8 0,.int .u8 0,.int .u8 0,.int .u8 0,.int .u8 0,.int .u8 0,.int .u32 0,.int .i64 0] 0 c630)⟩ 42 fun a639 w640 =>
 ((⟨[.string r633,.slice (some a634) 1 1]⟩:Array Value)).size=2 ∧
 ((⟨[.string r638,.slice (some a639) 1 1]⟩:Array Value)).size=2 ∧
 nw w640 ⟨(spl (spl [.string ({ data:=#[] }),.slice none 0 0,.string ({ data:=#[] }),.slice none 0 0] 0 (⟨[.string r633,.slice (some a634) 1 1]⟩:Array Value)) 2 (⟨[.string r638,.slice (some a639) 1 1]⟩:Array Value))⟩ 46 fun a641 w642 =>
 qyb 9 [.slice (some a641) 2 2] w642 fun r645 r646 w644 =>
 qg.j2 r645 r646 Q w644)∧(
 (c630).size=22 ∧
 nw w635 ⟨(spl [.int .u8 0,.int .u8 0,.int .u8 0,.int .u8 0,.int .u8 0,.int .u8 0,.int .u8 0,.int .u8 0,.int .u8 0,.int .u8 0,.int .u8 0,.int .u8 0,.int .u8 0,.int .u8 0,.int .u8 0,.int .u8 0,.int .u8 0,.int .u8 0,.int .u8 0,.int .u8 0,.int .u32 0,.int .i64 0] 0 c630)⟩ 42 fun a647 w648 =>
 Calls Tryz.prog 10 ⟨[.int .u8 1]⟩ w648 fun e649 w650 =>
 ∃ r651:ByteArray,e649=.returned (.string r651) ∧
 ((⟨[.string r633,.slice (some a634) 1 1]⟩:Array Value)).size=2 ∧
 ((⟨[.string r651,.slice (some a647) 1 1]⟩:Array Value)).size=2 ∧
 nw w650 ⟨(spl (spl [.string ({ data:=#[] }),.slice none 0 0,.string ({ data:=#[] }),.slice none 0 0] 0 (⟨[.string r633,.slice (some a634) 1 1]⟩:Array Value)) 2 (⟨[.string r651,.slice (some a647) 1 1]⟩:Array Value))⟩ 46 fun a652 w653 =>
 qyb 9 [.slice (some a652) 2 2] w653 fun r656 r657 w655 =>
 qg.j2 r656 r657 Q w655))∧(
 Calls Tryz.prog 10 ⟨[.int .u8 1]⟩ w632 fun e658 w659 =>
 ∃ r660:ByteArray,e658=.returned (.string r660) ∧
 ((c402).size=22 ∧
 nw w659 ⟨(spl [.int .u8 0,.int .u8 0,.int .u8 0,.int .u8 0,.int .u8 0,.int .u8 0,.int .u8 0,.int .u8 0,.int .u8 0,.int .u8 0,.int .u8 0,.int .u8 0,.int .u8 0,.int .u8 0,.int .u8 0,.int .u8 0,.int .u8 0,.int .u8 0,.int .u8 0,.int .u8 0,.int .u32 0,.int .i64 0] 0 c402)⟩ 42 fun a661 w662 =>
 (c630).size=22 ∧
 nw w662 ⟨(spl [.int .u8 0,.int .u8 0,.int .u8 0,.int .u8 0,.int .u8 0,.int .u8 0,.int .u8 0,.int .u8 0,.int .u8 0,.int .u8 0,.int .u8 0,.int .u8 0,.int .u8 0,.int .u8 0,.int .u8 0,.int .u8 0,.int .u8 0,.int .u8 0,.int .u8 0,.int .u8 0,.int .u32 0,.int .i64 0] 0 c630)⟩ 42 fun a663 w664 =>
 ((⟨[.string r633,.slice (some a661) 1 1]⟩:Array Value)).size=2 ∧
 ((⟨[.string r660,.slice (some a663) 1 1]⟩:Array Value)).size=2 ∧
 nw w664 ⟨(spl (spl [.string ({ data:=#[] }),.slice none 0 0,.string ({ data:=#[] }),.slice none 0 0] 0 (⟨[.string r633,.slice (some a661) 1 1]⟩:Array Value)) 2 (⟨[.string r660,.slice (some a663) 1 1]⟩:Array Value))⟩ 46 fun a665 w666 =>
 qyb 9 [.slice (some a665) 2 2] w666 fun r669 r670 w668 =>
 qg.j2 r669 r670 Q w668)∧(
 (c630).size=22 ∧
 nw w659 ⟨(spl [.int .u8 0,.int .u8 0,.int .u8 0,.int .u8 0,.int .u8 0,.int .u8 0,.int .u8 0,.int .u8 0,.int .u8 0,.int .u8 0,.int .u8 0,.int .u8 0,.int .u8 0,.int .u8 0,.int .u8 0,.int .u8 0,.int .u8 0,.int .u8 0,.int .u8 0,.int .u8 0,.int .u32 0,.int .i64 0] 0 c630)⟩ 42 fun a671 w672 =>
 (c402).size=22 ∧
 nw w672 ⟨(spl [.int .u8 0,.int .u8 0,.int .u8 0,.int .u8 0,.int .u8 0,.int .u8 0,.int .u8 0,.int .u8 0,.int .u8 0,.int .u8 0,.int .u8 0,.int .u8 0,.int .u8 0,.int .u8 0,.int .u8 0,.int .u8 0,.int .u8 0,.int .u8 0,.int .u8 0,.int .u8 0,.int .u32 0,.int .i64 0] 0 c402)⟩ 42 fun a673 w674 =>
 ((⟨[.string r633,.slice (some a673) 1 1]⟩:Array Value)).size=2 ∧
 ((⟨[.string r660,.slice (some a671) 1 1]⟩:Array Value)).size=2 ∧
 nw w674 ⟨(spl (spl [.string ({ data:=#[] }),.slice none 0 0,.string ({ data:=#[] }),.slice none 0 0] 0 (⟨[.string r633,.slice (some a673) 1 1]⟩:Array Value)) 2 (⟨[.string r660,.slice (some a671) 1 1]⟩:Array Value))⟩ 46 fun a675 w676 =>
 qyb 9 [.slice (some a675) 2 2] w676 fun r679 r680 w678 =>
 qg.j2 r679 r680 Q w678))∧(
 (c630).size=22 ∧
 nw w632 ⟨(spl [.int .u8 0,.int .u8 0,.int .u8 0,.int .u8 0,.int .u8 0,.int .u8 0,.int .u8 0,.int .u8 0,.int .u8 0,.int .u8 0,.int .u8 0,.int .u8 0,.int .u8 0,.int .u8 0,.int .u8 0,.int .u8 0,.int .u8 0,.int .u8 0,.int .u8 0,.int .u8 0,.int .u32 0,.int .i64 0] 0 c630)⟩ 42 fun a681 w682 =>
 ((c402).size=22 ∧
 nw w682 ⟨(spl [.int .u8 0,.int .u8 0,.int .u8 0,.int .u8 0,.int .u8 0,.int .u8 0,.int .u8 0,.int .u8 0,.int .u8 0,.int .u8 0,.int .u8 0,.int .u8 0,.int .u8 0,.int .u8 0,.int .u8 0,.int .u8 0,.int .u8 0,.int .u8 0,.int .u8 0,.int .u8 0,.int .u32 0,.int .i64 0] 0 c402)⟩ 42 fun a683 w684 =>
 Calls Tryz.prog 10 ⟨[.int .u8 1]⟩ w684 fun e685 w686 =>
 ∃ r687:ByteArray,e685=.returned (.string r687) ∧
 ((⟨[.string r633,.slice (some a683) 1 1]⟩:Array Value)).size=2 ∧
 ((⟨[.string r687,.slice (some a681) 1 1]⟩:Array Value)).size=2 ∧
 nw w686 ⟨(spl (spl [.string ({ data:=#[] }),.slice none 0 0,.string ({ data:=#[] }),.slice none 0 0] 0 (⟨[.string r633,.slice (some a683) 1 1]⟩:Array Value)) 2 (⟨[.string r687,.slice (some a681) 1 1]⟩:Array Value))⟩ 46 fun a688 w689 =>
 qyb 9 [.slice (some a688) 2 2] w689 fun r692 r693 w691 =>
 qg.j2 r692 r693 Q w691)∧(
 Calls Tryz.prog 10 ⟨[.int .u8 1]⟩ w682 fun e694 w695 =>
 ∃ r696:ByteArray,e694=.returned (.string r696) ∧
 (c402).size=22 ∧
 nw w695 ⟨(spl [.int .u8 0,.int .u8 0,.int .u8 0,.int .u8 0,.int .u8 0,.int .u8 0,.int .u8 0,.int .u8 0,.int .u8 0,.int .u8 0,.int .u8 0,.int .u8 0,.int .u8 0,.int .u8 0,.int .u8 0,.int .u8 0,.int .u8 0,.int .u8 0,.int .u8 0,.int .u8 0,.int .u32 0,.int .i64 0] 0 c402)⟩ 42 fun a697 w698 =>
 ((⟨[.string r633,.slice (some a697) 1 1]⟩:Array Value)).size=2 ∧
 ((⟨[.string r696,.slice (some a681) 1 1]⟩:Array Value)).size=2 ∧
 nw w698 ⟨(spl (spl [.string ({ data:=#[] }),.slice none 0 0,.string ({ data:=#[] }),.slice none 0 0] 0 (⟨[.string r633,.slice (some a697) 1 1]⟩:Array Value)) 2 (⟨[.string r696,.slice (some a681) 1 1]⟩:Array Value))⟩ 46 fun a699 w700 =>
 qyb 9 [.slice (some a699) 2 2] w700 fun r703 r704 w702 =>
 qg.j2 r703 r704 Q w702)))∧(
 (c402).size=22 ∧
 nw w39 ⟨(spl [.int .u8 0,.int .u8 0,.int .u8 0,.int .u8 0,.int .u8 0,.int .u8 0,.int .u8 0,.int .u8 0,.int .u8 0,.int .u8 0,.int .u8 0,.int .u8 0,.int .u8 0,.int .u8 0,.int .u8 0,.int .u8 0,.int .u8 0,.int .u8 0,.int .u8 0,.int .u8 0,.int .u32 0,.int .i64 0] 0 c402)⟩ 42 fun a705 w706 =>
 (Calls Tryz.prog 10 ⟨[.int .u8 2]⟩ w706 fun e707 w708 =>
 ∃ r709:ByteArray,e707=.returned (.string r709) ∧
 (Calls Tryz.prog 10 ⟨[.int .u8 1]⟩ w708 fun e710 w711 =>
 ∃ r712:ByteArray,e710=.returned (.string r712) ∧
 (c630).size=22 ∧
 nw w711 ⟨(spl [.int .u8 0,.int .u8 0,.int .u8 0,.int .u8 0,.int .u8 0,.int .u8 0,.int .u8 0,.int .u8 0,.int .u8 0,.int .u8 0,.int .u8 0,.int .u8 0,.int .u8 0,.int .u8 0,.int .u8 0,.int .u8 0,.int .u8 0,.int .u8 0,.int .u8 0,.int .u8 0,.int .u32 0,.int .i64 0] 0 c630)⟩ 42 fun a713 w714 =>
 ((⟨[.string r709,.slice (some a705) 1 1]⟩:Array Value)).size=2 ∧
 ((⟨[.string r712,.slice (some a713) 1 1]⟩:Array Value)).size=2 ∧
 nw w714 ⟨(spl (spl [.string ({ data:=#[] }),.slice none 0 0,.string ({ data:=#[] }),.slice none 0 0] 0 (⟨[.string r709,.slice (some a705) 1 1]⟩:Array Value)) 2 (⟨[.string r712,.slice (some a713) 1 1]⟩:Array Value))⟩ 46 fun a715 w716 =>
 qyb 9 [.slice (some a715) 2 2] w716 fun r719 r720 w718 =>
 qg.j2 r719 r720 Q w718)∧(
 (c630).size=22 ∧
 nw w708 ⟨(spl [.int .u8 0,.int .u8 0,.int .u8 0,.int .u8 0,.int .u8 0,.int .u8 0,.int .u8 0,.int .u8 0,.int .u8 0,.int .u8 0,.int .u8 0,.int .u8 0,.int .u8 0,.int .u8 0,.int .u8 0,.int .u8 0,.int .u8 0,.int .u8 0,.int .u8 0,.int .u8 0,.int .u32 0,.int .i64 0] 0 c630)⟩ 42 fun a721 w722 =>
 Calls Tryz.prog 10 ⟨[.int .u8 1]⟩ w722 fun e723 w724 =>
 ∃ r725:ByteArray,e723=.returned (.string r725) ∧
 ((⟨[.string r709,.slice (some a705) 1 1]⟩:Array Value)).size=2 ∧
 ((⟨[.string r725,.slice (some a721) 1 1]⟩:Array Value)).size=2 ∧
 nw w724 ⟨(spl (spl [.string ({ data:=#[] }),.slice none 0 0,.string ({ data:=#[] }),.slice none 0 0] 0 (⟨[.string r709,.slice (some a705) 1 1]⟩:Array Value)) 2 (⟨[.string r725,.slice (some a721) 1 1]⟩:Array Value))⟩ 46 fun a726 w727 =>
 qyb 9 [.slice (some a726) 2 2] w727 fun r730 r731 w729 =>
 qg.j2 r730 r731 Q w729))∧(
 (c630).size=22 ∧
 nw w706 ⟨(spl [.int .u8 0,.int .u8 0,.int .u8 0,.int .u8 0,.int .u8 0,.int .u8 0,.int .u8 0,.int .u8 0,.int .u8 0,.int .u8 0,.int .u8 0,.int .u8 0,.int .u8 0,.int .u8 0,.int .u8 0,.int .u8 0,.int .u8 0,.int .u8 0,.int .u8 0,.int .u8 0,.int .u32 0,.int .i64 0] 0 c630)⟩ 42 fun a732 w733 =>
 Calls Tryz.prog 10 ⟨[.int .u8 2]⟩ w733 fun e734 w735 =>
 ∃ r736:ByteArray,e734=.returned (.string r736) ∧
 Calls Tryz.prog 10 ⟨[.int .u8 1]⟩ w735 fun e737 w738 =>
 ∃ r739:ByteArray,e737=.returned (.string r739) ∧
 ((⟨[.string r736,.slice (some a705) 1 1]⟩:Array Value)).size=2 ∧
 ((⟨[.string r739,.slice (some a732) 1 1]⟩:Array Value)).size=2 ∧
 nw w738 ⟨(spl (spl [.string ({ data:=#[] }),.slice none 0 0,.string ({ data:=#[] }),.slice none 0 0] 0 (⟨[.string r736,.slice (some a705) 1 1]⟩:Array Value)) 2 (⟨[.string r739,.slice (some a732) 1 1]⟩:Array Value))⟩ 46 fun a740 w741 =>
 qyb 9 [.slice (some a740) 2 2] w741 fun r744 r745 w743 =>
 qg.j2 r744 r745 Q w743))∧(
 (c630).size=22 ∧
 nw w39 ⟨(spl [.int .u8 0,.int .u8 0,.int .u8 0,.int .u8 0,.int .u8 0,.int .u8 0,.int .u8 0,.int .u8 0,.int .u8 0,.int .u8 0,.int .u8 0,.int .u8 0,.int .u8 0,.int .u8 0,.int .u8 0,.int .u8 0,.int .u8 0,.int .u8 0,.int .u8 0,.int .u8 0,.int .u32 0,.int .i64 0] 0 c630)⟩ 42 fun a746 w747 =>
 (Calls Tryz.prog 10 ⟨[.int .u8 2]⟩ w747 fun e748 w749 =>
 ∃ r750:ByteArray,e748=.returned (.string r750) ∧
 ((c402).size=22 ∧
 nw w749 ⟨(spl [.int .u8 0,.int .u8 0,.int .u8 0,.int .u8 0,.int .u8 0,.int .u8 0,.int .u8 0,.int .u8 0,.int .u8 0,.int .u8 0,.int .u8 0,.int .u8 0,.int .u8 0,.int .u8 0,.int .u8 0,.int .u8 0,.int .u8 0,.int .u8 0,.int .u8 0,.int .u8 0,.int .u32 0,.int .i64 0] 0 c402)⟩ 42 fun a751 w752 =>
 Calls Tryz.prog 10 ⟨[.int .u8 1]⟩ w752 fun e753 w754 =>
 ∃ r755:ByteArray,e753=.returned (.string r755) ∧
 ((⟨[.string r750,.slice (some a751) 1 1]⟩:Array Value)).size=2 ∧
 ((⟨[.string r755,.slice (some a746) 1 1]⟩:Array Value)).size=2 ∧
 nw w754 ⟨(spl (spl [.string ({ data:=#[] }),.slice none 0 0,.string ({ data:=#[] }),.slice none 0 0] 0 (⟨[.string r750,.slice (some a751) 1 1]⟩:Array Value)) 2 (⟨[.string r755,.slice (some a746) 1 1]⟩:Array Value))⟩ 46 fun a756 w757 =>
 qyb 9 [.slice (some a756) 2 2] w757 fun r760 r761 w759 =>
 qg.j2 r760 r761 Q w759)∧(
 Calls Tryz.prog 10 ⟨[.int .u8 1]⟩ w749 fun e762 w763 =>
 ∃ r764:ByteArray,e762=.returned (.string r764) ∧
 (c402).size=22 ∧
 nw w763 ⟨(spl [.int .u8 0,.int .u8 0,.int .u8 0,.int .u8 0,.int .u8 0,.int .u8 0,.int .u8 0,.int .u8 0,.int .u8 0,.int .u8 0,.int .u8 0,.int .u8 0,.int .u8 0,.int .u8 0,.int .u8 0,.int .u8 0,.int .u8 0,.int .u8 0,.int .u8 0,.int .u8 0,.int .u32 0,.int .i64 0] 0 c402)⟩ 42 fun a765 w766 =>
 ((⟨[.string r750,.slice (some a765) 1 1]⟩:Array Value)).size=2 ∧
 ((⟨[.string r764,.slice (some a746) 1 1]⟩:Array Value)).size=2 ∧
 nw w766 ⟨(spl (spl [.string ({ data:=#[] }),.slice none 0 0,.string ({ data:=#[] }),.slice none 0 0] 0 (⟨[.string r750,.slice (some a765) 1 1]⟩:Array Value)) 2 (⟨[.string r764,.slice (some a746) 1 1]⟩:Array Value))⟩ 46 fun a767 w768 =>
 qyb 9 [.slice (some a767) 2 2] w768 fun r771 r772 w770 =>
 qg.j2 r771 r772 Q w770))∧(
 (c402).size=22 ∧
 nw w747 ⟨(spl [.int .u8 0,.int .u8 0,.int .u8 0,.int .u8 0,.int .u8 0,.int .u8 0,.int .u8 0,.int .u8 0,.int .u8 0,.int .u8 0,.int .u8 0,.int .u8 0,.int .u8 0,.int .u8 0,.int .u8 0,.int .u8 0,.int .u8 0,.int .u8 0,.int .u8 0,.int .u8 0,.int .u32 0,.int .i64 0] 0 c402)⟩ 42 fun a773 w774 =>
 Calls Tryz.prog 10 ⟨[.int .u8 2]⟩ w774 fun e775 w776 =>
 ∃ r777:ByteArray,e775=.returned (.string r777) ∧
 Calls Tryz.prog 10 ⟨[.int .u8 1]⟩ w776 fun e778 w779 =>
 ∃ r780:ByteArray,e778=.returned (.string r780) ∧
 ((⟨[.string r777,.slice (some a773) 1 1]⟩:Array Value)).size=2 ∧
 ((⟨[.string r780,.slice (some a746) 1 1]⟩:Array Value)).size=2 ∧
 nw w779 ⟨(spl (spl [.string ({ data:=#[] }),.slice none 0 0,.string ({ data:=#[] }),.slice none 0 0] 0 (⟨[.string r777,.slice (some a773) 1 1]⟩:Array Value)) 2 (⟨[.string r780,.slice (some a746) 1 1]⟩:Array Value))⟩ 46 fun a781 w782 =>
 qyb 9 [.slice (some a781) 2 2] w782 fun r785 r786 w784 =>
 qg.j2 r785 r786 Q w784))))∧(
 ldA w39 i_1 22 fun c787 =>
 (Calls Tryz.prog 10 ⟨[.int .u8 2]⟩ w39 fun e788 w789 =>
 ∃ r790:ByteArray,e788=.returned (.string r790) ∧
 (ldA w789 a36 22 fun c791 =>
 ((c791).size=22 ∧
 nw w789 ⟨(spl [.int .u8 0,.int .u8 0,.int .u8 0,.int .u8 0,.int .u8 0,.int .u8 0,.int .u8 0,.int .u8 0,.int .u8 0,.int .u8 0,.int .u8 0,.int .u8 0,.int .u8 0,.int .u8 0,.int .u8 0,.int .u8 0,.int .u8 0,.int .u8 0,.int .u8 0,.int .u8 0,.int .u32 0,.int .i64 0] 0 c791)⟩ 42 fun a792 w793 =>
 (Calls Tryz.prog 10 ⟨[.int .u8 1]⟩ w793 fun e794 w795 =>
 ∃ r796:ByteArray,e794=.returned (.string r796) ∧
 (c787).size=22 ∧
 nw w795 ⟨(spl [.int .u8 0,.int .u8 0,.int .u8 0,.int .u8 0,.int .u8 0,.int .u8 0,.int .u8 0,.int .u8 0,.int .u8 0,.int .u8 0,.int .u8 0,.int .u8 0,.int .u8 0,.int .u8 0,.int .u8 0,.int .u8 0,.int .u8 0,.int .u8 0,.int .u8 0,.int .u8 0,.int .u32 0,.int .i64 0] 0 c787)⟩ 42 fun a797 w798 =>
 ((⟨[.string r790,.slice (some a792) 1 1]⟩:Array Value)).size=2 ∧
 ((⟨[.string r796,.slice (some a797) 1 1]⟩:Array Value)).size=2 ∧
 nw w798 ⟨(spl (spl [.string ({ data:=#[] }),.slice none 0 0,.string ({ data:=#[] }),.slice none 0 0] 0 (⟨[.string r790,.slice (some a792) 1 1]⟩:Array Value)) 2 (⟨[.string r796,.slice (some a797) 1 1]⟩:Array Value))⟩ 46 fun a799 w800 =>
 qyb 9 [.slice (some a799) 2 2] w800 fun r803 r804 w802 =>
 qg.j2 r803 r804 Q w802)∧(
 (c787).size=22 ∧
 nw w793 ⟨(spl [.int .u8 0,.int .u8 0,.int .u8 0,.int .u8 0,.int .u8 0,.int .u8 0,.int .u8 0,.int .u8 0,.int .u8 0,.int .u8 0,.int .u8 0,.int .u8 0,.int .u8 0,.int .u8 0,.int .u8 0,.int .u8 0,.int .u8 0,.int .u8 0,.int .u8 0,.int .u8 0,.int .u32 0,.int .i64 0] 0 c787)⟩ 42 fun a805 w806 =>
 Calls Tryz.prog 10 ⟨[.int .u8 1]⟩ w806 fun e807 w808 =>
 ∃ r809:ByteArray,e807=.returned (.string r809) ∧
 ((⟨[.string r790,.slice (some a792) 1 1]⟩:Array Value)).size=2 ∧
 ((⟨[.string r809,.slice (some a805) 1 1]⟩:Array Value)).size=2 ∧
 nw w808 ⟨(spl (spl [.string ({ data:=#[] }),.slice none 0 0,.string ({ data:=#[] }),.slice none 0 0] 0 (⟨[.string r790,.slice (some a792) 1 1]⟩:Array Value)) 2 (⟨[.string r809,.slice (some a805) 1 1]⟩:Array Value))⟩ 46 fun a810 w811 =>
 qyb 9 [.slice (some a810) 2 2] w811 fun r814 r815 w813 =>
 qg.j2 r814 r815 Q w813))∧(
 Calls Tryz.prog 10 ⟨[.int .u8 1]⟩ w789 fun e816 w817 =>
 ∃ r818:ByteArray,e816=.returned (.string r818) ∧
 ((c791).size=22 ∧
 nw w817 ⟨(spl [.int .u8 0,.int .u8 0,.int .u8 0,.int .u8 0,.int .u8 0,.int .u8 0,.int .u8 0,.int .u8 0,.int .u8 0,.int .u8 0,.int .u8 0,.int .u8 0,.int .u8 0,.int .u8 0,.int .u8 0,.int .u8 0,.int .u8 0,.int .u8 0,.int .u8 0,.int .u8 0,.int .u32 0,.int .i64 0] 0 c791)⟩ 42 fun a819 w820 =>
 (c787).size=22 ∧
 nw w820 ⟨(spl [.int .u8 0,.int .u8 0,.int .u8 0,.int .u8 0,.int .u8 0,.int .u8 0,.int .u8 0,.int .u8 0,.int .u8 0,.int .u8 0,.int .u8 0,.int .u8 0,.int .u8 0,.int .u8 0,.int .u8 0,.int .u8 0,.int .u8 0,.int .u8 0,.int .u8 0,.int .u8 0,.int .u32 0,.int .i64 0] 0 c787)⟩ 42 fun a821 w822 =>
 ((⟨[.string r790,.slice (some a819) 1 1]⟩:Array Value)).size=2 ∧
 ((⟨[.string r818,.slice (some a821) 1 1]⟩:Array Value)).size=2 ∧
 nw w822 ⟨(spl (spl [.string ({ data:=#[] }),.slice none 0 0,.string ({ data:=#[] }),.slice none 0 0] 0 (⟨[.string r790,.slice (some a819) 1 1]⟩:Array Value)) 2 (⟨[.string r818,.slice (some a821) 1 1]⟩:Array Value))⟩ 46 fun a823 w824 =>
 qyb 9 [.slice (some a823) 2 2] w824 fun r827 r828 w826 =>
 qg.j2 r827 r828 Q w826)∧(
 (c787).size=22 ∧
 nw w817 ⟨(spl [.int .u8 0,.int .u8 0,.int .u8 0,.int .u8 0,.int .u8 0,.int .u8 0,.int .u8 0,.int .u8 0,.int .u8 0,.int .u8 0,.int .u8 0,.int .u8 0,.int .u8 0,.int .u8 0,.int .u8 0,.int .u8 0,.int .u8 0,.int .u8 0,.int .u8 0,.int .u8 0,.int .u32 0,.int .i64 0] 0 c787)⟩ 42 fun a829 w830 =>
 (c791).size=22 ∧
 nw w830 ⟨(spl [.int .u8 0,.int .u8 0,.int .u8 0,.int .u8 0,.int .u8 0,.int .u8 0,.int .u8 0,.int .u8 0,.int .u8 0,.int .u8 0,.int .u8 0,.int .u8 0,.int .u8 0,.int .u8 0,.int .u8 0,.int .u8 0,.int .u8 0,.int .u8 0,.int .u8 0,.int .u8 0,.int .u32 0,.int .i64 0] 0 c791)⟩ 42 fun a831 w832 =>
 ((⟨[.string r790,.slice (some a831) 1 1]⟩:Array Value)).size=2 ∧
 ((⟨[.string r818,.slice (some a829) 1 1]⟩:Array Value)).size=2 ∧
 nw w832 ⟨(spl (spl [.string ({ data:=#[] }),.slice none 0 0,.string ({ data:=#[] }),.slice none 0 0] 0 (⟨[.string r790,.slice (some a831) 1 1]⟩:Array Value)) 2 (⟨[.string r818,.slice (some a829) 1 1]⟩:Array Value))⟩ 46 fun a833 w834 =>
 qyb 9 [.slice (some a833) 2 2] w834 fun r837 r838 w836 =>
 qg.j2 r837 r838 Q w836))∧(
 (c787).size=22 ∧
 nw w789 ⟨(spl [.int .u8 0,.int .u8 0,.int .u8 0,.int .u8 0,.int .u8 0,.int .u8 0,.int .u8 0,.int .u8 0,.int .u8 0,.int .u8 0,.int .u8 0,.int .u8 0,.int .u8 0,.int .u8 0,.int .u8 0,.int .u8 0,.int .u8 0,.int .u8 0,.int .u8 0,.int .u8 0,.int .u32 0,.int .i64 0] 0 c787)⟩ 42 fun a839 w840 =>
 ((c791).size=22 ∧
 nw w840 ⟨(spl [.int .u8 0,.int .u8 0,.int .u8 0,.int .u8 0,.int .u8 0,.int .u8 0,.int .u8 0,.int .u8 0,.int .u8 0,.int .u8 0,.int .u8 0,.int .u8 0,.int .u8 0,.int .u8 0,.int .u8 0,.int .u8 0,.int .u8 0,.int .u8 0,.int .u8 0,.int .u8 0,.int .u32 0,.int .i64 0] 0 c791)⟩ 42 fun a841 w842 =>
 Calls Tryz.prog 10 ⟨[.int .u8 1]⟩ w842 fun e843 w844 =>
 ∃ r845:ByteArray,e843=.returned (.string r845) ∧
 ((⟨[.string r790,.slice (some a841) 1 1]⟩:Array Value)).size=2 ∧
 ((⟨[.string r845,.slice (some a839) 1 1]⟩:Array Value)).size=2 ∧
 nw w844 ⟨(spl (spl [.string ({ data:=#[] }),.slice none 0 0,.string ({ data:=#[] }),.slice none 0 0] 0 (⟨[.string r790,.slice (some a841) 1 1]⟩:Array Value)) 2 (⟨[.string r845,.slice (some a839) 1 1]⟩:Array Value))⟩ 46 fun a846 w847 =>
 qyb 9 [.slice (some a846) 2 2] w847 fun r850 r851 w849 =>
 qg.j2 r850 r851 Q w849)∧(
 Calls Tryz.prog 10 ⟨[.int .u8 1]⟩ w840 fun e852 w853 =>
 ∃ r854:ByteArray,e852=.returned (.string r854) ∧
 (c791).size=22 ∧
 nw w853 ⟨(spl [.int .u8 0,.int .u8 0,.int .u8 0,.int .u8 0,.int .u8 0,.int .u8 0,.int .u8 0,.int .u8 0,.int .u8 0,.int .u8 0,.int .u8 0,.int .u8 0,.int .u8 0,.int .u8 0,.int .u8 0,.int .u8 0,.int .u8 0,.int .u8 0,.int .u8 0,.int .u8 0,.int .u32 0,.int .i64 0] 0 c791)⟩ 42 fun a855 w856 =>
 ((⟨[.string r790,.slice (some a855) 1 1]⟩:Array Value)).size=2 ∧
 ((⟨[.string r854,.slice (some a839) 1 1]⟩:Array Value)).size=2 ∧
 nw w856 ⟨(spl (spl [.string ({ data:=#[] }),.slice none 0 0,.string ({ data:=#[] }),.slice none 0 0] 0 (⟨[.string r790,.slice (some a855) 1 1]⟩:Array Value)) 2 (⟨[.string r854,.slice (some a839) 1 1]⟩:Array Value))⟩ 46 fun a857 w858 =>
 qyb 9 [.slice (some a857) 2 2] w858 fun r861 r862 w860 =>
 qg.j2 r861 r862 Q w860)))∧(
 Calls Tryz.prog 10 ⟨[.int .u8 1]⟩ w789 fun e863 w864 =>
 ∃ r865:ByteArray,e863=.returned (.string r865) ∧
 (ldA w864 a36 22 fun c866 =>
 ((c866).size=22 ∧
 nw w864 ⟨(spl [.int .u8 0,.int .u8 0,.int .u8 0,.int .u8 0,.int .u8 0,.int .u8 0,.int .u8 0,.int .u8 0,.int .u8 0,.int .u8 0,.int .u8 0,.int .u8 0,.int .u8 0,.int .u8 0,.int .u8 0,.int .u8 0,.int .u8 0,.int .u8 0,.int .u8 0,.int .u8 0,.int .u32 0,.int .i64 0] 0 c866)⟩ 42 fun a867 w868 =>
 (c787).size=22 ∧
 nw w868 ⟨(spl [.int .u8 0,.int .u8 0,.int .u8 0,.int .u8 0,.int .u8 0,.int .u8 0,.int .u8 0,.int .u8 0,.int .u8 0,.int .u8 0,.int .u8 0,.int .u8 0,.int .u8 0,.int .u8 0,.int .u8 0,.int .u8 0,.int .u8 0,.int .u8 0,.int .u8 0,.int .u8 0,.int .u32 0,.int .i64 0] 0 c787)⟩ 42 fun a869 w870 =>
 ((⟨[.string r790,.slice (some a867) 1 1]⟩:Array Value)).size=2 ∧
 ((⟨[.string r865,.slice (some a869) 1 1]⟩:Array Value)).size=2 ∧
 nw w870 ⟨(spl (spl [.string ({ data:=#[] }),.slice none 0 0,.string ({ data:=#[] }),.slice none 0 0] 0 (⟨[.string r790,.slice (some a867) 1 1]⟩:Array Value)) 2 (⟨[.string r865,.slice (some a869) 1 1]⟩:Array Value))⟩ 46 fun a871 w872 =>
 qyb 9 [.slice (some a871) 2 2] w872 fun r875 r876 w874 =>
 qg.j2 r875 r876 Q w874)∧(
 (c787).size=22 ∧
 nw w864 ⟨(spl [.int .u8 0,.int .u8 0,.int .u8 0,.int .u8 0,.int .u8 0,.int .u8 0,.int .u8 0,.int .u8 0,.int .u8 0,.int .u8 0,.int .u8 0,.int .u8 0,.int .u8 0,.int .u8 0,.int .u8 0,.int .u8 0,.int .u8 0,.int .u8 0,.int .u8 0,.int .u8 0,.int .u32 0,.int .i64 0] 0 c787)⟩ 42 fun a877 w878 =>
 (c866).size=22 ∧
 nw w878 ⟨(spl [.int .u8 0,.int .u8 0,.int .u8 0,.int .u8 0,.int .u8 0,.int .u8 0,.int .u8 0,.int .u8 0,.int .u8 0,.int .u8 0,.int .u8 0,.int .u8 0,.int .u8 0,.int .u8 0,.int .u8 0,.int .u8 0,.int .u8 0,.int .u8 0,.int .u8 0,.int .u8 0,.int .u32 0,.int .i64 0] 0 c866)⟩ 42 fun a879 w880 =>
 ((⟨[.string r790,.slice (some a879) 1 1]⟩:Array Value)).size=2 ∧
 ((⟨[.string r865,.slice (some a877) 1 1]⟩:Array Value)).size=2 ∧
 nw w880 ⟨(spl (spl [.string ({ data:=#[] }),.slice none 0 0,.string ({ data:=#[] }),.slice none 0 0] 0 (⟨[.string r790,.slice (some a879) 1 1]⟩:Array Value)) 2 (⟨[.string r865,.slice (some a877) 1 1]⟩:Array Value))⟩ 46 fun a881 w882 =>
 qyb 9 [.slice (some a881) 2 2] w882 fun r885 r886 w884 =>
 qg.j2 r885 r886 Q w884))∧(
 (c787).size=22 ∧
 nw w864 ⟨(spl [.int .u8 0,.int .u8 0,.int .u8 0,.int .u8 0,.int .u8 0,.int .u8 0,.int .u8 0,.int .u8 0,.int .u8 0,.int .u8 0,.int .u8 0,.int .u8 0,.int .u8 0,.int .u8 0,.int .u8 0,.int .u8 0,.int .u8 0,.int .u8 0,.int .u8 0,.int .u8 0,.int .u32 0,.int .i64 0] 0 c787)⟩ 42 fun a887 w888 =>
 ldA w888 a36 22 fun c889 =>
 (c889).size=22 ∧
 nw w888 ⟨(spl [.int .u8 0,.int .u8 0,.int .u8 0,.int .u8 0,.int .u8 0,.int .u8 0,.int .u8 0,.int .u8 0,.int .u8 0,.int .u8 0,.int .u8 0,.int .u8 0,.int .u8 0,.int .u8 0,.int .u8 0,.int .u8 0,.int .u8 0,.int .u8 0,.int .u8 0,.int .u8 0,.int .u32 0,.int .i64 0] 0 c889)⟩ 42 fun a890 w891 =>
 ((⟨[.string r790,.slice (some a890) 1 1]⟩:Array Value)).size=2 ∧
 ((⟨[.string r865,.slice (some a887) 1 1]⟩:Array Value)).size=2 ∧
 nw w891 ⟨(spl (spl [.string ({ data:=#[] }),.slice none 0 0,.string ({ data:=#[] }),.slice none 0 0] 0 (⟨[.string r790,.slice (some a890) 1 1]⟩:Array Value)) 2 (⟨[.string r865,.slice (some a887) 1 1]⟩:Array Value))⟩ 46 fun a892 w893 =>
 qyb 9 [.slice (some a892) 2 2] w893 fun r896 r897 w895 =>
 qg.j2 r896 r897 Q w895))∧(
 (c787).size=22 ∧
 nw w789 ⟨(spl [.int .u8 0,.int .u8 0,.int .u8 0,.int .u8 0,.int .u8 0,.int .u8 0,.int .u8 0,.int .u8 0,.int .u8 0,.int .u8 0,.int .u8 0,.int .u8 0,.int .u8 0,.int .u8 0,.int .u8 0,.int .u8 0,.int .u8 0,.int .u8 0,.int .u8 0,.int .u8 0,.int .u32 0,.int .i64 0] 0 c787)⟩ 42 fun a898 w899 =>
 (ldA w899 a36 22 fun c900 =>
 ((c900).size=22 ∧
 nw w899 ⟨(spl [.int .u8 0,.int .u8 0,.int .u8 0,.int .u8 0,.int .u8 0,.int .u8 0,.int .u8 0,.int .u8 0,.int .u8 0,.int .u8 0,.int .u8 0,.int .u8 0,.int .u8 0,.int .u8 0,.int .u8 0,.int .u8 0,.int .u8 0,.int .u8 0,.int .u8 0,.int .u8 0,.int .u32 0,.int .i64 0] 0 c900)⟩ 42 fun a901 w902 =>
 Calls Tryz.prog 10 ⟨[.int .u8 1]⟩ w902 fun e903 w904 =>
 ∃ r905:ByteArray,e903=.returned (.string r905) ∧
 ((⟨[.string r790,.slice (some a901) 1 1]⟩:Array Value)).size=2 ∧
 ((⟨[.string r905,.slice (some a898) 1 1]⟩:Array Value)).size=2 ∧
 nw w904 ⟨(spl (spl [.string ({ data:=#[] }),.slice none 0 0,.string ({ data:=#[] }),.slice none 0 0] 0 (⟨[.string r790,.slice (some a901) 1 1]⟩:Array Value)) 2 (⟨[.string r905,.slice (some a898) 1 1]⟩:Array Value))⟩ 46 fun a906 w907 =>
 qyb 9 [.slice (some a906) 2 2] w907 fun r910 r911 w909 =>
 qg.j2 r910 r911 Q w909)∧(
 Calls Tryz.prog 10 ⟨[.int .u8 1]⟩ w899 fun e912 w913 =>
 ∃ r914:ByteArray,e912=.returned (.string r914) ∧
 (c900).size=22 ∧
 nw w913 ⟨(spl [.int .u8 0,.int .u8 0,.int .u8 0,.int .u8 0,.int .u8 0,.int .u8 0,.int .u8 0,.int .u8 0,.int .u8 0,.int .u8 0,.int .u8 0,.int .u8 0,.int .u8 0,.int .u8 0,.int .u8 0,.int .u8 0,.int .u8 0,.int .u8 0,.int .u8 0,.int .u8 0,.int .u32 0,.int .i64 0] 0 c900)⟩ 42 fun a915 w916 =>
 ((⟨[.string r790,.slice (some a915) 1 1]⟩:Array Value)).size=2 ∧
 ((⟨[.string r914,.slice (some a898) 1 1]⟩:Array Value)).size=2 ∧
 nw w916 ⟨(spl (spl [.string ({ data:=#[] }),.slice none 0 0,.string ({ data:=#[] }),.slice none 0 0] 0 (⟨[.string r790,.slice (some a915) 1 1]⟩:Array Value)) 2 (⟨[.string r914,.slice (some a898) 1 1]⟩:Array Value))⟩ 46 fun a917 w918 =>
 qyb 9 [.slice (some a917) 2 2] w918 fun r921 r922 w920 =>
 qg.j2 r921 r922 Q w920))∧(
 Calls Tryz.prog 10 ⟨[.int .u8 1]⟩ w899 fun e923 w924 =>
 ∃ r925:ByteArray,e923=.returned (.string r925) ∧
 ldA w924 a36 22 fun c926 =>
 (c926).size=22 ∧
 nw w924 ⟨(spl [.int .u8 0,.int .u8 0,.int .u8 0,.int .u8 0,.int .u8 0,.int .u8 0,.int .u8 0,.int .u8 0,.int .u8 0,.int .u8 0,.int .u8 0,.int .u8 0,.int .u8 0,.int .u8 0,.int .u8 0,.int .u8 0,.int .u8 0,.int .u8 0,.int .u8 0,.int .u8 0,.int .u32 0,.int .i64 0] 0 c926)⟩ 42 fun a927 w928 =>
 ((⟨[.string r790,.slice (some a927) 1 1]⟩:Array Value)).size=2 ∧
 ((⟨[.string r925,.slice (some a898) 1 1]⟩:Array Value)).size=2 ∧
 nw w928 ⟨(spl (spl [.string ({ data:=#[] }),.slice none 0 0,.string ({ data:=#[] }),.slice none 0 0] 0 (⟨[.string r790,.slice (some a927) 1 1]⟩:Array Value)) 2 (⟨[.string r925,.slice (some a898) 1 1]⟩:Array Value))⟩ 46 fun a929 w930 =>
 qyb 9 [.slice (some a929) 2 2] w930 fun r933 r934 w932 =>
 qg.j2 r933 r934 Q w932)))∧(
 ldA w39 a36 22 fun c935 =>
 (Calls Tryz.prog 10 ⟨[.int .u8 2]⟩ w39 fun e936 w937 =>
 ∃ r938:ByteArray,e936=.returned (.string r938) ∧
 ((c935).size=22 ∧
 nw w937 ⟨(spl [.int .u8 0,.int .u8 0,.int .u8 0,.int .u8 0,.int .u8 0,.int .u8 0,.int .u8 0,.int .u8 0,.int .u8 0,.int .u8 0,.int .u8 0,.int .u8 0,.int .u8 0,.int .u8 0,.int .u8 0,.int .u8 0,.int .u8 0,.int .u8 0,.int .u8 0,.int .u8 0,.int .u32 0,.int .i64 0] 0 c935)⟩ 42 fun a939 w940 =>
 (Calls Tryz.prog 10 ⟨[.int .u8 1]⟩ w940 fun e941 w942 =>
 ∃ r943:ByteArray,e941=.returned (.string r943) ∧
 (c787).size=22 ∧
 nw w942 ⟨(spl [.int .u8 0,.int .u8 0,.int .u8 0,.int .u8 0,.int .u8 0,.int .u8 0,.int .u8 0,.int .u8 0,.int .u8 0,.int .u8 0,.int .u8 0,.int .u8 0,.int .u8 0,.int .u8 0,.int .u8 0,.int .u8 0,.int .u8 0,.int .u8 0,.int .u8 0,.int .u8 0,.int .u32 0,.int .i64 0] 0 c787)⟩ 42 fun a944 w945 =>
 ((⟨[.string r938,.slice (some a939) 1 1]⟩:Array Value)).size=2 ∧
 ((⟨[.string r943,.slice (some a944) 1 1]⟩:Array Value)).size=2 ∧
 nw w945 ⟨(spl (spl [.string ({ data:=#[] }),.slice none 0 0,.string ({ data:=#[] }),.slice none 0 0] 0 (⟨[.string r938,.slice (some a939) 1 1]⟩:Array Value)) 2 (⟨[.string r943,.slice (some a944) 1 1]⟩:Array Value))⟩ 46 fun a946 w947 =>
 qyb 9 [.slice (some a946) 2 2] w947 fun r950 r951 w949 =>
 qg.j2 r950 r951 Q w949)∧(
 (c787).size=22 ∧
 nw w940 ⟨(spl [.int .u8 0,.int .u8 0,.int .u8 0,.int .u8 0,.int .u8 0,.int .u8 0,.int .u8 0,.int .u8 0,.int .u8 0,.int .u8 0,.int .u8 0,.int .u8 0,.int .u8 0,.int .u8 0,.int .u8 0,.int .u8 0,.int .u8 0,.int .u8 0,.int .u8 0,.int .u8 0,.int .u32 0,.int .i64 0] 0 c787)⟩ 42 fun a952 w953 =>
 Calls Tryz.prog 10 ⟨[.int .u8 1]⟩ w953 fun e954 w955 =>
 ∃ r956:ByteArray,e954=.returned (.string r956) ∧
 ((⟨[.string r938,.slice (some a939) 1 1]⟩:Array Value)).size=2 ∧
 ((⟨[.string r956,.slice (some a952) 1 1]⟩:Array Value)).size=2 ∧
 nw w955 ⟨(spl (spl [.string ({ data:=#[] }),.slice none 0 0,.string ({ data:=#[] }),.slice none 0 0] 0 (⟨[.string r938,.slice (some a939) 1 1]⟩:Array Value)) 2 (⟨[.string r956,.slice (some a952) 1 1]⟩:Array Value))⟩ 46 fun a957 w958 =>
 qyb 9 [.slice (some a957) 2 2] w958 fun r961 r962 w960 =>
 qg.j2 r961 r962 Q w960))∧(
 Calls Tryz.prog 10 ⟨[.int .u8 1]⟩ w937 fun e963 w964 =>
 ∃ r965:ByteArray,e963=.returned (.string r965) ∧
 ((c935).size=22 ∧
 nw w964 ⟨(spl [.int .u8 0,.int .u8 0,.int .u8 0,.int .u8 0,.int .u8 0,.int .u8 0,.int .u8 0,.int .u8 0,.int .u8 0,.int .u8 0,.int .u8 0,.int .u8 0,.int .u8 0,.int .u8 0,.int .u8 0,.int .u8 0,.int .u8 0,.int .u8 0,.int .u8 0,.int .u8 0,.int .u32 0,.int .i64 0] 0 c935)⟩ 42 fun a966 w967 =>
 (c787).size=22 ∧
 nw w967 ⟨(spl [.int .u8 0,.int .u8 0,.int .u8 0,.int .u8 0,.int .u8 0,.int .u8 0,.int .u8 0,.int .u8 0,.int .u8 0,.int .u8 0,.int .u8 0,.int .u8 0,.int .u8 0,.int .u8 0,.int .u8 0,.int .u8 0,.int .u8 0,.int .u8 0,.int .u8 0,.int .u8 0,.int .u32 0,.int .i64 0] 0 c787)⟩ 42 fun a968 w969 =>
 ((⟨[.string r938,.slice (some a966) 1 1]⟩:Array Value)).size=2 ∧
 ((⟨[.string r965,.slice (some a968) 1 1]⟩:Array Value)).size=2 ∧
 nw w969 ⟨(spl (spl [.string ({ data:=#[] }),.slice none 0 0,.string ({ data:=#[] }),.slice none 0 0] 0 (⟨[.string r938,.slice (some a966) 1 1]⟩:Array Value)) 2 (⟨[.string r965,.slice (some a968) 1 1]⟩:Array Value))⟩ 46 fun a970 w971 =>
 qyb 9 [.slice (some a970) 2 2] w971 fun r974 r975 w973 =>
 qg.j2 r974 r975 Q w973)∧(
 (c787).size=22 ∧
 nw w964 ⟨(spl [.int .u8 0,.int .u8 0,.int .u8 0,.int .u8 0,.int .u8 0,.int .u8 0,.int .u8 0,.int .u8 0,.int .u8 0,.int .u8 0,.int .u8 0,.int .u8 0,.int .u8 0,.int .u8 0,.int .u8 0,.int .u8 0,.int .u8 0,.int .u8 0,.int .u8 0,.int .u8 0,.int .u32 0,.int .i64 0] 0 c787)⟩ 42 fun a976 w977 =>
 (c935).size=22 ∧
 nw w977 ⟨(spl [.int .u8 0,.int .u8 0,.int .u8 0,.int .u8 0,.int .u8 0,.int .u8 0,.int .u8 0,.int .u8 0,.int .u8 0,.int .u8 0,.int .u8 0,.int .u8 0,.int .u8 0,.int .u8 0,.int .u8 0,.int .u8 0,.int .u8 0,.int .u8 0,.int .u8 0,.int .u8 0,.int .u32 0,.int .i64 0] 0 c935)⟩ 42 fun a978 w979 =>
 ((⟨[.string r938,.slice (some a978) 1 1]⟩:Array Value)).size=2 ∧
 ((⟨[.string r965,.slice (some a976) 1 1]⟩:Array Value)).size=2 ∧
 nw w979 ⟨(spl (spl [.string ({ data:=#[] }),.slice none 0 0,.string ({ data:=#[] }),.slice none 0 0] 0 (⟨[.string r938,.slice (some a978) 1 1]⟩:Array Value)) 2 (⟨[.string r965,.slice (some a976) 1 1]⟩:Array Value))⟩ 46 fun a980 w981 =>
 qyb 9 [.slice (some a980) 2 2] w981 fun r984 r985 w983 =>
 qg.j2 r984 r985 Q w983))∧(
 (c787).size=22 ∧
 nw w937 ⟨(spl [.int .u8 0,.int .u8 0,.int .u8 0,.int .u8 0,.int .u8 0,.int .u8 0,.int .u8 0,.int .u8 0,.int .u8 0,.int .u8 0,.int .u8 0,.int .u8 0,.int .u8 0,.int .u8 0,.int .u8 0,.int .u8 0,.int .u8 0,.int .u8 0,.int .u8 0,.int .u8 0,.int .u32 0,.int .i64 0] 0 c787)⟩ 42 fun a986 w987 =>
 ((c935).size=22 ∧
 nw w987 ⟨(spl [.int .u8 0,.int .u8 0,.int .u8 0,.int .u8 0,.int .u8 0,.int .u8 0,.int .u8 0,.int .u8 0,.int .u8 0,.int .u8 0,.int .u8 0,.int .u8 0,.int .u8 0,.int .u8 0,.int .u8 0,.int .u8 0,.int .u8 0,.int .u8 0,.int .u8 0,.int .u8 0,.int .u32 0,.int .i64 0] 0 c935)⟩ 42 fun a988 w989 =>
 Calls Tryz.prog 10 ⟨[.int .u8 1]⟩ w989 fun e990 w991 =>
 ∃ r992:ByteArray,e990=.returned (.string r992) ∧
 ((⟨[.string r938,.slice (some a988) 1 1]⟩:Array Value)).size=2 ∧
 ((⟨[.string r992,.slice (some a986) 1 1]⟩:Array Value)).size=2 ∧
 nw w991 ⟨(spl (spl [.string ({ data:=#[] }),.slice none 0 0,.string ({ data:=#[] }),.slice none 0 0] 0 (⟨[.string r938,.slice (some a988) 1 1]⟩:Array Value)) 2 (⟨[.string r992,.slice (some a986) 1 1]⟩:Array Value))⟩ 46 fun a993 w994 =>
 qyb 9 [.slice (some a993) 2 2] w994 fun r997 r998 w996 =>
 qg.j2 r997 r998 Q w996)∧(
 Calls Tryz.prog 10 ⟨[.int .u8 1]⟩ w987 fun e999 w1000 =>
 ∃ r1001:ByteArray,e999=.returned (.string r1001) ∧
 (c935).size=22 ∧
 nw w1000 ⟨(spl [.int .u8 0,.int .u8 0,.int .u8 0,.int .u8 0,.int .u8 0,.int .u8 0,.int .u8 0,.int .u8 0,.int .u8 0,.int .u8 0,.int .u8 0,.int .u8 0,.int .u8 0,.int .u8 0,.int .u8 0,.int .u8 0,.int .u8 0,.int .u8 0,.int .u8 0,.int .u8 0,.int .u32 0,.int .i64 0] 0 c935)⟩ 42 fun a1002 w1003 =>
 ((⟨[.string r938,.slice (some a1002) 1 1]⟩:Array Value)).size=2 ∧
 ((⟨[.string r1001,.slice (some a986) 1 1]⟩:Array Value)).size=2 ∧
 nw w1003 ⟨(spl (spl [.string ({ data:=#[] }),.slice none 0 0,.string ({ data:=#[] }),.slice none 0 0] 0 (⟨[.string r938,.slice (some a1002) 1 1]⟩:Array Value)) 2 (⟨[.string r1001,.slice (some a986) 1 1]⟩:Array Value))⟩ 46 fun a1004 w1005 =>
 qyb 9 [.slice (some a1004) 2 2] w1005 fun r1008 r1009 w1007 =>
 qg.j2 r1008 r1009 Q w1007)))∧(
 (c935).size=22 ∧
 nw w39 ⟨(spl [.int .u8 0,.int .u8 0,.int .u8 0,.int .u8 0,.int .u8 0,.int .u8 0,.int .u8 0,.int .u8 0,.int .u8 0,.int .u8 0,.int .u8 0,.int .u8 0,.int .u8 0,.int .u8 0,.int .u8 0,.int .u8 0,.int .u8 0,.int .u8 0,.int .u8 0,.int .u8 0,.int .u32 0,.int .i64 0] 0 c935)⟩ 42 fun a1010 w1011 =>
 (Calls Tryz.prog 10 ⟨[.int .u8 2]⟩ w1011 fun e1012 w1013 =>
 ∃ r1014:ByteArray,e1012=.returned (.string r1014) ∧
 (Calls Tryz.prog 10 ⟨[.int .u8 1]⟩ w1013 fun e1015 w1016 =>
 ∃ r1017:ByteArray,e1015=.returned (.string r1017) ∧
 (c787).size=22 ∧
 nw w1016 ⟨(spl [.int .u8 0,.int .u8 0,.int .u8 0,.int .u8 0,.int .u8 0,.int .u8 0,.int .u8 0,.int .u8 0,.int .u8 0,.int .u8 0,.int .u8 0,.int .u8 0,.int .u8 0,.int .u8 0,.int .u8 0,.int .u8 0,.int .u8 0,.int .u8 0,.int .u8 0,.int .u8 0,.int .u32 0,.int .i64 0] 0 c787)⟩ 42 fun a1018 w1019 =>
 ((⟨[.string r1014,.slice (some a1010) 1 1]⟩:Array Value)).size=2 ∧
 ((⟨[.string r1017,.slice (some a1018) 1 1]⟩:Array Value)).size=2 ∧
 nw w1019 ⟨(spl (spl [.string ({ data:=#[] }),.slice none 0 0,.string ({ data:=#[] }),.slice none 0 0] 0 (⟨[.string r1014,.slice (some a1010) 1 1]⟩:Array Value)) 2 (⟨[.string r1017,.slice (some a1018) 1 1]⟩:Array Value))⟩ 46 fun a1020 w1021 =>
 qyb 9 [.slice (some a1020) 2 2] w1021 fun r1024 r1025 w1023 =>
 qg.j2 r1024 r1025 Q w1023)∧(
 (c787).size=22 ∧
 nw w1013 ⟨(spl [.int .u8 0,.int .u8 0,.int .u8 0,.int .u8 0,.int .u8 0,.int .u8 0,.int .u8 0,.int .u8 0,.int .u8 0,.int .u8 0,.int .u8 0,.int .u8 0,.int .u8 0,.int .u8 0,.int .u8 0,.int .u8 0,.int .u8 0,.int .u8 0,.int .u8 0,.int .u8 0,.int .u32 0,.int .i64 0] 0 c787)⟩ 42 fun a1026 w1027 =>
 Calls Tryz.prog 10 ⟨[.int .u8 1]⟩ w1027 fun e1028 w1029 =>
 ∃ r1030:ByteArray,e1028=.returned (.string r1030) ∧
 ((⟨[.string r1014,.slice (some a1010) 1 1]⟩:Array Value)).size=2 ∧
 ((⟨[.string r1030,.slice (some a1026) 1 1]⟩:Array Value)).size=2 ∧
 nw w1029 ⟨(spl (spl [.string ({ data:=#[] }),.slice none 0 0,.string ({ data:=#[] }),.slice none 0 0] 0 (⟨[.string r1014,.slice (some a1010) 1 1]⟩:Array Value)) 2 (⟨[.string r1030,.slice (some a1026) 1 1]⟩:Array Value))⟩ 46 fun a1031 w1032 =>
 qyb 9 [.slice (some a1031) 2 2] w1032 fun r1035 r1036 w1034 =>
 qg.j2 r1035 r1036 Q w1034))∧(
 (c787).size=22 ∧
 nw w1011 ⟨(spl [.int .u8 0,.int .u8 0,.int .u8 0,.int .u8 0,.int .u8 0,.int .u8 0,.int .u8 0,.int .u8 0,.int .u8 0,.int .u8 0,.int .u8 0,.int .u8 0,.int .u8 0,.int .u8 0,.int .u8 0,.int .u8 0,.int .u8 0,.int .u8 0,.int .u8 0,.int .u8 0,.int .u32 0,.int .i64 0] 0 c787)⟩ 42 fun a1037 w1038 =>
 Calls Tryz.prog 10 ⟨[.int .u8 2]⟩ w1038 fun e1039 w1040 =>
 ∃ r1041:ByteArray,e1039=.returned (.string r1041) ∧
 Calls Tryz.prog 10 ⟨[.int .u8 1]⟩ w1040 fun e1042 w1043 =>
 ∃ r1044:ByteArray,e1042=.returned (.string r1044) ∧
 ((⟨[.string r1041,.slice (some a1010) 1 1]⟩:Array Value)).size=2 ∧
 ((⟨[.string r1044,.slice (some a1037) 1 1]⟩:Array Value)).size=2 ∧
 nw w1043 ⟨(spl (spl [.string ({ data:=#[] }),.slice none 0 0,.string ({ data:=#[] }),.slice none 0 0] 0 (⟨[.string r1041,.slice (some a1010) 1 1]⟩:Array Value)) 2 (⟨[.string r1044,.slice (some a1037) 1 1]⟩:Array Value))⟩ 46 fun a1045 w1046 =>
 qyb 9 [.slice (some a1045) 2 2] w1046 fun r1049 r1050 w1048 =>
 qg.j2 r1049 r1050 Q w1048))∧(
 (c787).size=22 ∧
 nw w39 ⟨(spl [.int .u8 0,.int .u8 0,.int .u8 0,.int .u8 0,.int .u8 0,.int .u8 0,.int .u8 0,.int .u8 0,.int .u8 0,.int .u8 0,.int .u8 0,.int .u8 0,.int .u8 0,.int .u8 0,.int .u8 0,.int .u8 0,.int .u8 0,.int .u8 0,.int .u8 0,.int .u8 0,.int .u32 0,.int .i64 0] 0 c787)⟩ 42 fun a1051 w1052 =>
 (Calls Tryz.prog 10 ⟨[.int .u8 2]⟩ w1052 fun e1053 w1054 =>
 ∃ r1055:ByteArray,e1053=.returned (.string r1055) ∧
 ((c935).size=22 ∧
 nw w1054 ⟨(spl [.int .u8 0,.int .u8 0,.int .u8 0,.int .u8 0,.int .u8 0,.int .u8 0,.int .u8 0,.int .u8 0,.int .u8 0,.int .u8 0,.int .u8 0,.int .u8 0,.int .u8 0,.int .u8 0,.int .u8 0,.int .u8 0,.int .u8 0,.int .u8 0,.int .u8 0,.int .u8 0,.int .u32 0,.int .i64 0] 0 c935)⟩ 42 fun a1056 w1057 =>
 Calls Tryz.prog 10 ⟨[.int .u8 1]⟩ w1057 fun e1058 w1059 =>
 ∃ r1060:ByteArray,e1058=.returned (.string r1060) ∧
 ((⟨[.string r1055,.slice (some a1056) 1 1]⟩:Array Value)).size=2 ∧
 ((⟨[.string r1060,.slice (some a1051) 1 1]⟩:Array Value)).size=2 ∧
 nw w1059 ⟨(spl (spl [.string ({ data:=#[] }),.slice none 0 0,.string ({ data:=#[] }),.slice none 0 0] 0 (⟨[.string r1055,.slice (some a1056) 1 1]⟩:Array Value)) 2 (⟨[.string r1060,.slice (some a1051) 1 1]⟩:Array Value))⟩ 46 fun a1061 w1062 =>
 qyb 9 [.slice (some a1061) 2 2] w1062 fun r1065 r1066 w1064 =>
 qg.j2 r1065 r1066 Q w1064)∧(
 Calls Tryz.prog 10 ⟨[.int .u8 1]⟩ w1054 fun e1067 w1068 =>
 ∃ r1069:ByteArray,e1067=.returned (.string r1069) ∧
 (c935).size=22 ∧
 nw w1068 ⟨(spl [.int .u8 0,.int .u8 0,.int .u8 0,.int .u8 0,.int .u8 0,.int .u8 0,.int .u8 0,.int .u8 0,.int .u8 0,.int .u8 0,.int .u8 0,.int .u8 0,.int .u8 0,.int .u8 0,.int .u8 0,.int .u8 0,.int .u8 0,.int .u8 0,.int .u8 0,.int .u8 0,.int .u32 0,.int .i64 0] 0 c935)⟩ 42 fun a1070 w1071 =>
 ((⟨[.string r1055,.slice (some a1070) 1 1]⟩:Array Value)).size=2 ∧
 ((⟨[.string r1069,.slice (some a1051) 1 1]⟩:Array Value)).size=2 ∧
 nw w1071 ⟨(spl (spl [.string ({ data:=#[] }),.slice none 0 0,.string ({ data:=#[] }),.slice none 0 0] 0 (⟨[.string r1055,.slice (some a1070) 1 1]⟩:Array Value)) 2 (⟨[.string r1069,.slice (some a1051) 1 1]⟩:Array Value))⟩ 46 fun a1072 w1073 =>
 qyb 9 [.slice (some a1072) 2 2] w1073 fun r1076 r1077 w1075 =>
 qg.j2 r1076 r1077 Q w1075))∧(
 (c935).size=22 ∧
 nw w1052 ⟨(spl [.int .u8 0,.int .u8 0,.int .u8 0,.int .u8 0,.int .u8 0,.int .u8 0,.int .u8 0,.int .u8 0,.int .u8 0,.int .u8 0,.int .u8 0,.int .u8 0,.int .u8 0,.int .u8 0,.int .u8 0,.int .u8 0,.int .u8 0,.int .u8 0,.int .u8 0,.int .u8 0,.int .u32 0,.int .i64 0] 0 c935)⟩ 42 fun a1078 w1079 =>
 Calls Tryz.prog 10 ⟨[.int .u8 2]⟩ w1079 fun e1080 w1081 =>
 ∃ r1082:ByteArray,e1080=.returned (.string r1082) ∧
 Calls Tryz.prog 10 ⟨[.int .u8 1]⟩ w1081 fun e1083 w1084 =>
 ∃ r1085:ByteArray,e1083=.returned (.string r1085) ∧
 ((⟨[.string r1082,.slice (some a1078) 1 1]⟩:Array Value)).size=2 ∧
 ((⟨[.string r1085,.slice (some a1051) 1 1]⟩:Array Value)).size=2 ∧
 nw w1084 ⟨(spl (spl [.string ({ data:=#[] }),.slice none 0 0,.string ({ data:=#[] }),.slice none 0 0] 0 (⟨[.string r1082,.slice (some a1078) 1 1]⟩:Array Value)) 2 (⟨[.string r1085,.slice (some a1051) 1 1]⟩:Array Value))⟩ 46 fun a1086 w1087 =>
 qyb 9 [.slice (some a1086) 2 2] w1087 fun r1090 r1091 w1089 =>
 qg.j2 r1090 r1091 Q w1089)))∧(
 (c787).size=22 ∧
 nw w39 ⟨(spl [.int .u8 0,.int .u8 0,.int .u8 0,.int .u8 0,.int .u8 0,.int .u8 0,.int .u8 0,.int .u8 0,.int .u8 0,.int .u8 0,.int .u8 0,.int .u8 0,.int .u8 0,.int .u8 0,.int .u8 0,.int .u8 0,.int .u8 0,.int .u8 0,.int .u8 0,.int .u8 0,.int .u32 0,.int .i64 0] 0 c787)⟩ 42 fun a1092 w1093 =>
 (Calls Tryz.prog 10 ⟨[.int .u8 2]⟩ w1093 fun e1094 w1095 =>
 ∃ r1096:ByteArray,e1094=.returned (.string r1096) ∧
 (ldA w1095 a36 22 fun c1097 =>
 ((c1097).size=22 ∧
 nw w1095 ⟨(spl [.int .u8 0,.int .u8 0,.int .u8 0,.int .u8 0,.int .u8 0,.int .u8 0,.int .u8 0,.int .u8 0,.int .u8 0,.int .u8 0,.int .u8 0,.int .u8 0,.int .u8 0,.int .u8 0,.int .u8 0,.int .u8 0,.int .u8 0,.int .u8 0,.int .u8 0,.int .u8 0,.int .u32 0,.int .i64 0] 0 c1097)⟩ 42 fun a1098 w1099 =>
 Calls Tryz.prog 10 ⟨[.int .u8 1]⟩ w1099 fun e1100 w1101 =>
 ∃ r1102:ByteArray,e1100=.returned (.string r1102) ∧
 ((⟨[.string r1096,.slice (some a1098) 1 1]⟩:Array Value)).size=2 ∧
 ((⟨[.string r1102,.slice (some a1092) 1 1]⟩:Array Value)).size=2 ∧
 nw w1101 ⟨(spl (spl [.string ({ data:=#[] }),.slice none 0 0,.string ({ data:=#[] }),.slice none 0 0] 0 (⟨[.string r1096,.slice (some a1098) 1 1]⟩:Array Value)) 2 (⟨[.string r1102,.slice (some a1092) 1 1]⟩:Array Value))⟩ 46 fun a1103 w1104 =>
 qyb 9 [.slice (some a1103) 2 2] w1104 fun r1107 r1108 w1106 =>
 qg.j2 r1107 r1108 Q w1106)∧(
 Calls Tryz.prog 10 ⟨[.int .u8 1]⟩ w1095 fun e1109 w1110 =>
 ∃ r1111:ByteArray,e1109=.returned (.string r1111) ∧
 (c1097).size=22 ∧
 nw w1110 ⟨(spl [.int .u8 0,.int .u8 0,.int .u8 0,.int .u8 0,.int .u8 0,.int .u8 0,.int .u8 0,.int .u8 0,.int .u8 0,.int .u8 0,.int .u8 0,.int .u8 0,.int .u8 0,.int .u8 0,.int .u8 0,.int .u8 0,.int .u8 0,.int .u8 0,.int .u8 0,.int .u8 0,.int .u32 0,.int .i64 0] 0 c1097)⟩ 42 fun a1112 w1113 =>
 ((⟨[.string r1096,.slice (some a1112) 1 1]⟩:Array Value)).size=2 ∧
 ((⟨[.string r1111,.slice (some a1092) 1 1]⟩:Array Value)).size=2 ∧
 nw w1113 ⟨(spl (spl [.string ({ data:=#[] }),.slice none 0 0,.string ({ data:=#[] }),.slice none 0 0] 0 (⟨[.string r1096,.slice (some a1112) 1 1]⟩:Array Value)) 2 (⟨[.string r1111,.slice (some a1092) 1 1]⟩:Array Value))⟩ 46 fun a1114 w1115 =>
 qyb 9 [.slice (some a1114) 2 2] w1115 fun r1118 r1119 w1117 =>
 qg.j2 r1118 r1119 Q w1117))∧(
 Calls Tryz.prog 10 ⟨[.int .u8 1]⟩ w1095 fun e1120 w1121 =>
 ∃ r1122:ByteArray,e1120=.returned (.string r1122) ∧
 ldA w1121 a36 22 fun c1123 =>
 (c1123).size=22 ∧
 nw w1121 ⟨(spl [.int .u8 0,.int .u8 0,.int .u8 0,.int .u8 0,.int .u8 0,.int .u8 0,.int .u8 0,.int .u8 0,.int .u8 0,.int .u8 0,.int .u8 0,.int .u8 0,.int .u8 0,.int .u8 0,.int .u8 0,.int .u8 0,.int .u8 0,.int .u8 0,.int .u8 0,.int .u8 0,.int .u32 0,.int .i64 0] 0 c1123)⟩ 42 fun a1124 w1125 =>
 ((⟨[.string r1096,.slice (some a1124) 1 1]⟩:Array Value)).size=2 ∧
 ((⟨[.string r1122,.slice (some a1092) 1 1]⟩:Array Value)).size=2 ∧
 nw w1125 ⟨(spl (spl [.string ({ data:=#[] }),.slice none 0 0,.string ({ data:=#[] }),.slice none 0 0] 0 (⟨[.string r1096,.slice (some a1124) 1 1]⟩:Array Value)) 2 (⟨[.string r1122,.slice (some a1092) 1 1]⟩:Array Value))⟩ 46 fun a1126 w1127 =>
 qyb 9 [.slice (some a1126) 2 2] w1127 fun r1130 r1131 w1129 =>
 qg.j2 r1130 r1131 Q w1129))∧(
 ldA w1093 a36 22 fun c1132 =>
 (Calls Tryz.prog 10 ⟨[.int .u8 2]⟩ w1093 fun e1133 w1134 =>
 ∃ r1135:ByteArray,e1133=.returned (.string r1135) ∧
 ((c1132).size=22 ∧
 nw w1134 ⟨(spl [.int .u8 0,.int .u8 0,.int .u8 0,.int .u8 0,.int .u8 0,.int .u8 0,.int .u8 0,.int .u8 0,.int .u8 0,.int .u8 0,.int .u8 0,.int .u8 0,.int .u8 0,.int .u8 0,.int .u8 0,.int .u8 0,.int .u8 0,.int .u8 0,.int .u8 0,.int .u8 0,.int .u32 0,.int .i64 0] 0 c1132)⟩ 42 fun a1136 w1137 =>
 Calls Tryz.prog 10 ⟨[.int .u8 1]⟩ w1137 fun e1138 w1139 =>
 ∃ r1140:ByteArray,e1138=.returned (.string r1140) ∧
 ((⟨[.string r1135,.slice (some a1136) 1 1]⟩:Array Value)).size=2 ∧
 ((⟨[.string r1140,.slice (some a1092) 1 1]⟩:Array Value)).size=2 ∧
 nw w1139 ⟨(spl (spl [.string ({ data:=#[] }),.slice none 0 0,.string ({ data:=#[] }),.slice none 0 0] 0 (⟨[.string r1135,.slice (some a1136) 1 1]⟩:Array Value)) 2 (⟨[.string r1140,.slice (some a1092) 1 1]⟩:Array Value))⟩ 46 fun a1141 w1142 =>
 qyb 9 [.slice (some a1141) 2 2] w1142 fun r1145 r1146 w1144 =>
 qg.j2 r1145 r1146 Q w1144)∧(
 Calls Tryz.prog 10 ⟨[.int .u8 1]⟩ w1134 fun e1147 w1148 =>
 ∃ r1149:ByteArray,e1147=.returned (.string r1149) ∧
 (c1132).size=22 ∧
 nw w1148 ⟨(spl [.int .u8 0,.int .u8 0,.int .u8 0,.int .u8 0,.int .u8 0,.int .u8 0,.int .u8 0,.int .u8 0,.int .u8 0,.int .u8 0,.int .u8 0,.int .u8 0,.int .u8 0,.int .u8 0,.int .u8 0,.int .u8 0,.int .u8 0,.int .u8 0,.int .u8 0,.int .u8 0,.int .u32 0,.int .i64 0] 0 c1132)⟩ 42 fun a1150 w1151 =>
 ((⟨[.string r1135,.slice (some a1150) 1 1]⟩:Array Value)).size=2 ∧
 ((⟨[.string r1149,.slice (some a1092) 1 1]⟩:Array Value)).size=2 ∧
 nw w1151 ⟨(spl (spl [.string ({ data:=#[] }),.slice none 0 0,.string ({ data:=#[] }),.slice none 0 0] 0 (⟨[.string r1135,.slice (some a1150) 1 1]⟩:Array Value)) 2 (⟨[.string r1149,.slice (some a1092) 1 1]⟩:Array Value))⟩ 46 fun a1152 w1153 =>
 qyb 9 [.slice (some a1152) 2 2] w1153 fun r1156 r1157 w1155 =>
 qg.j2 r1156 r1157 Q w1155))∧(
 (c1132).size=22 ∧
 nw w1093 ⟨(spl [.int .u8 0,.int .u8 0,.int .u8 0,.int .u8 0,.int .u8 0,.int .u8 0,.int .u8 0,.int .u8 0,.int .u8 0,.int .u8 0,.int .u8 0,.int .u8 0,.int .u8 0,.int .u8 0,.int .u8 0,.int .u8 0,.int .u8 0,.int .u8 0,.int .u8 0,.int .u8 0,.int .u32 0,.int .i64 0] 0 c1132)⟩ 42 fun a1158 w1159 =>
 Calls Tryz.prog 10 ⟨[.int .u8 2]⟩ w1159 fun e1160 w1161 =>
 ∃ r1162:ByteArray,e1160=.returned (.string r1162) ∧
 Calls Tryz.prog 10 ⟨[.int .u8 1]⟩ w1161 fun e1163 w1164 =>
 ∃ r1165:ByteArray,e1163=.returned (.string r1165) ∧
 ((⟨[.string r1162,.slice (some a1158) 1 1]⟩:Array Value)).size=2 ∧
 ((⟨[.string r1165,.slice (some a1092) 1 1]⟩:Array Value)).size=2 ∧
 nw w1164 ⟨(spl (spl [.string ({ data:=#[] }),.slice none 0 0,.string ({ data:=#[] }),.slice none 0 0] 0 (⟨[.string r1162,.slice (some a1158) 1 1]⟩:Array Value)) 2 (⟨[.string r1165,.slice (some a1092) 1 1]⟩:Array Value))⟩ 46 fun a1166 w1167 =>
 qyb 9 [.slice (some a1166) 2 2] w1167 fun r1170 r1171 w1169 =>
 qg.j2 r1170 r1171 Q w1169))))
def qg  (Q:VWP) (w:World):Prop :=
 nw w (zc Tryz.prog 42) 42 fun a1172 w1173 =>
 ((⟨[.int .u8 0,.int .u8 0,.int .u8 0,.int .u8 0,.int .u8 0,.int .u8 0,.int .u8 0,.int .u8 0,.int .u8 0,.int .u8 0,.int .u8 0,.int .u8 0,.int .u8 0,.int .u8 0,.int .u8 0,.int .u8 0,.int .u8 0,.int .u8 0,.int .u8 0,.int .u8 0,.int .u32 0,.int .i64 12]⟩:Array Value)).size=22 ∧
 stA w1173 a1172 (⟨[.int .u8 0,.int .u8 0,.int .u8 0,.int .u8 0,.int .u8 0,.int .u8 0,.int .u8 0,.int .u8 0,.int .u8 0,.int .u8 0,.int .u8 0,.int .u8 0,.int .u8 0,.int .u8 0,.int .u8 0,.int .u8 0,.int .u8 0,.int .u8 0,.int .u8 0,.int .u8 0,.int .u32 0,.int .i64 12]⟩:Array Value) fun w1174 =>
 qg.j1 a1172 Q w1174
theorem qg.ok  (Q:VWP) (w:World) (h:qg  Q w):Calls Tryz.prog 6 ⟨[]⟩ w (Ret Q) :=
 qvb [.tmp 0] qkd Tryz.func6 rfl rfl rfl rfl (.pr 1 [sA 1] (fun a w=>qg.j1 a Q w) (.pr 1 [sL 3,sI 4] (fun a b w=>qg.j2 a b Q w) .lf)) (by kernel_rfl) h
def qr.j4 (d_0 i_1:OAd) (t5:Addr) (Q:VWP) (w:World):Prop :=
 ldA w t5 20 fun c1 =>
 ct_GB 13 [.pointer d_0,.agg c1] w fun r4 r5 w3 =>
 nw w3 (zc Tryz.prog 52) 52 fun a6 w7 =>
 (r4).size=2 ∧
 stA w7 a6 r4 fun w8 =>
 ldA w8 t5 20 fun c9 =>
 ct_GB 43 [.pointer i_1,.agg c9] w8 fun r12 r13 w11 =>
 nw w11 (zc Tryz.prog 110) 110 fun a14 w15 =>
 (r12).size=2 ∧
 stA w15 a14 r12 fun w16 =>
 br (r5 == r13) (
 ldS w16 (Addr.add a6 0) fun x17 =>
 ldS w16 (Addr.add a14 0) fun x18 =>
 br (ByteArray.toList x17 == ByteArray.toList x18) (
 ldI .i64 w16 (Addr.add a6 1) fun x19 =>
 ldI .i64 w16 (Addr.add a14 1) fun x20 =>
 Q (.bool (x19 == x20)) w16) (
 Q (.bool false) w16)) (
 Q (.bool false) w16)
def qr.b1 (d_0 i_1:OAd) (t5:Addr) (t7:Sl) (t10:Int) (Q:VWP) (nx1:OAd→OAd→Addr→Sl→Int→WP) (w:World):Prop :=
 br (decide (t10 < (t7.len:Int))) (
 ixS t7.a t7.len t10 20 fun a21 =>
 ldA w a21 20 fun c22 =>
 ct_GB 13 [.pointer d_0,.agg c22] w fun r25 r26 w24 =>
 nw w24 (zc Tryz.prog 52) 52 fun a27 w28 =>
 (r25).size=2 ∧
 stA w28 a27 r25 fun w29 =>
 ixS t7.a t7.len t10 20 fun a30 =>
 ldA w29 a30 20 fun c31 =>
 ct_GB 43 [.pointer i_1,.agg c31] w29 fun r34 r35 w33 =>
 nw w33 (zc Tryz.prog 110) 110 fun a36 w37 =>
 (r34).size=2 ∧
 stA w37 a36 r34 fun w38 =>
 br (!r26) (
 Q (.bool false) w38) (
 br (!r35) (
 Q (.bool false) w38) (
 ldS w38 (Addr.add a27 0) fun x39 =>
 ldS w38 (Addr.add a36 0) fun x40 =>
 br (!(ByteArray.toList x39 == ByteArray.toList x40)) (
 Q (.bool false) w38) (
 ldI .i64 w38 (Addr.add a27 1) fun x41 =>
 ldI .i64 w38 (Addr.add a36 1) fun x42 =>
 br (x41 != x42) (
 Q (.bool false) w38) (
 lt (IntKind.i64.wrap (t10+1)) fun x43 =>
 nx1 d_0 i_1 t5 t7 x43 w38))))) (
 qr.j4 d_0 i_1 t5 Q w)
def qr.l1 (d_0 i_1:OAd) (t5:Addr) (t7:Sl) (t10:Int) (Q:VWP) (w:World):Prop :=
 ∃ (I:Int→WP) (μ:Int→World→Nat),I t10 w∧∀ t10:Int,∀ w:World,I t10 w→qr.b1 d_0 i_1 t5 t7 t10 Q (fun d_0' i_1' t5' t7' t10' w'=>(d_0'=d_0∧i_1'=i_1∧t5'=t5∧t7'=t7)∧I t10' w'∧μ t10' w' < μ t10 w) w
def qr.j5 (d_0 i_1:OAd) (t5:Addr) (t7:Sl) (t10:Int) (Q:VWP) (w:World):Prop :=
 qr.l1 d_0 i_1 t5 t7 t10 Q w
def qr.j3 (d_0 i_1:OAd) (t5:Addr) (t7:Sl) (Q:VWP) (w:World):Prop :=
 qr.j5 d_0 i_1 t5 t7 0 Q w
def qr.b2 (d_0 i_1:OAd) (t5:Addr) (t7 t8:Sl) (t9:Int) (Q:VWP) (nx2:OAd→OAd→Addr→Sl→Sl→Int→WP) (w:World):Prop :=
 br (decide (t9 < (t8.len:Int))) (
 lt (World.drew w) fun w44 =>
 ixS t8.a t8.len t9 1 fun a45 =>
 ldS w44 a45 fun x46 =>
 nz i_1 fun a47 =>
 ldL w44 (Addr.add a47 0) fun x48 =>
 ixS x48.a x48.len t9 1 fun a49 =>
 ldS w44 a49 fun x50 =>
 br (!(ByteArray.toList x46 == ByteArray.toList x50)) (
 Q (.bool false) w44) (
 lt (IntKind.i64.wrap (t9+1)) fun x51 =>
 nx2 d_0 i_1 t5 t7 t8 x51 w44)) (
 qr.j3 d_0 i_1 t5 t7 Q w)
def qr.l2 (d_0 i_1:OAd) (t5:Addr) (t7 t8:Sl) (t9:Int) (Q:VWP) (w:World):Prop :=
 ∃ (I:Int→WP) (μ:Int→World→Nat),I t9 w∧∀ t9:Int,∀ w:World,I t9 w→qr.b2 d_0 i_1 t5 t7 t8 t9 Q (fun d_0' i_1' t5' t7' t8' t9' w'=>(d_0'=d_0∧i_1'=i_1∧t5'=t5∧t7'=t7∧t8'=t8)∧I t9' w'∧μ t9' w' < μ t9 w) w
def qr.j6 (d_0 i_1:OAd) (t5:Addr) (t7 t8:Sl) (t9:Int) (Q:VWP) (w:World):Prop :=
 qr.l2 d_0 i_1 t5 t7 t8 t9 Q w
def qr.j2 (d_0 i_1:OAd) (t5:Addr) (t7 t8:Sl) (Q:VWP) (w:World):Prop :=
 qr.j6 d_0 i_1 t5 t7 t8 0 Q w
def qr.j1 (d_0 i_1:OAd) (t5:Addr) (t7:Sl) (Q:VWP) (w:World):Prop :=
 qqf 16 [.pointer d_0] w fun r54 w53 =>
 qri 12 [.pointer d_0] w53 fun r57 w56 =>
 br (r57 != (t7.len:Int)) (
 Q (.bool false) w56) (
 qqf 42 [.pointer d_0] w56 fun r60 w59 =>
 qxm 41 [sV r60,sV t7] w59 fun r63 w62 =>
 br (!r63) (
 Q (.bool false) w62) (
 nz i_1 fun a64 =>
 ldL w62 (Addr.add a64 0) fun x65 =>
 br ((r54.len:Int) != (x65.len:Int)) (
 Q (.bool false) w62) (
 qr.j2 d_0 i_1 t5 t7 r54 Q w62)))
def qr (d_0 i_1:OAd) (t2:(Array Value)) (Q:VWP) (w:World):Prop :=
 nw w t2 39 fun a66 w67 =>
 qqf 40 [.pointer i_1] w67 fun r70 w69 =>
 qr.j1 d_0 i_1 a66 r70 Q w69
theorem qr.ok (d_0:OAd) (i_1:OAd) (t2:(Array Value)) (Q:VWP) (w:World) (h:qr d_0 i_1 t2 Q w):Calls Tryz.prog 15 ⟨[.pointer d_0,.pointer i_1,.agg t2]⟩ w (Ret Q) :=
 qvb [.tmp 6] qkd Tryz.func15 rfl rfl rfl rfl (.pr 1 [sP 0,sP 1,sA 5,sL 7] (fun a b c d w=>qr.j1 a b c d Q w) (.pr 1 [sP 0,sP 1,sA 5,sL 7,sL 8] (fun a b c d e w=>qr.j2 a b c d e Q w) (.sq [sP 0,sP 1,sA 5,sL 7] (fun a b c d w=>qr.j3 a b c d Q w) (.sq [sP 0,sP 1,sA 5,sL 7,sL 8,sI 9] (fun a b c d e f w=>qr.j6 a b c d e f Q w) .lf (.bk (.lo [sP 0,sP 1,sA 5,sL 7,sL 8] [sI 9] (fun a b c d e f w=>qr.l2 a b c d e f Q w) (fun nx2 a b c d e f w=>qr.b2 a b c d e f Q nx2 w) fun nx2=>.lf))) (.sq [sP 0,sP 1,sA 5] (fun a b c w=>qr.j4 a b c Q w) (.sq [sP 0,sP 1,sA 5,sL 7,sI 10] (fun a b c d e w=>qr.j5 a b c d e Q w) .lf (.bk (.lo [sP 0,sP 1,sA 5,sL 7] [sI 10] (fun a b c d e w=>qr.l1 a b c d e Q w) (fun nx1 a b c d e w=>qr.b1 a b c d e Q nx1 w) fun nx1=>.lf))) .lf)))) (by kernel_rfl) h
def trovelaw18_MidxBytes.j2 (b_0:Sl) (id_3:Addr) (Q:VWP) (w:World):Prop :=
 ct_PI 11 [sV b_0] w fun r3 r4 w2 =>
 ct_PI 14 [sV b_0] w2 fun r7 r8 w6 =>
 br (r4 != r8) (
 Q (.bool false) w6) (
 br (!((Option.isNone r3) == (Option.isNone r7))) (
 Q (.bool false) w6) (
 br (Option.isNone r3) (
 Q (.bool true) w6) (
 ldA w6 id_3 20 fun c9 =>
 qxm 15 [.pointer r3,.pointer r7,.agg c9] w6 fun r12 w11 =>
 Q (.bool r12) w11)))
def trovelaw18_MidxBytes.j1 (b_0:Sl) (id_3:Addr) (Q:VWP) (w:World):Prop :=
 qxm 6 [] w fun r15 w14 =>
 br (!r15) (
 Q (.bool false) w14) (
 br (decide ((b_0.len:Int) > 20000)) (
 br (decide ((b_0.len:Int)≤262144)) (
 Q (.bool true) w14) (
 br (decide ((b_0.len:Int) > 524288)) (
 Q (.bool true) w14) (
 trovelaw18_MidxBytes.j2 b_0 id_3 Q w14))) (
 br (decide ((b_0.len:Int) > 524288)) (
 Q (.bool true) w14) (
 trovelaw18_MidxBytes.j2 b_0 id_3 Q w14)))
def trovelaw18_MidxBytes (b_0:Sl) (id_1:(Array Value)) (Q:VWP) (w:World):Prop :=
 nw w id_1 39 fun a16 w17 =>
 trovelaw18_MidxBytes.j1 b_0 a16 Q w17
theorem trovelaw18_MidxBytes.ok (b_0:Sl) (id_1:(Array Value)) (Q:VWP) (w:World) (h:trovelaw18_MidxBytes b_0 id_1 Q w):Calls Tryz.prog 5 ⟨[sV b_0,.agg id_1]⟩ w (Ret Q) :=
 qvb [.tmp 4] qkd Tryz.func5 rfl rfl rfl rfl (.sq [sL 0,sA 3] (fun a b w=>trovelaw18_MidxBytes.j1 a b Q w) .lf (.pr 1 [sL 0,sA 3] (fun a b w=>trovelaw18_MidxBytes.j2 a b Q w) .lf)) (by kernel_rfl) h
end Go.Proofs.YtonmgkkkiejicaaGreat
namespace Go.Proofs.YtonmgkkkiejicaaGreat
open Go Go.Proofs
set_option linter.unusedVariables false
set_option linter.unusedSimpArgs false
attribute [local irreducible] apK cpK mkK br qie mB
def hx1 (k:Nat):Int:=qqd hxD k
def hex1 (x:Int):List Int:=[hx1 (x / 16).toNat,hx1 (x % 16).toNat]
def hexI (l:List Int):List Int:=l.flatMap hex1
def idI (i:Int):List Int:=i :: List.replicate 19 0
def nmI (i:Int):ByteArray:=(qvj ++ ⟨⟨u8 (hexI (idI i))⟩⟩) ++ qzh
theorem nmI_data (i:Int):(nmI i).data.toList=[112,97,99,107,45] ++ (u8 (hexI (idI i)) ++ [46,105,100,120]):=by
 unfold nmI
 rw [ByteArray.data_append,Array.toList_append,ByteArray.data_append,Array.toList_append,List.append_assoc]
 rfl
theorem bl_pre (p:List UInt8) {a b:List UInt8} (h:Op.bytesLess a b=true):Op.bytesLess (p ++ a) (p ++ b)=true:=by
 induction p with
 | nil=>exact h
 | cons c p ih =>
   simp only [List.cons_append,Op.bytesLess,Bool.or_eq_true,Bool.and_eq_true,decide_eq_true_eq,beq_iff_eq]
   exact Or.inr ⟨trivial,ih⟩
theorem bl_app:∀ {a b:List UInt8} (t t':List UInt8),a.length=b.length→Op.bytesLess a b=true→Op.bytesLess (a ++ t) (b ++ t')=true:=by
 intro a
 induction a with
 | nil =>
   intro b t t' hl h
   cases b with
   | nil=>simp [Op.bytesLess] at h
   | cons c b=>simp at hl
 | cons x a ih =>
   intro b t t' hl h
   cases b with
   | nil=>simp at hl
   | cons c b =>
     simp only [List.cons_append,Op.bytesLess,Bool.or_eq_true,Bool.and_eq_true,decide_eq_true_eq,beq_iff_eq] at h ⊢
     rcases h with h | ⟨h1,h2⟩
     · exact Or.inl h
     · exact Or.inr ⟨h1,ih t t' (by simpa using hl) h2⟩
theorem hex_lt1:∀ i:Fin 255,Op.bytesLess (u8 (hex1 (i.1:Nat))) (u8 (hex1 ((i.1+1:Nat):Int)))=true:=by decide +kernel
theorem u8_app (a b:List Int):u8 (a ++ b)=u8 a ++ u8 b:=by unfold u8; exact List.map_append ..
theorem nmI_lt1 (k:Nat) (h:k < 255):ltB (nmI (k:Int)) (nmI ((k+1:Nat):Int))=true:=by
 unfold ltB
 rw [ByteArray.toList_eq,ByteArray.toList_eq,nmI_data,nmI_data]
 refine bl_pre _ ?_
 have e:∀ x:Int,u8 (hexI (idI x))=u8 (hex1 x) ++ u8 (hexI (List.replicate 19 0)):=fun x=>by
  rw [← u8_app]
  rfl
 rw [e,e,List.append_assoc,List.append_assoc]
 exact bl_app _ _ rfl (hex_lt1 ⟨k,h⟩)
theorem hx1_sg:∀ k:Fin 16,isSg (hx1 k.1)=true∧0≤hx1 k.1∧hx1 k.1 < 256:=by decide +kernel
theorem quj (a b:ByteArray):biB (a ++ b)=biB a ++ biB b:=by
 unfold biB
 rw [ByteArray.data_append,Array.toList_append,List.map_append]
theorem nmd_mid (s:ByteArray):qhi (qvj ++ s ++ qzh)=okN s:=by
 have hz:(qvj ++ s ++ qzh).size=5+s.size+4:=by rw [ByteArray.size_append,ByteArray.size_append]; rfl
 have hb:biB (qvj ++ s ++ qzh)=biB qvj ++ (biB s ++ biB qzh):=by rw [quj,quj,List.append_assoc]
 have p5:(biB qvj).length=5:=by rw [qnd]; rfl
 have i4:(biB qzh).length=4:=by rw [qnd]; rfl
 have e1:(qvj ++ s ++ qzh).extract 0 5=qvj:=by
  refine qyh ?_
  rw [qre,hb,List.drop_zero]
  exact List.take_left' p5
 have h1:begB (qvj ++ s ++ qzh) qvj=true:=by
  unfold begB
  have:qvj.size=5:=rfl
  rw [this,e1,hz,beq_self_eq_true,Bool.and_true]
  exact decide_eq_true (by omega)
 have e2:qee (qvj ++ s ++ qzh)=s ++ qzh:=by
  unfold qee
  rw [if_pos h1]
  refine qyh ?_
  have:qvj.size=5:=rfl
  rw [qre,hb,quj,this,List.drop_left' p5,hz]
  exact List.take_of_length_le (by rw [List.length_append,qnd,i4]; omega)
 have hz2:(s ++ qzh).size=s.size+4:=by rw [ByteArray.size_append]; rfl
 have e3:(s ++ qzh).extract ((s ++ qzh).size - 4) (s ++ qzh).size=qzh:=by
  refine qyh ?_
  rw [qre,quj,hz2,Nat.add_sub_cancel,List.drop_left' (qnd s)]
  exact List.take_of_length_le (by rw [i4]; omega)
 have h2:endB (s ++ qzh) qzh=true:=by
  unfold endB
  have:qzh.size=4:=rfl
  rw [this,e3,hz2,beq_self_eq_true,Bool.and_true]
  exact decide_eq_true (by omega)
 have e4:cutS1 (s ++ qzh)=s:=by
  unfold cutS1
  rw [if_pos h2]
  refine qyh ?_
  have:qzh.size=4:=rfl
  rw [qre,quj,this,hz2,List.drop_zero,Nat.add_sub_cancel,Nat.sub_zero]
  exact List.take_left' (qnd s)
 unfold qhi
 rw [h1,e2,h2,e4]
 rfl
theorem qan {s:ByteArray} {j:Nat} (h:j < s.size):qqd s j=(biB s).getD j 0:=by
 have h4:s.data[j]?=some s.data[j]:=Array.getElem?_eq_getElem h
 have h5:(biB s)[j]?=some (s.data[j].toNat:Int):=biB_get (by rw [Array.getElem?_toList]; exact h4)
 rw [List.getD_eq_getElem?_getD,h5]
 unfold qqd
 simp [h4]
theorem qhl (l:List Int):(hexI l).length=2 * l.length:=by
 induction l with
 | nil=>rfl
 | cons x l ih =>
   show (hex1 x ++ hexI l).length=_
   rw [List.length_append,ih,List.length_cons]
   show 2+_=_
   omega
theorem qgl {l:List Int} (hl:∀ x ∈ l,0≤x∧x < 256) {c:Int} (h:c ∈ hexI l):isSg c=true∧0≤c∧c < 256:=by
 obtain ⟨x,hx,hc⟩:=List.mem_flatMap.1 h
 have:=hl x hx
 unfold hex1 at hc
 simp only [List.mem_cons,List.not_mem_nil,or_false] at hc
 rcases hc with rfl | rfl
 · exact hx1_sg ⟨(x / 16).toNat,by omega⟩
 · exact hx1_sg ⟨(x % 16).toNat,by omega⟩
theorem ok_hex {l:List Int} (hl:∀ x ∈ l,0≤x∧x < 256) (h20:l.length=20):okN ⟨⟨u8 (hexI l)⟩⟩=true:=by
 have hB:qzc (hexI l):=fun c hc=>(qgl hl hc).2
 have hs:ByteArray.size ⟨⟨u8 (hexI l)⟩⟩=40:=by
  have:=qnd ⟨⟨u8 (hexI l)⟩⟩
  rw [qal hB,qhl,h20] at this
  exact this.symm
 unfold okN sgs
 rw [hs,List.all_eq_true.2,decide_eq_true rfl,Bool.and_true]
 intro j hj
 have hj:=List.mem_range.1 hj
 rw [qan (by omega),qal hB]
 refine (qgl hl ?_).1
 rw [List.getD_eq_getElem?_getD,List.getElem?_eq_getElem (by rw [qhl]; omega)]
 exact List.getElem_mem _
theorem qvk {i:Int} (h:0≤i∧i < 256):(idI i).length=20∧∀ x ∈ idI i,0≤x∧x < 256:=by
 refine ⟨by unfold idI; simp,fun x hx=>?_⟩
 rcases List.mem_cons.1 hx with rfl | hx
 · exact h
 · have:=List.eq_of_mem_replicate hx
   omega
theorem qjg {i:Int} (h:0≤i∧i < 256):qhi (nmI i)=true:=by
 unfold nmI
 rw [nmd_mid]
 exact ok_hex (qvk h).2 (qvk h).1
theorem nmI_lt {i j:Int} (h:0≤i∧i < j∧j < 256):ltB (nmI i) (nmI j)=true:=by
 obtain ⟨a,rfl⟩:∃ a:Nat,i=a:=⟨i.toNat,by omega⟩
 obtain ⟨d,rfl⟩:∃ d:Nat,j=((a+1+d:Nat):Int):=⟨(j - (a:Int)).toNat - 1,by omega⟩
 have h2:a+1+d < 256:=by omega
 clear h
 have one:∀ k:Nat,k < 255→ltB (nmI (k:Int)) (nmI ((k+1:Nat):Int))=true:=nmI_lt1
 induction d with
 | zero=>exact one a (by omega)
 | succ d ih=>exact qlf (ih (by omega)) (one (a+1+d) (by omega))
end Go.Proofs.YtonmgkkkiejicaaGreat
namespace Go.Proofs.YtonmgkkkiejicaaGreat
open Go Go.Proofs
set_option linter.unusedVariables false
set_option linter.unusedSimpArgs false
attribute [local irreducible] apK cpK mkK br qie mB
theorem hexI_snoc {l:List Int} {i:Nat} (h:i < l.length):hexI (l.take (i+1))=hexI (l.take i) ++ hex1 (l.getD i 0):=by
 unfold hexI
 rw [qkh h,List.flatMap_append]
 simp
section
variable {F0:List Nat} {w0 w:World} {ps rest:List As} {q:Nm} {K:Ending→World→Prop} {i:Int}
theorem Hex.c (h:St F0 w0 w ps) (hk:∀ w',St F0 w0 w' ps→K (.returned (.string ⟨⟨u8 (hexI q.1)⟩⟩)) w'):Calls Tryz.prog 29 ⟨[.agg ⟨nmC q⟩]⟩ w K:=by
 have hB:qzc (hexI q.1):=fun c hc=>(qgl q.2.2 hc).2
 refine qsb (qhb.ok _ _ _ ?_)
 unfold qhb
 refine h.new fun ib w h=>?_
 have h:St F0 w0 w (qt ib (ivs .u8 q.1) :: ps):=h
 unfold qhb.j1 qhb.j2 qhb.j4
 refine loop2 (fun (j:Nat) (t:Sl) (j':Int) w'=>j'=(j:Int)∧j≤20∧St F0 w0 w' (qv 1 t (u8s (hexI (q.1.take j))) :: qt ib (ivs .u8 q.1) :: ps)) (fun j=>20 - j) 0 ⟨rfl,Nat.zero_le _,h.nil 1⟩ ?_
 clear h
 rintro j t _ wL I μ ⟨rfl,hj,h⟩ hin
 unfold qhb.b1
 refine qsc (fun g=>?_) (fun g=>?_)
 · have hj2:j < 20:=by omega
   have hjl:j < q.1.length:=by rw [q.2.1]; exact hj2
   have hx:=q.2.2 _ (mem_getD hjl)
   have hsn:=hexI_snoc hjl
   have hl:=qhl (q.1.take j)
   rw [List.length_take] at hl
   refine h.drewK fun w h=>?_
   refine h.la j rfl q.2.1 hj2 ⟨by decide,?_⟩
   have e1:shrV .u8 (q.1.getD j 0) 4=q.1.getD j 0 / 16:=qoh .u8 _ (t:=4) (by decide)
   have e2:andV .u8 (q.1.getD j 0) 15=q.1.getD j 0 % 16:=andV_mod .u8 _ (t:=4) (by decide)
   refine qx e1 ?_
   have hsz:ByteArray.size { data:=#[48,49,50,51,52,53,54,55,56,57,97,98,99,100,101,102] }=16:=rfl
   refine ⟨⟨by omega,by rw [hsz]; omega⟩,qjc ?_⟩
   refine h.la j rfl q.2.1 hj2 ?_
   refine qx e2 ?_
   refine ⟨⟨by omega,by rw [hsz]; omega⟩,qjc ?_⟩
   refine h.new fun nb w h=>?_
   have h:St F0 w0 w (qt nb (ivs .u8 (hex1 (q.1.getD j 0))) :: qv 1 t (u8s (hexI (q.1.take j))) :: qt ib (ivs .u8 q.1) :: ps):=h
   haveI:Rdb F0 w0 ⟨some ⟨nb,0,none⟩,2,2⟩ (qt nb (ivs .u8 (hex1 (q.1.getD j 0))) :: qv 1 t (u8s (hexI (q.1.take j))) :: qt ib (ivs .u8 q.1) :: ps) 1 (ivs .u8 (hex1 (q.1.getD j 0))):=qdg rfl
   refine h.appI (s:=t) (s2:=⟨some ⟨nb,0,none⟩,2,2⟩) (zs:=hexI (q.1.take j)) (ys:=hex1 (q.1.getD j 0)) (k:=.u8) (by show _+2≤_; omega) fun t' w h=>?_
   rw [← hsn] at h
   refine qx (e':=((j+1:Nat):Int)) (by rw [qh (by omega) (by omega)]; rfl) ?_
   exact ⟨⟨rfl,rfl⟩,hin (j+1) _ _ _ ⟨rfl,by omega,h.sub⟩ (by omega)⟩
 · have:j=20:=by omega
   subst this
   rw [List.take_of_length_le (by rw [q.2.1]; decide)] at h
   unfold qhb.j3
   exact h.bt (s:=t) hB (hk _ h.drop.drop)
theorem name.c (h:St F0 w0 w ps) (hi:0≤i∧i < 256) (hk:∀ w',St F0 w0 w' ps→K (.returned (.string (nmI i))) w'):Calls Tryz.prog 10 ⟨[.int .u8 i]⟩ w K:=by
 refine qsb (qgf.ok _ _ _ ?_)
 unfold qgf
 have hz:zc Tryz.prog 38=⟨ivs .u8 z20⟩:=by kernel_rfl
 rw [hz]
 refine h.new fun ab w h=>?_
 have h:St F0 w0 w (qt ab (ivs .u8 z20) :: ps):=h
 refine h.sa (n:=20) (v:=i) 0 rfl rfl (by decide) fun w h=>?_
 have h:St F0 w0 w (qt ab (nmC ⟨idI i,qvk hi⟩) :: ps):=h
 refine h.lA (b:=ab) ((inferInstance:Rec nmC 20).len _) ?_
 refine Hex.c (q:=⟨idI i,qvk hi⟩) h fun w h=>⟨_,rfl,?_⟩
 have hB:qzc (hexI (idI i)):=fun c hc=>(qgl (qvk hi).2 hc).2
 have hs:ByteArray.size ⟨⟨u8 (hexI (idI i))⟩⟩=40:=by
  have:=qnd ⟨⟨u8 (hexI (idI i))⟩⟩
  rw [qal hB,qhl,(qvk hi).1] at this
  exact this.symm
 have h5:ByteArray.size { data:=#[112,97,99,107,45] }=5:=rfl
 have h4:ByteArray.size { data:=#[46,105,100,120] }=4:=rfl
 refine ⟨by rw [hs,h5]; decide,qjc ⟨?_,qjc ?_⟩⟩
 · rw [ByteArray.size_append,hs,h5,h4]; decide
 · exact hk w h.drop
end
end Go.Proofs.YtonmgkkkiejicaaGreat
namespace Go.Proofs.YtonmgkkkiejicaaGreat
open Go Go.Proofs
set_option linter.unusedVariables false
set_option linter.unusedSimpArgs false
attribute [local irreducible] apK cpK mkK br qie mB
theorem sort_of {P L:List Mk} (hp:P.Perm L) (hs:P.Pairwise fun x y=>ltB x.1 y.1=true):qld L=P:=by
 have hs2:P.Pairwise fun x y=>ltB y.1 x.1=false:=hs.imp fun {a b} h=>by
  cases e:ltB b.1 a.1 with
  | false=>rfl
  | true =>
    have:=qlf h e
    rw [qcd] at this
    cases this
 refine ((qrd L).trans hp.symm).eq_of_pairwise (le:=fun x y=>ltB y.1 x.1=false) (fun a b ha hb h1 h2=>?_) (qel L) hs2
 have hn:=qdh h2 h1
 have ha:=hp.mem_iff.2 ((qrd L).mem_iff.1 ha)
 obtain ⟨i,hi,rfl⟩:=List.getElem_of_mem ha
 obtain ⟨j,hj,rfl⟩:=List.getElem_of_mem hb
 rcases Nat.lt_trichotomy i j with g | g | g
 · have:=List.pairwise_iff_getElem.1 hs i j hi hj g
   rw [hn,qcd] at this; cases this
 · subst g; rfl
 · have:=List.pairwise_iff_getElem.1 hs j i hj hi g
   rw [hn,qcd] at this; cases this
theorem notBad_of {rw:Mk→List Rw} {P:List Mk} (hn:∀ m ∈ P,qhi m.1=true) (hs:P.Pairwise fun x y=>ltB x.1 y.1=true) (hr:∀ m ∈ P,¬ badR (rw m)):¬ badM rw P:=by
 rintro ⟨i,hi,h⟩
 rcases h with h | ⟨h0,h⟩ | h
 · rw [hn _ (List.getElem_mem hi)] at h; cases h
 · have:=List.pairwise_iff_getElem.1 hs (i - 1) i (by omega) hi (by omega)
   rw [h,qcd] at this; cases this
 · exact hr _ (List.getElem_mem hi) h
def zNm:Nm:=⟨z20,by refine ⟨rfl,?_⟩; decide⟩
def qoe (n:Int):Rw:=(zNm,0,n)
theorem rowK_ok {n:Int} (h:0≤n∧n≤2147483647):¬ badR [qoe n]:=by
 rintro (⟨r,hr,h2⟩ | h2)
 · have:r=qoe n:=by simpa using hr
   subst this
   have h2:n < 0 ∨ 2147483647 < n:=h2
   omega
 · exact h2 (by simp)
theorem nmI_ne {i j:Int} (h:0≤i∧i < j∧j < 256):nmI i ≠ nmI j:=fun e=>by
 have:=nmI_lt h
 rw [e,qcd] at this
 cases this
section
variable {F0:List Nat} {w0 w:World} {ps rest:List As} {t3:Sl} {K:Ending→World→Prop} {i1 i2 n1 n2:Nat}
def mK1 (n1:Nat):Mk:=(nmI 2,⟨some ⟨n1,0,none⟩,1,1⟩)
def mK2 (n2:Nat):Mk:=(nmI 1,⟨some ⟨n2,0,none⟩,1,1⟩)
open Classical in
noncomputable def rwK (m:Mk):List Rw:=if m.1=nmI 2 then [qoe 50] else [qoe 12]
theorem rwK_1:rwK (mK1 n1)=[qoe 50]:=by
 unfold rwK
 exact if_pos rfl
theorem rwK_2:rwK (mK2 n2)=[qoe 12]:=by
 unfold rwK
 rw [if_neg]
 exact nmI_ne (by decide)
def spK:Sp:=(zNm,0,12)
theorem known_O {O:List Sp} (h:MgO (qjj rwK [mK2 n2,mK1 n1]) O):O=[spK]:=by
 have hS:qjj rwK [mK2 n2,mK1 n1]=[(zNm,0,12),(zNm,1,50)]:=by
  unfold qjj
  simp only [List.zipIdx_cons,List.zipIdx_nil,List.flatMap_cons,List.flatMap_nil,rwK_1,rwK_2]
  rfl
 rw [hS] at h
 obtain ⟨h1,h2,h3⟩:=h
 have hid:∀ o ∈ O,o.1=zNm:=fun o ho=>by
  have:=h2 o ho
  simp only [List.mem_cons,List.not_mem_nil,or_false] at this
  rcases this with rfl | rfl <;> rfl
 obtain ⟨o,ho,e1,e2⟩:=h3 spK (by simp [spK])
 have hos:o=spK:=by
  have:=h2 o ho
  simp only [List.mem_cons,List.not_mem_nil,or_false] at this
  rcases this with rfl | rfl
  · rfl
  · have e2:(1:Int)≤0:=e2
    omega
 subst hos
 cases O with
 | nil=>cases ho
 | cons a O =>
   cases O with
   | nil=>simp only [List.mem_singleton] at ho; rw [ho]
   | cons b O =>
     exfalso
     rw [List.pairwise_cons] at h1
     have:=h1.1 b (by simp)
     rw [hid a (by simp),hid b (by simp),qzd] at this
     cases this
theorem qek:VM [nmI 1,nmI 2] [spK] where
 nm n hn:=by
  simp only [List.mem_cons,List.not_mem_nil,or_false] at hn
  rcases hn with rfl | rfl
  · exact qjg (by decide)
  · exact qjg (by decide)
 so:=by
  rw [List.pairwise_cons]
  refine ⟨fun b hb=>?_,List.pairwise_singleton _ _⟩
  rw [List.mem_singleton.1 hb]
  exact nmI_lt (by decide)
 ln:=by decide
 ris:=List.pairwise_singleton _ _
 ol:=by decide
 rg o ho:=by
  rw [List.mem_singleton.1 ho]
  unfold spK
  decide
theorem nmsM_flat {NL:List ByteArray} (h:∀ n ∈ NL,qhi n=true):(qfg NL).length=50 * NL.length+(4 - 50 * NL.length % 4) % 4:=by
 unfold qfg padB
 rw [List.length_append,List.length_replicate,nmsM_len h]
theorem known_len:(mB [nmI 1,nmI 2] [spK]).length=1244:=by
 rw [qji,qej]
 unfold mdL
 simp only [List.flatten_cons,List.flatten_nil,List.append_nil,List.length_append,qem,qii,qlg,nmsM_flat qek.nm]
 rfl
theorem known_2 {t4:Int} (h4:t4=0) (h:St F0 w0 w (rdA 1 t3 (u8s (mB [nmI 1,nmI 2] [spK])) :: ps)) (hl:t3.len=1244) (hc:t3.len≤t3.cap) (hk:∀ w',St F0 w0 w' ps→K (.returned (.bool true)) w'):qg.j2 t3 t4 (fun v w'=>K (.returned v) w') w:=by
 subst h4
 unfold qg.j2
 refine MOpen.c (b:=t3) h hc qek.ok (fun w hz h=>?_) (fun tb sp si ss NL O w hV hb hu h=>⟨some ⟨tb,0,none⟩,0,rfl,?_⟩)
 · exfalso
   rcases hz with hz | hz
   · rw [known_len] at hz; omega
   · exact hz _ _ qek rfl
 obtain ⟨e1,e2⟩:=hu _ _ qek rfl
 subst e1 e2
 refine qjc ?_
 refine qxg (by rfl) ?_
 refine qxg (by rfl) ?_
 have hq:zNm ∈ qdc [spK]:=by simp [qdc,spK]
 have hfd:fdM [nmI 1,nmI 2] [spK] zNm=(nmI 1,12):=by
  have:=fdM_at qek (o:=spK) (by simp)
  exact this
 refine MFind.c (q:=zNm) (NL:=[nmI 1,nmI 2]) (O:=[spK]) h hV fun w h=>⟨_,_,rfl,?_⟩
 rw [hfd,decide_eq_true hq]
 have hz:zc Tryz.prog 52=⟨plC (⟨#[]⟩,0)⟩:=by kernel_rfl
 rw [hz]
 refine h.new fun pb w h=>?_
 have h:St F0 w0 w (qt pb (plC (⟨#[]⟩,0)) :: qt tb [sV sp,sV si,sV ss] :: qv 1 sp ([nmI 1,nmI 2].flatMap stC) :: qv 20 si ((qdc [spK]).flatMap nmC) :: qv 22 ss ([spK].flatMap spC) :: rdA 1 t3 (u8s (mB [nmI 1,nmI 2] [spK])) :: ps):=h
 have hsi:=(h.rdb si).1
 have hsi2:si.len=1:=by
  have:20=si.len * 20:=hsi
  omega
 have sto:∀ v ∈ (⟨plC (nmI 1,12)⟩:Array Value),qec v:=fun v hv=>by
  have hv:v ∈ plC (nmI 1,12):=by simpa using hv
  simp [plC] at hv
  rcases hv with rfl | rfl <;> trivial
 refine ⟨rfl,?_⟩
 refine h.sA (b:=pb) (l':=plC (nmI 1,12)) rfl rfl sto fun w h=>?_
 refine h.drewK fun w h=>?_
 refine qck rfl ?_
 have fin:∀ w,St F0 w0 w (qt pb (plC (nmI 1,12)) :: qt tb [sV sp,sV si,sV ss] :: qv 1 sp ([nmI 1,nmI 2].flatMap stC) :: qv 20 si ((qdc [spK]).flatMap nmC) :: qv 22 ss ([spK].flatMap spC) :: rdA 1 t3 (u8s (mB [nmI 1,nmI 2] [spK])) :: ps) →
  br (ByteArray.toList (nmI 1) == ByteArray.toList (nmI 1)) (ldI .i64 w (Addr.add ⟨pb,0,none⟩ 1) fun x18=>br (x18 == 12) (qri 12 [.pointer (some ⟨tb,0,none⟩)] w fun r21 w20=>br (r21 == 1) (qqf 16 [.pointer (some ⟨tb,0,none⟩)] w20 fun r24 w23=>br ((r24.len:Int) == 2) (K (.returned (.bool ((t3.len:Int) == 1244))) w23) (K (.returned (.bool false)) w23)) (K (.returned (.bool false)) w20)) (K (.returned (.bool false)) w)) (K (.returned (.bool false)) w):=fun w h=>by
  refine qck (by simp) ?_
  have hld:∀ {Z:Int→Prop},Z 12→ldI .i64 w (Addr.add ⟨pb,0,none⟩ 1) Z:=fun hz=>by
   rw [qmb]
   exact h.blk.ldI rfl hz
  refine hld (qck rfl ?_)
  refine MLen.c (tb:=tb) h ⟨_,rfl,?_⟩
  refine qck (by rw [hsi2]; rfl) ?_
  refine MPacks.c (tb:=tb) (NL:=[nmI 1,nmI 2]) h (by decide) fun t w ht h=>⟨t,rfl,?_⟩
  refine qck (by rw [ht]; rfl) ?_
  have:=hk w h.sub
  rw [hl]
  exact this
 have hls:∀ {w':World} {Z:ByteArray→Prop},St F0 w0 w' (qt pb (plC (nmI 1,12)) :: qt tb [sV sp,sV si,sV ss] :: qv 1 sp ([nmI 1,nmI 2].flatMap stC) :: qv 20 si ((qdc [spK]).flatMap nmC) :: qv 22 ss ([spK].flatMap spC) :: rdA 1 t3 (u8s (mB [nmI 1,nmI 2] [spK])) :: ps)→Z (nmI 1)→ldS w' (Addr.add ⟨pb,0,none⟩ 0) Z:=fun h hz=>by
  rw [qmb]
  exact h.blk.ldS (n:=nmI 1) rfl hz
 refine ⟨?_,?_⟩
 · refine hls h ?_
   exact name.c (i:=1) h (by decide) fun w h=>⟨_,rfl,fin w h⟩
 · refine name.c (i:=1) h (by decide) fun w h=>⟨_,rfl,?_⟩
   exact hls h (fin w h)
theorem known18.c (h:St F0 w0 w ps) (hk:∀ w',St F0 w0 w' ps→K (.returned (.bool true)) w'):Calls Tryz.prog 6 ⟨[]⟩ w K:=by
 refine qsb (qg.ok _ _ ?_)
 unfold qg
 rw [zc_row]
 refine h.new fun i1 w h=>?_
 have h:St F0 w0 w (qt i1 (rwC (qoe 0)) :: ps):=h
 refine ⟨rfl,?_⟩
 refine h.setR (f:=rwC) (x:=qoe 12) (qwd _) fun w h=>?_
 unfold qg.j1
 rw [zc_row]
 refine h.new fun i2 w h=>?_
 have h:St F0 w0 w (qt i2 (rwC (qoe 0)) :: qt i1 (rwC (qoe 12)) :: ps):=h
 refine ⟨rfl,?_⟩
 refine h.setR (f:=rwC) (x:=qoe 50) (qwd _) fun w h=>?_
 refine h.drewK fun w h=>?_
 have h:St F0 w0 w (qt i1 (rwC (qoe 12)) :: qt i2 (rwC (qoe 50)) :: noA :: noA :: ps):=by
  have h2:St F0 w0 w (noA :: noA :: qt i2 (rwC (qoe 50)) :: qt i1 (rwC (qoe 12)) :: ps):=(h.bag0).bag0
  exact h2.sub
 have hM:∀ {i:Int} {w':World} {Z1 Z2:As} {Z:ByteArray→World→Prop},0≤i∧i < 256→St F0 w0 w' (qt i1 (rwC (qoe 12)) :: qt i2 (rwC (qoe 50)) :: Z1 :: Z2 :: ps)→(∀ w'',St F0 w0 w'' (qt i1 (rwC (qoe 12)) :: qt i2 (rwC (qoe 50)) :: Z1 :: Z2 :: ps)→Z (nmI i) w'') →
  Calls Tryz.prog 10 ⟨[.int .u8 i]⟩ w' fun e w''=>∃ r:ByteArray,e=.returned (.string r)∧Z r w'':=fun hi h hz=>name.c h hi fun w h=>⟨_,rfl,hz w h⟩
 have hM1:∀ {w':World} {Z1 Z2:As} {Z:ByteArray→World→Prop},St F0 w0 w' (qt i1 (rwC (qoe 12)) :: qt i2 (rwC (qoe 50)) :: Z1 :: Z2 :: ps)→(∀ w'',St F0 w0 w'' (qt i1 (rwC (qoe 12)) :: qt i2 (rwC (qoe 50)) :: Z1 :: Z2 :: ps)→Z (nmI 1) w'') →
  Calls Tryz.prog 10 ⟨[.int .u8 1]⟩ w' fun e w''=>∃ r:ByteArray,e=.returned (.string r)∧Z r w'':=hM (by decide)
 have hM2:∀ {w':World} {Z1 Z2:As} {Z:ByteArray→World→Prop},St F0 w0 w' (qt i1 (rwC (qoe 12)) :: qt i2 (rwC (qoe 50)) :: Z1 :: Z2 :: ps)→(∀ w'',St F0 w0 w'' (qt i1 (rwC (qoe 12)) :: qt i2 (rwC (qoe 50)) :: Z1 :: Z2 :: ps)→Z (nmI 2) w'') →
  Calls Tryz.prog 10 ⟨[.int .u8 2]⟩ w' fun e w''=>∃ r:ByteArray,e=.returned (.string r)∧Z r w'':=hM (by decide)
 have hA1:∀ {w':World} {Z1 Z2:As} {Z:Array Value→Prop},St F0 w0 w' (qt i1 (rwC (qoe 12)) :: qt i2 (rwC (qoe 50)) :: Z1 :: Z2 :: ps)→Z ⟨rwC (qoe 12)⟩→ldA w' ⟨i1,0,none⟩ 22 Z:=fun h hz=>h.lA (b:=i1) (qwd _) hz
 have hA2:∀ {w':World} {Z1 Z2:As} {Z:Array Value→Prop},St F0 w0 w' (qt i1 (rwC (qoe 12)) :: qt i2 (rwC (qoe 50)) :: Z1 :: Z2 :: ps)→Z ⟨rwC (qoe 50)⟩→ldA w' ⟨i2,0,none⟩ 22 Z:=fun h hz=>h.drop.lA (b:=i2) (qwd _) hz
 have hN1:∀ {w':World} {Z1 Z2:As} {Z:Addr→World→Prop},St F0 w0 w' (qt i1 (rwC (qoe 12)) :: qt i2 (rwC (qoe 50)) :: Z1 :: Z2 :: ps)→(∀ nb w'',St F0 w0 w'' (qt i1 (rwC (qoe 12)) :: qt i2 (rwC (qoe 50)) :: qt nb (rwC (qoe 50)) :: Z2 :: ps)→Z ⟨nb,0,none⟩ w'') →
  (⟨rwC (qoe 50)⟩:Array Value).size=22∧nw w' ⟨spl ([.int .u8 0,.int .u8 0,.int .u8 0,.int .u8 0,.int .u8 0,.int .u8 0,.int .u8 0,.int .u8 0,.int .u8 0,.int .u8 0,.int .u8 0,.int .u8 0,.int .u8 0,.int .u8 0,.int .u8 0,.int .u8 0,.int .u8 0,.int .u8 0,.int .u8 0,.int .u8 0,.int .u32 0,.int .i64 0]:List Value) 0 (⟨rwC (qoe 50)⟩:Array Value)⟩ 42 Z:=fun {w' Z1 Z2 Z} h hz=>by
  refine ⟨qwd _,?_⟩
  rw [qvg (by rw [qwd]; rfl)]
  refine h.new fun nb w h=>hz nb w ?_
  have h:St F0 w0 w (qt nb (rwC (qoe 50)) :: qt i1 (rwC (qoe 12)) :: qt i2 (rwC (qoe 50)) :: Z1 :: Z2 :: ps):=h
  exact h.sub
 have hN2:∀ {w':World} {Z1 Z2:As} {Z:Addr→World→Prop},St F0 w0 w' (qt i1 (rwC (qoe 12)) :: qt i2 (rwC (qoe 50)) :: Z1 :: Z2 :: ps)→(∀ nb w'',St F0 w0 w'' (qt i1 (rwC (qoe 12)) :: qt i2 (rwC (qoe 50)) :: Z1 :: qt nb (rwC (qoe 12)) :: ps)→Z ⟨nb,0,none⟩ w'') →
  (⟨rwC (qoe 12)⟩:Array Value).size=22∧nw w' ⟨spl ([.int .u8 0,.int .u8 0,.int .u8 0,.int .u8 0,.int .u8 0,.int .u8 0,.int .u8 0,.int .u8 0,.int .u8 0,.int .u8 0,.int .u8 0,.int .u8 0,.int .u8 0,.int .u8 0,.int .u8 0,.int .u8 0,.int .u8 0,.int .u8 0,.int .u8 0,.int .u8 0,.int .u32 0,.int .i64 0]:List Value) 0 (⟨rwC (qoe 12)⟩:Array Value)⟩ 42 Z:=fun {w' Z1 Z2 Z} h hz=>by
  refine ⟨qwd _,?_⟩
  rw [qvg (by rw [qwd]; rfl)]
  refine h.new fun nb w h=>hz nb w ?_
  have h:St F0 w0 w (qt nb (rwC (qoe 12)) :: qt i1 (rwC (qoe 12)) :: qt i2 (rwC (qoe 50)) :: Z1 :: Z2 :: ps):=h
  exact h.sub
 have leaf:∀ {w':World} {n1 n2:Nat},St F0 w0 w' (qt i1 (rwC (qoe 12)) :: qt i2 (rwC (qoe 50)) :: qt n1 (rwC (qoe 50)) :: qt n2 (rwC (qoe 12)) :: ps) →
  (⟨[.string (nmI 2),.slice (some ⟨n1,0,none⟩) 1 1]⟩:Array Value).size=2∧(⟨[.string (nmI 1),.slice (some ⟨n2,0,none⟩) 1 1]⟩:Array Value).size=2 ∧
  nw w' ⟨(spl (spl [.string ({ data:=#[] }),.slice none 0 0,.string ({ data:=#[] }),.slice none 0 0] 0 (⟨[.string (nmI 2),.slice (some ⟨n1,0,none⟩) 1 1]⟩:Array Value)) 2 (⟨[.string (nmI 1),.slice (some ⟨n2,0,none⟩) 1 1]⟩:Array Value))⟩ 46 fun a w=>qyb 9 [.slice (some a) 2 2] w fun r q w=>qg.j2 r q (fun v w'=>K (.returned v) w') w:=fun {w' n1 n2} h=>by
  refine ⟨rfl,rfl,?_⟩
  refine h.new fun ab w h=>?_
  have h:St F0 w0 w (qt ab (mks [mK1 n1,mK2 n2]) :: qt i1 (rwC (qoe 12)) :: qt i2 (rwC (qoe 50)) :: qt n1 (rwC (qoe 50)) :: qt n2 (rwC (qoe 12)) :: ps):=h
  have h:St F0 w0 w (qv 2 ⟨some ⟨ab,0,none⟩,2,2⟩ (mks [mK1 n1,mK2 n2]) :: qt i1 (rwC (qoe 12)) :: qt i2 (rwC (qoe 50)) :: qt n1 (rwC (qoe 50)) :: qt n2 (rwC (qoe 12)) :: ps):=h.ownBR rfl
  have h2:St F0 w0 w (qt n1 ([qoe 50].flatMap rwC) :: qt n2 ([qoe 12].flatMap rwC) :: qv 2 ⟨some ⟨ab,0,none⟩,2,2⟩ (mks [mK1 n1,mK2 n2]) :: ps):=by
   rw [qci,qci]
   exact h.sub
  have h3:St F0 w0 w (qv 22 (mK1 n1).2 ([qoe 50].flatMap rwC) :: qt n2 ([qoe 12].flatMap rwC) :: qv 2 ⟨some ⟨ab,0,none⟩,2,2⟩ (mks [mK1 n1,mK2 n2]) :: ps):=h2.ownBR (by rw [qci,qwd])
  have h4:St F0 w0 w (qv 22 (mK1 n1).2 ([qoe 50].flatMap rwC) :: qv 22 (mK2 n2).2 ([qoe 12].flatMap rwC) :: qv 2 ⟨some ⟨ab,0,none⟩,2,2⟩ (mks [mK1 n1,mK2 n2]) :: ps):=h3.tail fun _ _ _ h=>h.ownBR (by rw [qci,qwd])
  have hsort:qld [mK1 n1,mK2 n2]=[mK2 n2,mK1 n1]:=sort_of (List.Perm.swap _ _ _) (by
   rw [List.pairwise_cons]
   refine ⟨fun b hb=>?_,List.pairwise_singleton _ _⟩
   rw [List.mem_singleton.1 hb]
   exact nmI_lt (by decide))
  have hst:[mK2 n2,mK1 n1].Pairwise fun x y=>ltB x.1 y.1=true:=by
   rw [List.pairwise_cons]
   refine ⟨fun b hb=>?_,List.pairwise_singleton _ _⟩
   rw [List.mem_singleton.1 hb]
   exact nmI_lt (by decide)
  have hnb:¬ badM rwK [mK2 n2,mK1 n1]:=by
   refine notBad_of (fun m hm=>?_) hst (fun m hm=>?_)
   · simp only [List.mem_cons,List.not_mem_nil,or_false] at hm
     rcases hm with rfl | rfl
     · exact qjg (by decide)
     · exact qjg (by decide)
   · simp only [List.mem_cons,List.not_mem_nil,or_false] at hm
     rcases hm with rfl | rfl
     · rw [rwK_2]; exact rowK_ok (by decide)
     · rw [rwK_1]; exact rowK_ok (by decide)
  refine MBuild.c (s:=⟨some ⟨ab,0,none⟩,2,2⟩) (L:=[mK1 n1,mK2 n2]) (rw:=rwK) h4 (by simp) (fun m hm=>?_) ?_ (fun m hm=>?_) (fun w hb h=>?_) (fun w hb h5 h=>?_) (fun O t w hb hl hO hO2 ht h=>⟨t,0,rfl,?_⟩)
  · simp only [List.mem_cons,List.not_mem_nil,or_false] at hm
    rcases hm with rfl | rfl
    · have:=qtf (qjg (i:=2) (by decide))
      show (nmI 2).size≤_
      omega
    · have:=qtf (qjg (i:=1) (by decide))
      show (nmI 1).size≤_
      omega
  · simp only [List.map_cons,List.map_nil,rwK_1,rwK_2]
    decide
  · simp only [List.mem_cons,List.not_mem_nil,or_false] at hm
    rcases hm with rfl | rfl
    · rw [rwK_1]; infer_instance
    · rw [rwK_2]; infer_instance
  · rw [hsort] at hb
    exact absurd hb hnb
  · rw [hsort] at h5
    exfalso
    rcases h5 with h5 | ⟨O,hO,h5⟩
    · simp at h5
    · rw [known_O hO] at h5
      simp at h5
  · rw [hsort] at hO ht h
    rw [known_O hO] at ht h
    have ht1:t.len=1244:=ht.1.trans known_len
    exact known_2 rfl h ht1 (by omega) fun w h=>hk w h.sub
 repeat' first
  | with_reducible exact leaf (by assumption)
  | with_reducible refine hM1 (by assumption) fun w h=>?_
  | with_reducible refine hM2 (by assumption) fun w h=>?_
  | with_reducible refine hN1 (by assumption) fun nb w h=>?_
  | with_reducible refine hN2 (by assumption) fun nb w h=>?_
  | with_reducible refine hA1 (by assumption) ?_
  | with_reducible refine hA2 (by assumption) ?_
  | with_reducible refine And.intro ?_ ?_
end
end Go.Proofs.YtonmgkkkiejicaaGreat
namespace Go.Proofs.YtonmgkkkiejicaaGreat
open Go Go.Proofs
set_option linter.unusedVariables false
set_option maxRecDepth 100000
def qff (s_0:ByteArray) (Q:VWP) (w:World):Prop :=
 br (((ByteArray.size s_0:Int):Int) != 49) (
 Q (.bool false) w) (
 bd 5 (ByteArray.size s_0) fun n1 =>
 lt (ByteArray.extract s_0 0 n1) fun x2 =>
 br (!(ByteArray.toList x2 == ByteArray.toList ({ data:=#[112,97,99,107,45] }))) (
 Q (.bool false) w) (
 bd 45 (ByteArray.size s_0) fun n3 =>
 lt (ByteArray.extract s_0 n3 (ByteArray.size s_0)) fun x4 =>
 br (!(ByteArray.toList x4 == ByteArray.toList ({ data:=#[46,105,100,120] }))) (
 Q (.bool false) w) (
 bd 45 (ByteArray.size s_0) fun n5 =>
 bd 5 n5 fun n6 =>
 lt (ByteArray.extract s_0 n6 n5) fun x7 =>
 ct_GI 70 [.string x7] w fun r10 r11 w9 =>
 nw w9 (zc Tryz.prog 38) 38 fun a12 w13 =>
 (r10).size=20 ∧
 stA w13 a12 r10 fun w14 =>
 Q (.bool (r11 == 0)) w14)))
theorem qff.ok (s_0:ByteArray) (Q:VWP) (w:World) (h:qff s_0 Q w):Calls Tryz.prog 37 ⟨[.string s_0]⟩ w (Ret Q) :=
 qvb [.tmp 2] qkd Tryz.func37 rfl rfl rfl rfl .lf (by kernel_rfl) h
def qc.j11 (d_0:Sl) (t5:OAd) (Q:VWP) (w:World):Prop :=
 lt (World.drew w) fun w1 =>
 (qqf 39 [.pointer t5] w1 fun r4 w3 =>
 (btS w3 r4.a r4.len fun x5 =>
 btS w3 d_0.a d_0.len fun x6 =>
 br (!(ByteArray.toList x5 == ByteArray.toList x6)) (
 Q (.tuple ⟨[.pointer none,.int .i64 2]⟩) w3) (
 Q (.tuple ⟨[.pointer t5,.int .i64 0]⟩) w3))∧(
 btS w3 d_0.a d_0.len fun x7 =>
 btS w3 r4.a r4.len fun x8 =>
 br (!(ByteArray.toList x8 == ByteArray.toList x7)) (
 Q (.tuple ⟨[.pointer none,.int .i64 2]⟩) w3) (
 Q (.tuple ⟨[.pointer t5,.int .i64 0]⟩) w3)))∧(
 btS w1 d_0.a d_0.len fun x9 =>
 qqf 39 [.pointer t5] w1 fun r12 w11 =>
 btS w11 r12.a r12.len fun x13 =>
 br (!(ByteArray.toList x13 == ByteArray.toList x9)) (
 Q (.tuple ⟨[.pointer none,.int .i64 2]⟩) w11) (
 Q (.tuple ⟨[.pointer t5,.int .i64 0]⟩) w11))
def qc.j14 (d_0:Sl) (t5:OAd) (t7 t10 t12 t13:Int) (Q:VWP) (nx1:Sl→OAd→Int→Int→Int→Int→WP) (w:World):Prop :=
 lt (IntKind.i64.wrap (t13+1)) fun x14 =>
 nx1 d_0 t5 t7 t10 t12 x14 w
def qc.j19 (d_0:Sl) (t5:OAd) (t7 t10 t12 t13:Int) (t16:Addr) (Q:VWP) (nx1:Sl→OAd→Int→Int→Int→Int→WP) (w:World):Prop :=
 lt (World.drew w) fun w15 =>
 nz t5 fun a16 =>
 ldL w15 (Addr.add a16 1) fun x17 =>
 ldA w15 t16 22 fun c18 =>
 (c18).size=22 ∧
 nw w15 ⟨(spl [.int .u8 0,.int .u8 0,.int .u8 0,.int .u8 0,.int .u8 0,.int .u8 0,.int .u8 0,.int .u8 0,.int .u8 0,.int .u8 0,.int .u8 0,.int .u8 0,.int .u8 0,.int .u8 0,.int .u8 0,.int .u8 0,.int .u8 0,.int .u8 0,.int .u8 0,.int .u8 0,.int .i64 0,.int .i64 0] 0 c18)⟩ 103 fun a19 w20 =>
 rdO w20 (some a19) (1 * 22) fun c21 =>
 apK Tryz.prog 103 w20 x17.a x17.len x17.cap 1 c21 fun s22 w23 =>
 nz t5 fun a24 =>
 st w23 (Addr.add a24 1) (sV s22) fun w25 =>
 qc.j14 d_0 t5 t7 t10 t12 t13 Q nx1 w25
def qc.j18 (d_0:Sl) (t5:OAd) (t7 t10 t12 t13:Int) (t15:OAd) (t16:Addr) (Q:VWP) (nx1:Sl→OAd→Int→Int→Int→Int→WP) (w:World):Prop :=
 qri 35 [.pointer t15,.int .i64 4] w fun r28 w27 =>
 st w27 (Addr.add t16 21) (.int .i64 r28) fun w29 =>
 lt (World.drew w29) fun w30 =>
 ldI .i64 w30 (Addr.add t16 20) fun x31 =>
 br (decide (x31 ≥ t7)) (
 Q (.tuple ⟨[.pointer none,.int .i64 2]⟩) w30) (
 ldI .i64 w30 (Addr.add t16 21) fun x32 =>
 br (decide (x32 > 2147483647)) (
 Q (.tuple ⟨[.pointer none,.int .i64 2]⟩) w30) (
 br (decide (t13 > 0)) (
 nz t5 fun a33 =>
 ldL w30 (Addr.add a33 1) fun x34 =>
 lt (IntKind.i64.wrap (t13 - 1)) fun x35 =>
 ixS x34.a x34.len x35 22 fun a36 =>
 ldA w30 (Addr.add a36 0) 20 fun c37 =>
 ldA w30 (Addr.add t16 0) 20 fun c38 =>
 qxm 38 [.agg c37,.agg c38] w30 fun r41 w40 =>
 br (!r41) (
 Q (.tuple ⟨[.pointer none,.int .i64 2]⟩) w40) (
 qc.j19 d_0 t5 t7 t10 t12 t13 t16 Q nx1 w40)) (
 qc.j19 d_0 t5 t7 t10 t12 t13 t16 Q nx1 w30)))
def qc.j17 (d_0:Sl) (t5:OAd) (t7 t10 t12 t13:Int) (t15:OAd) (t16:Addr) (Q:VWP) (nx1:Sl→OAd→Int→Int→Int→Int→WP) (w:World):Prop :=
 qri 35 [.pointer t15,.int .i64 4] w fun r44 w43 =>
 st w43 (Addr.add t16 20) (.int .i64 r44) fun w45 =>
 qc.j18 d_0 t5 t7 t10 t12 t13 t15 t16 Q nx1 w45
def qc.b2 (d_0:Sl) (t5:OAd) (t7 t10 t12 t13:Int) (t15:OAd) (t16:Addr) (t17:Sl) (t18:Int) (Q:VWP) (nx1:Sl→OAd→Int→Int→Int→Int→WP) (nx2:Sl→OAd→Int→Int→Int→Int→OAd→Addr→Sl→Int→WP) (w:World):Prop :=
 br (decide (t18 < 20)) (
 ixS t17.a t17.len t18 1 fun a46 =>
 ldI .u8 w a46 fun x47 =>
 ixA (Addr.add t16 0) 20 t18 1 fun a48 =>
 st w a48 (.int .u8 x47) fun w49 =>
 lt (IntKind.i64.wrap (t18+1)) fun x50 =>
 nx2 d_0 t5 t7 t10 t12 t13 t15 t16 t17 x50 w49) (
 qc.j17 d_0 t5 t7 t10 t12 t13 t15 t16 Q nx1 w)
def qc.l2 (d_0:Sl) (t5:OAd) (t7 t10 t12 t13:Int) (t15:OAd) (t16:Addr) (t17:Sl) (t18:Int) (Q:VWP) (nx1:Sl→OAd→Int→Int→Int→Int→WP) (w:World):Prop :=
 ∃ (I:Int→WP) (μ:Int→World→Nat),I t18 w∧∀ t18:Int,∀ w:World,I t18 w→qc.b2 d_0 t5 t7 t10 t12 t13 t15 t16 t17 t18 Q nx1 (fun d_0' t5' t7' t10' t12' t13' t15' t16' t17' t18' w'=>(d_0'=d_0∧t5'=t5∧t7'=t7∧t10'=t10∧t12'=t12∧t13'=t13∧t15'=t15∧t16'=t16∧t17'=t17)∧I t18' w'∧μ t18' w' < μ t18 w) w
def qc.j20 (d_0:Sl) (t5:OAd) (t7 t10 t12 t13:Int) (t15:OAd) (t16:Addr) (t17:Sl) (t18:Int) (Q:VWP) (nx1:Sl→OAd→Int→Int→Int→Int→WP) (w:World):Prop :=
 qc.l2 d_0 t5 t7 t10 t12 t13 t15 t16 t17 t18 Q nx1 w
def qc.j16 (d_0:Sl) (t5:OAd) (t7 t10 t12 t13:Int) (t15:OAd) (t16:Addr) (t17:Sl) (Q:VWP) (nx1:Sl→OAd→Int→Int→Int→Int→WP) (w:World):Prop :=
 qc.j20 d_0 t5 t7 t10 t12 t13 t15 t16 t17 0 Q nx1 w
def qc.j15 (d_0:Sl) (t5:OAd) (t7 t10 t12 t13:Int) (t14:OAd) (t15:OAd) (Q:VWP) (nx1:Sl→OAd→Int→Int→Int→Int→WP) (w:World):Prop :=
 nw w (zc Tryz.prog 103) 103 fun a51 w52 =>
 qqf 36 [.pointer t14,.int .i64 20] w52 fun r55 w54 =>
 qc.j16 d_0 t5 t7 t10 t12 t13 t15 a51 r55 Q nx1 w54
def qc.j13 (d_0:Sl) (t5:OAd) (t7 t10 t12 t13:Int) (Q:VWP) (nx1:Sl→OAd→Int→Int→Int→Int→WP) (w:World):Prop :=
 lt (IntKind.i64.wrap (72+t10)) fun x56 =>
 lt (IntKind.i64.wrap (x56+1024)) fun x57 =>
 lt (IntKind.i64.wrap (20 * t13)) fun x58 =>
 lt (IntKind.i64.wrap (x57+x58)) fun x59 =>
 nw w (⟨[sV d_0,.int .i64 x59,.int .i64 0]⟩:Array Value) 98 fun a60 w61 =>
 lt (IntKind.i64.wrap (72+t10)) fun x62 =>
 lt (IntKind.i64.wrap (x62+1024)) fun x63 =>
 lt (IntKind.i64.wrap (20 * t12)) fun x64 =>
 lt (IntKind.i64.wrap (x63+x64)) fun x65 =>
 lt (IntKind.i64.wrap (8 * t13)) fun x66 =>
 lt (IntKind.i64.wrap (x65+x66)) fun x67 =>
 nw w61 (⟨[sV d_0,.int .i64 x67,.int .i64 0]⟩:Array Value) 98 fun a68 w69 =>
 qc.j15 d_0 t5 t7 t10 t12 t13 (some a60) (some a68) Q nx1 w69
def qc.b1 (d_0:Sl) (t5:OAd) (t7 t10 t12 t13:Int) (Q:VWP) (nx1:Sl→OAd→Int→Int→Int→Int→WP) (w:World):Prop :=
 br (decide (t13 < t12)) (
 qc.j13 d_0 t5 t7 t10 t12 t13 Q nx1 w) (
 qc.j11 d_0 t5 Q w)
def qc.l1 (d_0:Sl) (t5:OAd) (t7 t10 t12 t13:Int) (Q:VWP) (w:World):Prop :=
 ∃ (I:Int→WP) (μ:Int→World→Nat),I t13 w∧∀ t13:Int,∀ w:World,I t13 w→qc.b1 d_0 t5 t7 t10 t12 t13 Q (fun d_0' t5' t7' t10' t12' t13' w'=>(d_0'=d_0∧t5'=t5∧t7'=t7∧t10'=t10∧t12'=t12)∧I t13' w'∧μ t13' w' < μ t13 w) w
def qc.j12 (d_0:Sl) (t5:OAd) (t7 t10 t12 t13:Int) (Q:VWP) (w:World):Prop :=
 qc.l1 d_0 t5 t7 t10 t12 t13 Q w
def qc.j10 (d_0:Sl) (t5:OAd) (t7 t10 t12:Int) (Q:VWP) (w:World):Prop :=
 qc.j12 d_0 t5 t7 t10 t12 0 Q w
def qc.j9 (d_0:Sl) (t5:OAd) (t7 t10:Int) (t11:OAd) (Q:VWP) (w:World):Prop :=
 qri 35 [.pointer t11,.int .i64 4] w fun r72 w71 =>
 nz t11 fun a73 =>
 ldI .i64 w71 (Addr.add a73 2) fun x74 =>
 br (x74 != 0) (
 Q (.tuple ⟨[.pointer none,.int .i64 2]⟩) w71) (
 br (decide (r72 > 2048)) (
 Q (.tuple ⟨[.pointer none,.int .i64 2]⟩) w71) (
 lt (IntKind.i64.wrap (72+t10)) fun x75 =>
 lt (IntKind.i64.wrap (x75+1024)) fun x76 =>
 lt (IntKind.i64.wrap (28 * r72)) fun x77 =>
 lt (IntKind.i64.wrap (x76+x77)) fun x78 =>
 lt (IntKind.i64.wrap (x78+20)) fun x79 =>
 br ((d_0.len:Int) != x79) (
 Q (.tuple ⟨[.pointer none,.int .i64 2]⟩) w71) (
 qc.j10 d_0 t5 t7 t10 r72 Q w71)))
def qc.j8 (d_0:Sl) (t5:OAd) (t7 t10:Int) (Q:VWP) (w:World):Prop :=
 lt (IntKind.i64.wrap (72+t10)) fun x80 =>
 lt (IntKind.i64.wrap (x80+1020)) fun x81 =>
 nw w (⟨[sV d_0,.int .i64 x81,.int .i64 0]⟩:Array Value) 98 fun a82 w83 =>
 ldI .i64 w83 (Addr.add a82 1) fun x84 =>
 br (decide (x84 > (d_0.len:Int))) (
 Q (.tuple ⟨[.pointer none,.int .i64 2]⟩) w83) (
 qc.j9 d_0 t5 t7 t10 (some a82) Q w83)
def qc.j7 (d_0:Sl) (t5:OAd) (t7:Int) (Q:VWP) (w:World):Prop :=
 lt (IntKind.i64.wrap (50 * t7)) fun x85 =>
 lt (IntKind.i64.wrap (x85+3)) fun x86 =>
 (4:Int) ≠ 0 ∧
 lt (IntKind.i64.wrap (Int.tdiv x86 4)) fun x87 =>
 lt (IntKind.i64.wrap (x87 * 4)) fun x88 =>
 qc.j8 d_0 t5 t7 x88 Q w
def qc.j23 (d_0:Sl) (t5:OAd) (t6:OAd) (t7:Int) (t8:Int) (Q:VWP) (nx3:Sl→OAd→OAd→Int→Int→WP) (w:World):Prop :=
 lt (IntKind.i64.wrap (t8+1)) fun x89 =>
 nx3 d_0 t5 t6 t7 x89 w
def qc.j24 (d_0:Sl) (t5:OAd) (t6:OAd) (t7:Int) (t8:Int) (t9:Sl) (Q:VWP) (nx3:Sl→OAd→OAd→Int→Int→WP) (w:World):Prop :=
 lt (World.drew w) fun w90 =>
 nz t5 fun a91 =>
 bd 49 t9.cap fun n92 =>
 lt (⟨qfe t9.a t9.cap 0 1,n92 - 0,t9.cap - 0⟩:Sl) fun s93 =>
 (ldL w90 (Addr.add a91 0) fun x94 =>
 btS w90 s93.a s93.len fun x95 =>
 nw w90 ⟨[.string x95]⟩ 9 fun a96 w97 =>
 rdO w97 (some a96) (1 * 1) fun c98 =>
 apK Tryz.prog 9 w97 x94.a x94.len x94.cap 1 c98 fun s99 w100 =>
 nz t5 fun a101 =>
 st w100 (Addr.add a101 0) (sV s99) fun w102 =>
 qc.j23 d_0 t5 t6 t7 t8 Q nx3 w102)∧(
 btS w90 s93.a s93.len fun x103 =>
 (ldL w90 (Addr.add a91 0) fun x104 =>
 nw w90 ⟨[.string x103]⟩ 9 fun a105 w106 =>
 rdO w106 (some a105) (1 * 1) fun c107 =>
 apK Tryz.prog 9 w106 x104.a x104.len x104.cap 1 c107 fun s108 w109 =>
 nz t5 fun a110 =>
 st w109 (Addr.add a110 0) (sV s108) fun w111 =>
 qc.j23 d_0 t5 t6 t7 t8 Q nx3 w111)∧(
 nw w90 ⟨[.string x103]⟩ 9 fun a112 w113 =>
 ldL w113 (Addr.add a91 0) fun x114 =>
 rdO w113 (some a112) (1 * 1) fun c115 =>
 apK Tryz.prog 9 w113 x114.a x114.len x114.cap 1 c115 fun s116 w117 =>
 nz t5 fun a118 =>
 st w117 (Addr.add a118 0) (sV s116) fun w119 =>
 qc.j23 d_0 t5 t6 t7 t8 Q nx3 w119))
def qc.j22 (d_0:Sl) (t5:OAd) (t6:OAd) (t7:Int) (t8:Int) (Q:VWP) (nx3:Sl→OAd→OAd→Int→Int→WP) (w:World):Prop :=
 qqf 36 [.pointer t6,.int .i64 50] w fun r122 w121 =>
 lt (World.drew w121) fun w123 =>
 nz t6 fun a124 =>
 ldI .i64 w123 (Addr.add a124 2) fun x125 =>
 br (x125 != 0) (
 (Q (.tuple ⟨[.pointer none,.int .i64 2]⟩) w123)∧(
 (Q (.tuple ⟨[.pointer none,.int .i64 2]⟩) w123)∧(
 Q (.tuple ⟨[.pointer none,.int .i64 2]⟩) w123))) (
 bd 49 r122.cap fun n126 =>
 lt (⟨qfe r122.a r122.cap 0 1,n126 - 0,r122.cap - 0⟩:Sl) fun s127 =>
 btS w123 s127.a s127.len fun x128 =>
 qxm 37 [.string x128] w123 fun r131 w130 =>
 br (!r131) (
 (Q (.tuple ⟨[.pointer none,.int .i64 2]⟩) w130)∧(
 (Q (.tuple ⟨[.pointer none,.int .i64 2]⟩) w130)∧(
 Q (.tuple ⟨[.pointer none,.int .i64 2]⟩) w130))) (
 br (decide (t8 > 0)) (
 bd 49 r122.cap fun n132 =>
 lt (⟨qfe r122.a r122.cap 0 1,n132 - 0,r122.cap - 0⟩:Sl) fun s133 =>
 nz t5 fun a134 =>
 lt (IntKind.i64.wrap (t8 - 1)) fun x135 =>
 (btS w130 s133.a s133.len fun x136 =>
 ldL w130 (Addr.add a134 0) fun x137 =>
 ixS x137.a x137.len x135 1 fun a138 =>
 ldS w130 a138 fun x139 =>
 br ((Op.bytesLess (ByteArray.toList x136) (ByteArray.toList x139) || ByteArray.toList x136 == ByteArray.toList x139)) (
 Q (.tuple ⟨[.pointer none,.int .i64 2]⟩) w130) (
 qc.j24 d_0 t5 t6 t7 t8 r122 Q nx3 w130))∧(
 ldL w130 (Addr.add a134 0) fun x140 =>
 ixS x140.a x140.len x135 1 fun a141 =>
 (btS w130 s133.a s133.len fun x142 =>
 ldS w130 a141 fun x143 =>
 br ((Op.bytesLess (ByteArray.toList x142) (ByteArray.toList x143) || ByteArray.toList x142 == ByteArray.toList x143)) (
 Q (.tuple ⟨[.pointer none,.int .i64 2]⟩) w130) (
 qc.j24 d_0 t5 t6 t7 t8 r122 Q nx3 w130))∧(
 ldS w130 a141 fun x144 =>
 btS w130 s133.a s133.len fun x145 =>
 br ((Op.bytesLess (ByteArray.toList x145) (ByteArray.toList x144) || ByteArray.toList x145 == ByteArray.toList x144)) (
 Q (.tuple ⟨[.pointer none,.int .i64 2]⟩) w130) (
 qc.j24 d_0 t5 t6 t7 t8 r122 Q nx3 w130)))) (
 (qc.j24 d_0 t5 t6 t7 t8 r122 Q nx3 w130)∧(
 (qc.j24 d_0 t5 t6 t7 t8 r122 Q nx3 w130)∧(
 qc.j24 d_0 t5 t6 t7 t8 r122 Q nx3 w130)))))
def qc.b3 (d_0:Sl) (t5:OAd) (t6:OAd) (t7:Int) (t8:Int) (Q:VWP) (nx3:Sl→OAd→OAd→Int→Int→WP) (w:World):Prop :=
 br (decide (t8 < t7)) (
 qc.j22 d_0 t5 t6 t7 t8 Q nx3 w) (
 qc.j7 d_0 t5 t7 Q w)
def qc.l3 (d_0:Sl) (t5:OAd) (t6:OAd) (t7:Int) (t8:Int) (Q:VWP) (w:World):Prop :=
 ∃ (I:Int→WP) (μ:Int→World→Nat),I t8 w∧∀ t8:Int,∀ w:World,I t8 w→qc.b3 d_0 t5 t6 t7 t8 Q (fun d_0' t5' t6' t7' t8' w'=>(d_0'=d_0∧t5'=t5∧t6'=t6∧t7'=t7)∧I t8' w'∧μ t8' w' < μ t8 w) w
def qc.j21 (d_0:Sl) (t5:OAd) (t6:OAd) (t7:Int) (t8:Int) (Q:VWP) (w:World):Prop :=
 qc.l3 d_0 t5 t6 t7 t8 Q w
def qc.j6 (d_0:Sl) (t5:OAd) (t6:OAd) (t7:Int) (Q:VWP) (w:World):Prop :=
 qc.j21 d_0 t5 t6 t7 0 Q w
def qc.j5 (d_0:Sl) (t5:OAd) (t7:Int) (Q:VWP) (w:World):Prop :=
 br (decide (t7 > 64)) (
 Q (.tuple ⟨[.pointer none,.int .i64 2]⟩) w) (
 nw w (⟨[sV d_0,.int .i64 72,.int .i64 0]⟩:Array Value) 98 fun a146 w147 =>
 qc.j6 d_0 t5 (some a146) t7 Q w147)
def qc.j4 (d_0:Sl) (t5:OAd) (Q:VWP) (w:World):Prop :=
 nw w (⟨[sV d_0,.int .i64 8,.int .i64 0]⟩:Array Value) 98 fun a148 w149 =>
 qri 35 [.pointer (some a148),.int .i64 4] w149 fun r152 w151 =>
 qc.j5 d_0 t5 r152 Q w151
def qc.j3 (d_0:Sl) (Q:VWP) (w:World):Prop :=
 nw w (⟨[.slice none 0 0,.slice none 0 0]⟩:Array Value) 95 fun a153 w154 =>
 qc.j4 d_0 (some a153) Q w154
def qc.j2 (d_0:Sl) (Q:VWP) (w:World):Prop :=
 lt (IntKind.i64.wrap ((d_0.len:Int) - 20)) fun x155 =>
 bd x155 d_0.cap fun n156 =>
 lt (⟨qfe d_0.a d_0.cap 0 1,n156 - 0,d_0.cap - 0⟩:Sl) fun s157 =>
 cr_G 34 [sV s157] w fun r160 w159 =>
 nw w159 (zc Tryz.prog 38) 38 fun a161 w162 =>
 (r160).size=20 ∧
 stA w162 a161 r160 fun w163 =>
 lt (World.drew w163) fun w164 =>
 lt (⟨cutP a161 20 0 1,20 - 0,20 - 0⟩:Sl) fun s165 =>
 lt (IntKind.i64.wrap ((d_0.len:Int) - 20)) fun x166 =>
 bd x166 d_0.len fun n167 =>
 lt (⟨qfe d_0.a d_0.cap n167 1,d_0.len - n167,d_0.cap - n167⟩:Sl) fun s168 =>
 (btS w164 s165.a s165.len fun x169 =>
 btS w164 s168.a s168.len fun x170 =>
 br (!(ByteArray.toList x169 == ByteArray.toList x170)) (
 Q (.tuple ⟨[.pointer none,.int .i64 4]⟩) w164) (
 qc.j3 d_0 Q w164))∧(
 btS w164 s168.a s168.len fun x171 =>
 btS w164 s165.a s165.len fun x172 =>
 br (!(ByteArray.toList x172 == ByteArray.toList x171)) (
 Q (.tuple ⟨[.pointer none,.int .i64 4]⟩) w164) (
 qc.j3 d_0 Q w164))
def qc.j1 (d_0:Sl) (Q:VWP) (w:World):Prop :=
 br (decide ((d_0.len:Int) < 20)) (
 Q (.tuple ⟨[.pointer none,.int .i64 3]⟩) w) (
 lt (World.drew w) fun w173 =>
 br (decide ((d_0.len:Int) < 32)) (
 (((Q (.tuple ⟨[.pointer none,.int .i64 2]⟩) w173)∧(
 Q (.tuple ⟨[.pointer none,.int .i64 2]⟩) w173))∧(
 Q (.tuple ⟨[.pointer none,.int .i64 2]⟩) w173))∧(
 ((Q (.tuple ⟨[.pointer none,.int .i64 2]⟩) w173)∧(
 Q (.tuple ⟨[.pointer none,.int .i64 2]⟩) w173))∧(
 (Q (.tuple ⟨[.pointer none,.int .i64 2]⟩) w173)∧(
 (Q (.tuple ⟨[.pointer none,.int .i64 2]⟩) w173)∧(
 (Q (.tuple ⟨[.pointer none,.int .i64 2]⟩) w173)∧(
 Q (.tuple ⟨[.pointer none,.int .i64 2]⟩) w173))))∧(
 (Q (.tuple ⟨[.pointer none,.int .i64 2]⟩) w173)∧(
 (Q (.tuple ⟨[.pointer none,.int .i64 2]⟩) w173)∧(
 (Q (.tuple ⟨[.pointer none,.int .i64 2]⟩) w173)∧(
 Q (.tuple ⟨[.pointer none,.int .i64 2]⟩) w173)))))∧(
 (Q (.tuple ⟨[.pointer none,.int .i64 2]⟩) w173)∧(
 (Q (.tuple ⟨[.pointer none,.int .i64 2]⟩) w173)∧(
 (Q (.tuple ⟨[.pointer none,.int .i64 2]⟩) w173)∧(
 (Q (.tuple ⟨[.pointer none,.int .i64 2]⟩) w173)∧(
 Q (.tuple ⟨[.pointer none,.int .i64 2]⟩) w173)))))) (
 bd 8 d_0.cap fun n174 =>
 lt (⟨qfe d_0.a d_0.cap 0 1,n174 - 0,d_0.cap - 0⟩:Sl) fun s175 =>
 (btS w173 s175.a s175.len fun x176 =>
 (nw w173 ⟨[.int .u8 77,.int .u8 73,.int .u8 68,.int .u8 88]⟩ 5 fun a177 w178 =>
 (mkStr w178 (some a177) fun w179 =>
 nw w179 ⟨[.int .u8 1,.int .u8 1,.int .u8 4,.int .u8 0]⟩ 5 fun a180 w181 =>
 rdO w181 (some a180) (4 * 1) fun c182 =>
 apK Tryz.prog 5 w181 (some a177) 4 4 4 c182 fun s183 w184 =>
 btS w184 s183.a s183.len fun x185 =>
 br (!(ByteArray.toList x176 == ByteArray.toList x185)) (
 Q (.tuple ⟨[.pointer none,.int .i64 2]⟩) w184) (
 qc.j2 d_0 Q w184))∧(
 nw w178 ⟨[.int .u8 1,.int .u8 1,.int .u8 4,.int .u8 0]⟩ 5 fun a186 w187 =>
 mkStr w187 (some a177) fun w188 =>
 rdO w188 (some a186) (4 * 1) fun c189 =>
 apK Tryz.prog 5 w188 (some a177) 4 4 4 c189 fun s190 w191 =>
 btS w191 s190.a s190.len fun x192 =>
 br (!(ByteArray.toList x176 == ByteArray.toList x192)) (
 Q (.tuple ⟨[.pointer none,.int .i64 2]⟩) w191) (
 qc.j2 d_0 Q w191)))∧(
 nw w173 ⟨[.int .u8 1,.int .u8 1,.int .u8 4,.int .u8 0]⟩ 5 fun a193 w194 =>
 nw w194 ⟨[.int .u8 77,.int .u8 73,.int .u8 68,.int .u8 88]⟩ 5 fun a195 w196 =>
 mkStr w196 (some a195) fun w197 =>
 rdO w197 (some a193) (4 * 1) fun c198 =>
 apK Tryz.prog 5 w197 (some a195) 4 4 4 c198 fun s199 w200 =>
 btS w200 s199.a s199.len fun x201 =>
 br (!(ByteArray.toList x176 == ByteArray.toList x201)) (
 Q (.tuple ⟨[.pointer none,.int .i64 2]⟩) w200) (
 qc.j2 d_0 Q w200)))∧(
 nw w173 ⟨[.int .u8 77,.int .u8 73,.int .u8 68,.int .u8 88]⟩ 5 fun a202 w203 =>
 (btS w203 s175.a s175.len fun x204 =>
 (mkStr w203 (some a202) fun w205 =>
 nw w205 ⟨[.int .u8 1,.int .u8 1,.int .u8 4,.int .u8 0]⟩ 5 fun a206 w207 =>
 rdO w207 (some a206) (4 * 1) fun c208 =>
 apK Tryz.prog 5 w207 (some a202) 4 4 4 c208 fun s209 w210 =>
 btS w210 s209.a s209.len fun x211 =>
 br (!(ByteArray.toList x204 == ByteArray.toList x211)) (
 Q (.tuple ⟨[.pointer none,.int .i64 2]⟩) w210) (
 qc.j2 d_0 Q w210))∧(
 nw w203 ⟨[.int .u8 1,.int .u8 1,.int .u8 4,.int .u8 0]⟩ 5 fun a212 w213 =>
 mkStr w213 (some a202) fun w214 =>
 rdO w214 (some a212) (4 * 1) fun c215 =>
 apK Tryz.prog 5 w214 (some a202) 4 4 4 c215 fun s216 w217 =>
 btS w217 s216.a s216.len fun x218 =>
 br (!(ByteArray.toList x204 == ByteArray.toList x218)) (
 Q (.tuple ⟨[.pointer none,.int .i64 2]⟩) w217) (
 qc.j2 d_0 Q w217)))∧(
 mkStr w203 (some a202) fun w219 =>
 (btS w219 s175.a s175.len fun x220 =>
 nw w219 ⟨[.int .u8 1,.int .u8 1,.int .u8 4,.int .u8 0]⟩ 5 fun a221 w222 =>
 rdO w222 (some a221) (4 * 1) fun c223 =>
 apK Tryz.prog 5 w222 (some a202) 4 4 4 c223 fun s224 w225 =>
 btS w225 s224.a s224.len fun x226 =>
 br (!(ByteArray.toList x220 == ByteArray.toList x226)) (
 Q (.tuple ⟨[.pointer none,.int .i64 2]⟩) w225) (
 qc.j2 d_0 Q w225))∧(
 nw w219 ⟨[.int .u8 1,.int .u8 1,.int .u8 4,.int .u8 0]⟩ 5 fun a227 w228 =>
 (btS w228 s175.a s175.len fun x229 =>
 rdO w228 (some a227) (4 * 1) fun c230 =>
 apK Tryz.prog 5 w228 (some a202) 4 4 4 c230 fun s231 w232 =>
 btS w232 s231.a s231.len fun x233 =>
 br (!(ByteArray.toList x229 == ByteArray.toList x233)) (
 Q (.tuple ⟨[.pointer none,.int .i64 2]⟩) w232) (
 qc.j2 d_0 Q w232))∧(
 rdO w228 (some a227) (4 * 1) fun c234 =>
 apK Tryz.prog 5 w228 (some a202) 4 4 4 c234 fun s235 w236 =>
 (btS w236 s175.a s175.len fun x237 =>
 btS w236 s235.a s235.len fun x238 =>
 br (!(ByteArray.toList x237 == ByteArray.toList x238)) (
 Q (.tuple ⟨[.pointer none,.int .i64 2]⟩) w236) (
 qc.j2 d_0 Q w236))∧(
 btS w236 s235.a s235.len fun x239 =>
 btS w236 s175.a s175.len fun x240 =>
 br (!(ByteArray.toList x240 == ByteArray.toList x239)) (
 Q (.tuple ⟨[.pointer none,.int .i64 2]⟩) w236) (
 qc.j2 d_0 Q w236)))))∧(
 nw w203 ⟨[.int .u8 1,.int .u8 1,.int .u8 4,.int .u8 0]⟩ 5 fun a241 w242 =>
 (btS w242 s175.a s175.len fun x243 =>
 mkStr w242 (some a202) fun w244 =>
 rdO w244 (some a241) (4 * 1) fun c245 =>
 apK Tryz.prog 5 w244 (some a202) 4 4 4 c245 fun s246 w247 =>
 btS w247 s246.a s246.len fun x248 =>
 br (!(ByteArray.toList x243 == ByteArray.toList x248)) (
 Q (.tuple ⟨[.pointer none,.int .i64 2]⟩) w247) (
 qc.j2 d_0 Q w247))∧(
 mkStr w242 (some a202) fun w249 =>
 (btS w249 s175.a s175.len fun x250 =>
 rdO w249 (some a241) (4 * 1) fun c251 =>
 apK Tryz.prog 5 w249 (some a202) 4 4 4 c251 fun s252 w253 =>
 btS w253 s252.a s252.len fun x254 =>
 br (!(ByteArray.toList x250 == ByteArray.toList x254)) (
 Q (.tuple ⟨[.pointer none,.int .i64 2]⟩) w253) (
 qc.j2 d_0 Q w253))∧(
 rdO w249 (some a241) (4 * 1) fun c255 =>
 apK Tryz.prog 5 w249 (some a202) 4 4 4 c255 fun s256 w257 =>
 (btS w257 s175.a s175.len fun x258 =>
 btS w257 s256.a s256.len fun x259 =>
 br (!(ByteArray.toList x258 == ByteArray.toList x259)) (
 Q (.tuple ⟨[.pointer none,.int .i64 2]⟩) w257) (
 qc.j2 d_0 Q w257))∧(
 btS w257 s256.a s256.len fun x260 =>
 btS w257 s175.a s175.len fun x261 =>
 br (!(ByteArray.toList x261 == ByteArray.toList x260)) (
 Q (.tuple ⟨[.pointer none,.int .i64 2]⟩) w257) (
 qc.j2 d_0 Q w257))))))∧(
 nw w173 ⟨[.int .u8 1,.int .u8 1,.int .u8 4,.int .u8 0]⟩ 5 fun a262 w263 =>
 (btS w263 s175.a s175.len fun x264 =>
 nw w263 ⟨[.int .u8 77,.int .u8 73,.int .u8 68,.int .u8 88]⟩ 5 fun a265 w266 =>
 mkStr w266 (some a265) fun w267 =>
 rdO w267 (some a262) (4 * 1) fun c268 =>
 apK Tryz.prog 5 w267 (some a265) 4 4 4 c268 fun s269 w270 =>
 btS w270 s269.a s269.len fun x271 =>
 br (!(ByteArray.toList x264 == ByteArray.toList x271)) (
 Q (.tuple ⟨[.pointer none,.int .i64 2]⟩) w270) (
 qc.j2 d_0 Q w270))∧(
 nw w263 ⟨[.int .u8 77,.int .u8 73,.int .u8 68,.int .u8 88]⟩ 5 fun a272 w273 =>
 (btS w273 s175.a s175.len fun x274 =>
 mkStr w273 (some a272) fun w275 =>
 rdO w275 (some a262) (4 * 1) fun c276 =>
 apK Tryz.prog 5 w275 (some a272) 4 4 4 c276 fun s277 w278 =>
 btS w278 s277.a s277.len fun x279 =>
 br (!(ByteArray.toList x274 == ByteArray.toList x279)) (
 Q (.tuple ⟨[.pointer none,.int .i64 2]⟩) w278) (
 qc.j2 d_0 Q w278))∧(
 mkStr w273 (some a272) fun w280 =>
 (btS w280 s175.a s175.len fun x281 =>
 rdO w280 (some a262) (4 * 1) fun c282 =>
 apK Tryz.prog 5 w280 (some a272) 4 4 4 c282 fun s283 w284 =>
 btS w284 s283.a s283.len fun x285 =>
 br (!(ByteArray.toList x281 == ByteArray.toList x285)) (
 Q (.tuple ⟨[.pointer none,.int .i64 2]⟩) w284) (
 qc.j2 d_0 Q w284))∧(
 rdO w280 (some a262) (4 * 1) fun c286 =>
 apK Tryz.prog 5 w280 (some a272) 4 4 4 c286 fun s287 w288 =>
 (btS w288 s175.a s175.len fun x289 =>
 btS w288 s287.a s287.len fun x290 =>
 br (!(ByteArray.toList x289 == ByteArray.toList x290)) (
 Q (.tuple ⟨[.pointer none,.int .i64 2]⟩) w288) (
 qc.j2 d_0 Q w288))∧(
 btS w288 s287.a s287.len fun x291 =>
 btS w288 s175.a s175.len fun x292 =>
 br (!(ByteArray.toList x292 == ByteArray.toList x291)) (
 Q (.tuple ⟨[.pointer none,.int .i64 2]⟩) w288) (
 qc.j2 d_0 Q w288))))))))
def qc (d_0:Sl) (Q:VWP) (w:World):Prop :=
 br (decide ((d_0.len:Int) > 262144)) (
 Q (.tuple ⟨[.pointer none,.int .i64 5]⟩) w) (
 qc.j1 d_0 Q w)
theorem qc.ok (d_0:Sl) (Q:VWP) (w:World) (h:qc d_0 Q w):Calls Tryz.prog 14 ⟨[sV d_0]⟩ w (Ret Q) :=
 qvb [.tmp 2,.tmp 3] qkd Tryz.func14 rfl rfl rfl rfl (.pr 1 [sL 0] (fun a w=>qc.j1 a Q w) (.pr 1 [sL 0] (fun a w=>qc.j2 a Q w) (.pr 1 [sL 0] (fun a w=>qc.j3 a Q w) (.sq [sL 0,sP 5] (fun a b w=>qc.j4 a b Q w) .lf (.pr 1 [sL 0,sP 5,sI 7] (fun a b c w=>qc.j5 a b c Q w) (.pr 1 [sL 0,sP 5,sP 6,sI 7] (fun a b c d w=>qc.j6 a b c d Q w) (.sq [sL 0,sP 5,sI 7] (fun a b c w=>qc.j7 a b c Q w) (.sq [sL 0,sP 5,sP 6,sI 7,sI 8] (fun a b c d e w=>qc.j21 a b c d e Q w) .lf (.bk (.lo [sL 0,sP 5,sP 6,sI 7] [sI 8] (fun a b c d e w=>qc.l3 a b c d e Q w) (fun nx3 a b c d e w=>qc.b3 a b c d e Q nx3 w) fun nx3=>(.sq [sL 0,sP 5,sP 6,sI 7,sI 8] (fun a b c d e w=>qc.j22 a b c d e Q nx3 w) .lf (.sq [sL 0,sP 5,sP 6,sI 7,sI 8] (fun a b c d e w=>qc.j23 a b c d e Q nx3 w) (.bk (.pr 1 [sL 0,sP 5,sP 6,sI 7,sI 8,sL 9] (fun a b c d e f w=>qc.j24 a b c d e f Q nx3 w) .lf)) .lf))))) (.sq [sL 0,sP 5,sI 7,sI 10] (fun a b c d w=>qc.j8 a b c d Q w) .lf (.pr 1 [sL 0,sP 5,sI 7,sI 10,sP 11] (fun a b c d e w=>qc.j9 a b c d e Q w) (.pr 1 [sL 0,sP 5,sI 7,sI 10,sI 12] (fun a b c d e w=>qc.j10 a b c d e Q w) (.sq [sL 0,sP 5] (fun a b w=>qc.j11 a b Q w) (.sq [sL 0,sP 5,sI 7,sI 10,sI 12,sI 13] (fun a b c d e f w=>qc.j12 a b c d e f Q w) .lf (.bk (.lo [sL 0,sP 5,sI 7,sI 10,sI 12] [sI 13] (fun a b c d e f w=>qc.l1 a b c d e f Q w) (fun nx1 a b c d e f w=>qc.b1 a b c d e f Q nx1 w) fun nx1=>(.sq [sL 0,sP 5,sI 7,sI 10,sI 12,sI 13] (fun a b c d e f w=>qc.j13 a b c d e f Q nx1 w) .lf (.sq [sL 0,sP 5,sI 7,sI 10,sI 12,sI 13] (fun a b c d e f w=>qc.j14 a b c d e f Q nx1 w) (.bk (.pr 1 [sL 0,sP 5,sI 7,sI 10,sI 12,sI 13,sP 14,sP 15] (fun a b c d e f g h w=>qc.j15 a b c d e f g h Q nx1 w) (.pr 1 [sL 0,sP 5,sI 7,sI 10,sI 12,sI 13,sP 15,sA 16,sL 17] (fun a b c d e f g h i w=>qc.j16 a b c d e f g h i Q nx1 w) (.sq [sL 0,sP 5,sI 7,sI 10,sI 12,sI 13,sP 15,sA 16] (fun a b c d e f g h w=>qc.j17 a b c d e f g h Q nx1 w) (.sq [sL 0,sP 5,sI 7,sI 10,sI 12,sI 13,sP 15,sA 16,sL 17,sI 18] (fun a b c d e f g h i j w=>qc.j20 a b c d e f g h i j Q nx1 w) .lf (.bk (.lo [sL 0,sP 5,sI 7,sI 10,sI 12,sI 13,sP 15,sA 16,sL 17] [sI 18] (fun a b c d e f g h i j w=>qc.l2 a b c d e f g h i j Q nx1 w) (fun nx2 a b c d e f g h i j w=>qc.b2 a b c d e f g h i j Q nx1 nx2 w) fun nx2=>.lf))) (.sq [sL 0,sP 5,sI 7,sI 10,sI 12,sI 13,sP 15,sA 16] (fun a b c d e f g h w=>qc.j18 a b c d e f g h Q nx1 w) .lf (.pr 1 [sL 0,sP 5,sI 7,sI 10,sI 12,sI 13,sA 16] (fun a b c d e f g w=>qc.j19 a b c d e f g Q nx1 w) .lf)))))) .lf))))) .lf))))))))))) (by kernel_rfl) h
def qa.j12 (t3:Sl) (Q:VWP) (w:World):Prop :=
 cr_G 34 [sV t3] w fun r3 w2 =>
 nw w2 (zc Tryz.prog 38) 38 fun a4 w5 =>
 (r3).size=20 ∧
 stA w5 a4 r3 fun w6 =>
 lt (⟨cutP a4 20 0 1,20 - 0,20 - 0⟩:Sl) fun s7 =>
 rdO w6 s7.a (s7.len * 1) fun c8 =>
 apK Tryz.prog 5 w6 t3.a t3.len t3.cap s7.len c8 fun s9 w10 =>
 Q (sV s9) w10
def qa.b1 (d_0:OAd) (t6:Int) (t3:Sl) (t14:Int) (Q:VWP) (nx1:OAd→Int→Sl→Int→WP) (w:World):Prop :=
 br (decide (t14 < t6)) (
 lt (World.drew w) fun w11 =>
 nz d_0 fun a12 =>
 ldL w11 (Addr.add a12 1) fun x13 =>
 ixS x13.a x13.len t14 22 fun a14 =>
 ldI .i64 w11 (Addr.add a14 20) fun x15 =>
 nz d_0 fun a16 =>
 (qqf 71 [sV t3,.int .i64 x15,.int .i64 4] w11 fun r19 w18 =>
 ldL w18 (Addr.add a16 1) fun x20 =>
 ixS x20.a x20.len t14 22 fun a21 =>
 ldI .i64 w18 (Addr.add a21 21) fun x22 =>
 qqf 71 [sV r19,.int .i64 x22,.int .i64 4] w18 fun r25 w24 =>
 lt (IntKind.i64.wrap (t14+1)) fun x26 =>
 nx1 d_0 t6 r25 x26 w24)∧(
 ldL w11 (Addr.add a16 1) fun x27 =>
 ixS x27.a x27.len t14 22 fun a28 =>
 (qqf 71 [sV t3,.int .i64 x15,.int .i64 4] w11 fun r31 w30 =>
 ldI .i64 w30 (Addr.add a28 21) fun x32 =>
 qqf 71 [sV r31,.int .i64 x32,.int .i64 4] w30 fun r35 w34 =>
 lt (IntKind.i64.wrap (t14+1)) fun x36 =>
 nx1 d_0 t6 r35 x36 w34)∧(
 ldI .i64 w11 (Addr.add a28 21) fun x37 =>
 qqf 71 [sV t3,.int .i64 x15,.int .i64 4] w11 fun r40 w39 =>
 qqf 71 [sV r40,.int .i64 x37,.int .i64 4] w39 fun r43 w42 =>
 lt (IntKind.i64.wrap (t14+1)) fun x44 =>
 nx1 d_0 t6 r43 x44 w42))) (
 qa.j12 t3 Q w)
def qa.l1 (d_0:OAd) (t6:Int) (t3:Sl) (t14:Int) (Q:VWP) (w:World):Prop :=
 ∃ (I:Sl→Int→WP) (μ:Sl→Int→World→Nat),I t3 t14 w∧∀ t3:Sl,∀ t14:Int,∀ w:World,I t3 t14 w→qa.b1 d_0 t6 t3 t14 Q (fun d_0' t6' t3' t14' w'=>(d_0'=d_0∧t6'=t6)∧I t3' t14' w'∧μ t3' t14' w' < μ t3 t14 w) w
def qa.j13 (d_0:OAd) (t3:Sl) (t6 t14:Int) (Q:VWP) (w:World):Prop :=
 qa.l1 d_0 t6 t3 t14 Q w
def qa.j11 (d_0:OAd) (t3:Sl) (t6:Int) (Q:VWP) (w:World):Prop :=
 qa.j13 d_0 t3 t6 0 Q w
def qa.b2 (d_0:OAd) (t6:Int) (t3:Sl) (t13:Int) (Q:VWP) (nx2:OAd→Int→Sl→Int→WP) (w:World):Prop :=
 br (decide (t13 < t6)) (
 nz d_0 fun a45 =>
 ldL w (Addr.add a45 1) fun x46 =>
 ixS x46.a x46.len t13 22 fun a47 =>
 lt (⟨cutP (Addr.add a47 0) 20 0 1,20 - 0,20 - 0⟩:Sl) fun s48 =>
 rdO w s48.a (s48.len * 1) fun c49 =>
 apK Tryz.prog 5 w t3.a t3.len t3.cap s48.len c49 fun s50 w51 =>
 lt (IntKind.i64.wrap (t13+1)) fun x52 =>
 nx2 d_0 t6 s50 x52 w51) (
 qa.j11 d_0 t3 t6 Q w)
def qa.l2 (d_0:OAd) (t6:Int) (t3:Sl) (t13:Int) (Q:VWP) (w:World):Prop :=
 ∃ (I:Sl→Int→WP) (μ:Sl→Int→World→Nat),I t3 t13 w∧∀ t3:Sl,∀ t13:Int,∀ w:World,I t3 t13 w→qa.b2 d_0 t6 t3 t13 Q (fun d_0' t6' t3' t13' w'=>(d_0'=d_0∧t6'=t6)∧I t3' t13' w'∧μ t3' t13' w' < μ t3 t13 w) w
def qa.j14 (d_0:OAd) (t3:Sl) (t6 t13:Int) (Q:VWP) (w:World):Prop :=
 qa.l2 d_0 t6 t3 t13 Q w
def qa.j10 (d_0:OAd) (t3:Sl) (t6:Int) (Q:VWP) (w:World):Prop :=
 qa.j14 d_0 t3 t6 0 Q w
def qa.b3 (d_0:OAd) (t6:Int) (t11 t3:Sl) (t12:Int) (Q:VWP) (nx3:OAd→Int→Sl→Sl→Int→WP) (w:World):Prop :=
 br (decide (t12 < 256)) (
 ixS t11.a t11.len t12 1 fun a53 =>
 ldI .i64 w a53 fun x54 =>
 qqf 71 [sV t3,.int .i64 x54,.int .i64 4] w fun r57 w56 =>
 lt (IntKind.i64.wrap (t12+1)) fun x58 =>
 nx3 d_0 t6 t11 r57 x58 w56) (
 qa.j10 d_0 t3 t6 Q w)
def qa.l3 (d_0:OAd) (t6:Int) (t11 t3:Sl) (t12:Int) (Q:VWP) (w:World):Prop :=
 ∃ (I:Sl→Int→WP) (μ:Sl→Int→World→Nat),I t3 t12 w∧∀ t3:Sl,∀ t12:Int,∀ w:World,I t3 t12 w→qa.b3 d_0 t6 t11 t3 t12 Q (fun d_0' t6' t11' t3' t12' w'=>(d_0'=d_0∧t6'=t6∧t11'=t11)∧I t3' t12' w'∧μ t3' t12' w' < μ t3 t12 w) w
def qa.j15 (d_0:OAd) (t3:Sl) (t6:Int) (t11:Sl) (t12:Int) (Q:VWP) (w:World):Prop :=
 qa.l3 d_0 t6 t11 t3 t12 Q w
def qa.j9 (d_0:OAd) (t3:Sl) (t6:Int) (t11:Sl) (Q:VWP) (w:World):Prop :=
 qa.j15 d_0 t3 t6 t11 0 Q w
def qa.j8 (d_0:OAd) (t3:Sl) (t4:Sl) (t6:Int) (Q:VWP) (w:World):Prop :=
 rdO w t4.a (t4.len * 1) fun c59 =>
 apK Tryz.prog 5 w t3.a t3.len t3.cap t4.len c59 fun s60 w61 =>
 qqf 40 [.pointer d_0] w61 fun r64 w63 =>
 qqf 72 [sV r64] w63 fun r67 w66 =>
 qa.j9 d_0 s60 t6 r67 Q w66
def qa.j7 (d_0:OAd) (t3:Sl) (t4:Sl) (t6:Int) (t7:Int) (Q:VWP) (w:World):Prop :=
 nw w ⟨[.int .u8 0,.int .u8 0,.int .u8 0,.int .u8 0]⟩ 5 fun a68 w69 =>
 rdO w69 (some a68) (4 * 1) fun c70 =>
 apK Tryz.prog 5 w69 t3.a t3.len t3.cap 4 c70 fun s71 w72 =>
 qqf 71 [sV s71,.int .i64 t7,.int .i64 8] w72 fun r75 w74 =>
 qa.j8 d_0 r75 t4 t6 Q w74
def qa.b4 (d_0:OAd) (t4:Sl) (t6:Int) (t8:Sl) (t9 t3:Sl) (t7:Int) (t10:Int) (Q:VWP) (nx4:OAd→Sl→Int→Sl→Sl→Sl→Int→Int→WP) (w:World):Prop :=
 br (decide (t10 < 4)) (
 ixS t9.a t9.len t10 1 fun a76 =>
 ldS w a76 fun x77 =>
 (1:Nat)=1 ∧
 lt (strCells x77 (ByteArray.size x77)) fun c78 =>
 apK Tryz.prog 5 w t3.a t3.len t3.cap (ByteArray.size x77) c78 fun s79 w80 =>
 qqf 71 [sV s79,.int .i64 t7,.int .i64 8] w80 fun r83 w82 =>
 ixS t8.a t8.len t10 1 fun a84 =>
 ldI .i64 w82 a84 fun x85 =>
 lt (IntKind.i64.wrap (t7+x85)) fun x86 =>
 lt (IntKind.i64.wrap (t10+1)) fun x87 =>
 nx4 d_0 t4 t6 t8 t9 r83 x86 x87 w82) (
 qa.j7 d_0 t3 t4 t6 t7 Q w)
def qa.l4 (d_0:OAd) (t4:Sl) (t6:Int) (t8:Sl) (t9 t3:Sl) (t7:Int) (t10:Int) (Q:VWP) (w:World):Prop :=
 ∃ (I:Sl→Int→Int→WP) (μ:Sl→Int→Int→World→Nat),I t3 t7 t10 w∧∀ t3:Sl,∀ t7:Int,∀ t10:Int,∀ w:World,I t3 t7 t10 w→qa.b4 d_0 t4 t6 t8 t9 t3 t7 t10 Q (fun d_0' t4' t6' t8' t9' t3' t7' t10' w'=>(d_0'=d_0∧t4'=t4∧t6'=t6∧t8'=t8∧t9'=t9)∧I t3' t7' t10' w'∧μ t3' t7' t10' w' < μ t3 t7 t10 w) w
def qa.j16 (d_0:OAd) (t3:Sl) (t4:Sl) (t6:Int) (t7:Int) (t8:Sl) (t9:Sl) (t10:Int) (Q:VWP) (w:World):Prop :=
 qa.l4 d_0 t4 t6 t8 t9 t3 t7 t10 Q w
def qa.j6 (d_0:OAd) (t3:Sl) (t4:Sl) (t6:Int) (t7:Int) (t8:Sl) (t9:Sl) (Q:VWP) (w:World):Prop :=
 qa.j16 d_0 t3 t4 t6 t7 t8 t9 0 Q w
def qa.j5 (d_0:OAd) (t3:Sl) (t4:Sl) (t6:Int) (t7:Int) (Q:VWP) (w:World):Prop :=
 lt (IntKind.i64.wrap (20 * t6)) fun x88 =>
 lt (IntKind.i64.wrap (8 * t6)) fun x89 =>
 nw w ⟨[.int .i64 (t4.len:Int),.int .i64 1024,.int .i64 x88,.int .i64 x89]⟩ 3 fun a90 w91 =>
 nw w91 ⟨[.string ({ data:=#[80,78,65,77] }),.string ({ data:=#[79,73,68,70] }),.string ({ data:=#[79,73,68,76] }),.string ({ data:=#[79,79,70,70] })]⟩ 9 fun a92 w93 =>
 qa.j6 d_0 t3 t4 t6 t7 ⟨(some a90),4,4⟩ ⟨(some a92),4,4⟩ Q w93
def qa.j4 (d_0:OAd) (t3:Sl) (t4:Sl) (Q:VWP) (w:World):Prop :=
 nz d_0 fun a94 =>
 ldL w (Addr.add a94 1) fun x95 =>
 qa.j5 d_0 t3 t4 (x95.len:Int) 72 Q w
def qa.b5 (d_0:OAd) (t3:Sl) (t4:Sl) (Q:VWP) (nx5:OAd→Sl→Sl→WP) (w:World):Prop :=
 (4:Int) ≠ 0 ∧
 lt (Int.tmod (t4.len:Int) 4) fun x96 =>
 br (x96 != 0) (
 nw w ⟨[.int .u8 0]⟩ 5 fun a97 w98 =>
 rdO w98 (some a97) (1 * 1) fun c99 =>
 apK Tryz.prog 5 w98 t4.a t4.len t4.cap 1 c99 fun s100 w101 =>
 nx5 d_0 t3 s100 w101) (
 qa.j4 d_0 t3 t4 Q w)
def qa.l5 (d_0:OAd) (t3:Sl) (t4:Sl) (Q:VWP) (w:World):Prop :=
 ∃ (I:Sl→WP) (μ:Sl→World→Nat),I t4 w∧∀ t4:Sl,∀ w:World,I t4 w→qa.b5 d_0 t3 t4 Q (fun d_0' t3' t4' w'=>(d_0'=d_0∧t3'=t3)∧I t4' w'∧μ t4' w' < μ t4 w) w
def qa.j3 (d_0:OAd) (t3:Sl) (t4:Sl) (Q:VWP) (w:World):Prop :=
 qa.l5 d_0 t3 t4 Q w
def qa.b6 (d_0:OAd) (t3:Sl) (t4:Sl) (t5:Int) (Q:VWP) (nx6:OAd→Sl→Sl→Int→WP) (w:World):Prop :=
 nz d_0 fun a102 =>
 ldL w (Addr.add a102 0) fun x103 =>
 br (decide (t5 < (x103.len:Int))) (
 nz d_0 fun a104 =>
 ldL w (Addr.add a104 0) fun x105 =>
 ixS x105.a x105.len t5 1 fun a106 =>
 ldS w a106 fun x107 =>
 (1:Nat)=1 ∧
 lt (strCells x107 (ByteArray.size x107)) fun c108 =>
 apK Tryz.prog 5 w t4.a t4.len t4.cap (ByteArray.size x107) c108 fun s109 w110 =>
 nw w110 ⟨[.int .u8 0]⟩ 5 fun a111 w112 =>
 rdO w112 (some a111) (1 * 1) fun c113 =>
 apK Tryz.prog 5 w112 s109.a s109.len s109.cap 1 c113 fun s114 w115 =>
 lt (IntKind.i64.wrap (t5+1)) fun x116 =>
 nx6 d_0 t3 s114 x116 w115) (
 qa.j3 d_0 t3 t4 Q w)
def qa.l6 (d_0:OAd) (t3:Sl) (t4:Sl) (t5:Int) (Q:VWP) (w:World):Prop :=
 ∃ (I:Sl→Int→WP) (μ:Sl→Int→World→Nat),I t4 t5 w∧∀ t4:Sl,∀ t5:Int,∀ w:World,I t4 t5 w→qa.b6 d_0 t3 t4 t5 Q (fun d_0' t3' t4' t5' w'=>(d_0'=d_0∧t3'=t3)∧I t4' t5' w'∧μ t4' t5' w' < μ t4 t5 w) w
def qa.j17 (d_0:OAd) (t3:Sl) (t4:Sl) (t5:Int) (Q:VWP) (w:World):Prop :=
 qa.l6 d_0 t3 t4 t5 Q w
def qa.j2 (d_0:OAd) (t3:Sl) (t4:Sl) (Q:VWP) (w:World):Prop :=
 qa.j17 d_0 t3 t4 0 Q w
def qa.j1 (d_0:OAd) (t3:Sl) (Q:VWP) (w:World):Prop :=
 nz d_0 fun a117 =>
 ldL w (Addr.add a117 0) fun x118 =>
 qqf 71 [sV t3,.int .i64 (x118.len:Int),.int .i64 4] w fun r121 w120 =>
 qa.j2 d_0 r121 ⟨none,0,0⟩ Q w120
def qa (d_0:OAd) (Q:VWP) (w:World):Prop :=
 nw w ⟨[.int .u8 77,.int .u8 73,.int .u8 68,.int .u8 88]⟩ 5 fun a122 w123 =>
 mkStr w123 (some a122) fun w124 =>
 nw w124 ⟨[.int .u8 1,.int .u8 1,.int .u8 4,.int .u8 0]⟩ 5 fun a125 w126 =>
 rdO w126 (some a125) (4 * 1) fun c127 =>
 apK Tryz.prog 5 w126 (some a122) 4 4 4 c127 fun s128 w129 =>
 qa.j1 d_0 s128 Q w129
theorem qa.ok (d_0:OAd) (Q:VWP) (w:World) (h:qa d_0 Q w):Calls Tryz.prog 39 ⟨[.pointer d_0]⟩ w (Ret Q) :=
 qvb [.tmp 2] qkd Tryz.func39 rfl rfl rfl rfl (.pr 1 [sP 0,sL 3] (fun a b w=>qa.j1 a b Q w) (.pr 1 [sP 0,sL 3,sL 4] (fun a b c w=>qa.j2 a b c Q w) (.sq [sP 0,sL 3,sL 4] (fun a b c w=>qa.j3 a b c Q w) (.sq [sP 0,sL 3,sL 4,sI 5] (fun a b c d w=>qa.j17 a b c d Q w) .lf (.bk (.lo [sP 0,sL 3] [sL 4,sI 5] (fun a b c d w=>qa.l6 a b c d Q w) (fun nx6 a b c d w=>qa.b6 a b c d Q nx6 w) fun nx6=>.lf))) (.sq [sP 0,sL 3,sL 4] (fun a b c w=>qa.j4 a b c Q w) (.bk (.lo [sP 0,sL 3] [sL 4] (fun a b c w=>qa.l5 a b c Q w) (fun nx5 a b c w=>qa.b5 a b c Q nx5 w) fun nx5=>.lf)) (.pr 1 [sP 0,sL 3,sL 4,sI 6,sI 7] (fun a b c d e w=>qa.j5 a b c d e Q w) (.pr 1 [sP 0,sL 3,sL 4,sI 6,sI 7,sL 8,sL 9] (fun a b c d e f g w=>qa.j6 a b c d e f g Q w) (.sq [sP 0,sL 3,sL 4,sI 6,sI 7] (fun a b c d e w=>qa.j7 a b c d e Q w) (.sq [sP 0,sL 3,sL 4,sI 6,sI 7,sL 8,sL 9,sI 10] (fun a b c d e f g h w=>qa.j16 a b c d e f g h Q w) .lf (.bk (.lo [sP 0,sL 4,sI 6,sL 8,sL 9] [sL 3,sI 7,sI 10] (fun a b c d e f g h w=>qa.l4 a b c d e f g h Q w) (fun nx4 a b c d e f g h w=>qa.b4 a b c d e f g h Q nx4 w) fun nx4=>.lf))) (.sq [sP 0,sL 3,sL 4,sI 6] (fun a b c d w=>qa.j8 a b c d Q w) .lf (.pr 1 [sP 0,sL 3,sI 6,sL 11] (fun a b c d w=>qa.j9 a b c d Q w) (.sq [sP 0,sL 3,sI 6] (fun a b c w=>qa.j10 a b c Q w) (.sq [sP 0,sL 3,sI 6,sL 11,sI 12] (fun a b c d e w=>qa.j15 a b c d e Q w) .lf (.bk (.lo [sP 0,sI 6,sL 11] [sL 3,sI 12] (fun a b c d e w=>qa.l3 a b c d e Q w) (fun nx3 a b c d e w=>qa.b3 a b c d e Q nx3 w) fun nx3=>.lf))) (.sq [sP 0,sL 3,sI 6] (fun a b c w=>qa.j11 a b c Q w) (.sq [sP 0,sL 3,sI 6,sI 13] (fun a b c d w=>qa.j14 a b c d Q w) .lf (.bk (.lo [sP 0,sI 6] [sL 3,sI 13] (fun a b c d w=>qa.l2 a b c d Q w) (fun nx2 a b c d w=>qa.b2 a b c d Q nx2 w) fun nx2=>.lf))) (.sq [sL 3] (fun a w=>qa.j12 a Q w) (.sq [sP 0,sL 3,sI 6,sI 14] (fun a b c d w=>qa.j13 a b c d Q w) .lf (.bk (.lo [sP 0,sI 6] [sL 3,sI 14] (fun a b c d w=>qa.l1 a b c d Q w) (fun nx1 a b c d w=>qa.b1 a b c d Q nx1 w) fun nx1=>.lf))) .lf)))))))))))) (by kernel_rfl) h
def qcb.j2 (out_3:Sl) (Q:VWP) (w:World):Prop :=
 Q (sV out_3) w
def qcb.b1 (x_0:OAd) (out_3:Sl) (i_4:Int) (Q:VWP) (nx1:OAd→Sl→Int→WP) (w:World):Prop :=
 nz x_0 fun a1 =>
 ldL w (Addr.add a1 1) fun x2 =>
 br (decide (i_4 < (x2.len:Int))) (
 nz x_0 fun a3 =>
 ldL w (Addr.add a3 1) fun x4 =>
 ixS x4.a x4.len i_4 22 fun a5 =>
 ldA w (Addr.add a5 0) 20 fun c6 =>
 (c6).size=20 ∧
 nw w ⟨(spl [.int .u8 0,.int .u8 0,.int .u8 0,.int .u8 0,.int .u8 0,.int .u8 0,.int .u8 0,.int .u8 0,.int .u8 0,.int .u8 0,.int .u8 0,.int .u8 0,.int .u8 0,.int .u8 0,.int .u8 0,.int .u8 0,.int .u8 0,.int .u8 0,.int .u8 0,.int .u8 0] 0 c6)⟩ 38 fun a7 w8 =>
 rdO w8 (some a7) (1 * 20) fun c9 =>
 apK Tryz.prog 38 w8 out_3.a out_3.len out_3.cap 1 c9 fun s10 w11 =>
 lt (IntKind.i64.wrap (i_4+1)) fun x12 =>
 nx1 x_0 s10 x12 w11) (
 qcb.j2 out_3 Q w)
def qcb.l1 (x_0:OAd) (out_3:Sl) (i_4:Int) (Q:VWP) (w:World):Prop :=
 ∃ (I:Sl→Int→WP) (μ:Sl→Int→World→Nat),I out_3 i_4 w∧∀ out_3:Sl,∀ i_4:Int,∀ w:World,I out_3 i_4 w→qcb.b1 x_0 out_3 i_4 Q (fun x_0' out_3' i_4' w'=>(x_0'=x_0)∧I out_3' i_4' w'∧μ out_3' i_4' w' < μ out_3 i_4 w) w
def qcb.j3 (x_0:OAd) (out_3:Sl) (i_4:Int) (Q:VWP) (w:World):Prop :=
 qcb.l1 x_0 out_3 i_4 Q w
def qcb.j1 (x_0:OAd) (out_3:Sl) (Q:VWP) (w:World):Prop :=
 qcb.j3 x_0 out_3 0 Q w
def qcb (x_0:OAd) (Q:VWP) (w:World):Prop :=
 qcb.j1 x_0 ⟨none,0,0⟩ Q w
theorem qcb.ok (x_0:OAd) (Q:VWP) (w:World) (h:qcb x_0 Q w):Calls Tryz.prog 40 ⟨[.pointer x_0]⟩ w (Ret Q) :=
 qvb [.tmp 2] qkd Tryz.func40 rfl rfl rfl rfl (.pr 1 [sP 0,sL 3] (fun a b w=>qcb.j1 a b Q w) (.sq [sL 3] (fun a w=>qcb.j2 a Q w) (.sq [sP 0,sL 3,sI 4] (fun a b c w=>qcb.j3 a b c Q w) .lf (.bk (.lo [sP 0] [sL 3,sI 4] (fun a b c w=>qcb.l1 a b c Q w) (fun nx1 a b c w=>qcb.b1 a b c Q nx1 w) fun nx1=>.lf))) .lf)) (by kernel_rfl) h
def qy.j2 (t4:Addr) (Q:VWP) (w:World):Prop :=
 ((⟨[.string ({ data:=#[] }),.int .i64 0]⟩:Array Value)).size=2 ∧
 stA w t4 (⟨[.string ({ data:=#[] }),.int .i64 0]⟩:Array Value) fun w1 =>
 ldA w1 t4 2 fun c2 =>
 Q (.tuple ⟨[.agg c2,.bool false]⟩) w1
def qy.b1 (x_0:OAd) (id_3:Addr) (t4:Addr) (i_6:Int) (Q:VWP) (nx1:OAd→Addr→Addr→Int→WP) (w:World):Prop :=
 nz x_0 fun a3 =>
 ldL w (Addr.add a3 1) fun x4 =>
 br (decide (i_6 < (x4.len:Int))) (
 lt (World.drew w) fun w5 =>
 nz x_0 fun a6 =>
 ldL w5 (Addr.add a6 1) fun x7 =>
 ixS x7.a x7.len i_6 22 fun a8 =>
 ldA w5 (Addr.add a8 0) 20 fun c9 =>
 ldA w5 id_3 20 fun c10 =>
 eqA .u8 20 c9 c10 fun x11 =>
 br x11 (
 lt (World.drew w5) fun w12 =>
 nz x_0 fun a13 =>
 ldL w12 (Addr.add a13 0) fun x14 =>
 nz x_0 fun a15 =>
 ldL w12 (Addr.add a15 1) fun x16 =>
 ixS x16.a x16.len i_6 22 fun a17 =>
 ldI .i64 w12 (Addr.add a17 20) fun x18 =>
 ixS x14.a x14.len x18 1 fun a19 =>
 ldS w12 a19 fun x20 =>
 nz x_0 fun a21 =>
 ldL w12 (Addr.add a21 1) fun x22 =>
 ixS x22.a x22.len i_6 22 fun a23 =>
 ldI .i64 w12 (Addr.add a23 21) fun x24 =>
 ((⟨[.string x20,.int .i64 x24]⟩:Array Value)).size=2 ∧
 stA w12 t4 (⟨[.string x20,.int .i64 x24]⟩:Array Value) fun w25 =>
 ldA w25 t4 2 fun c26 =>
 Q (.tuple ⟨[.agg c26,.bool true]⟩) w25) (
 lt (IntKind.i64.wrap (i_6+1)) fun x27 =>
 nx1 x_0 id_3 t4 x27 w5)) (
 qy.j2 t4 Q w)
def qy.l1 (x_0:OAd) (id_3:Addr) (t4:Addr) (i_6:Int) (Q:VWP) (w:World):Prop :=
 ∃ (I:Int→WP) (μ:Int→World→Nat),I i_6 w∧∀ i_6:Int,∀ w:World,I i_6 w→qy.b1 x_0 id_3 t4 i_6 Q (fun x_0' id_3' t4' i_6' w'=>(x_0'=x_0∧id_3'=id_3∧t4'=t4)∧I i_6' w'∧μ i_6' w' < μ i_6 w) w
def qy.j3 (x_0:OAd) (id_3:Addr) (t4:Addr) (i_6:Int) (Q:VWP) (w:World):Prop :=
 qy.l1 x_0 id_3 t4 i_6 Q w
def qy.j1 (x_0:OAd) (id_3:Addr) (t4:Addr) (Q:VWP) (w:World):Prop :=
 qy.j3 x_0 id_3 t4 0 Q w
def qy (x_0:OAd) (id_1:(Array Value)) (Q:VWP) (w:World):Prop :=
 nw w id_1 38 fun a28 w29 =>
 nw w29 (zc Tryz.prog 110) 110 fun a30 w31 =>
 qy.j1 x_0 a28 a30 Q w31
theorem qy.ok (x_0:OAd) (id_1:(Array Value)) (Q:VWP) (w:World) (h:qy x_0 id_1 Q w):Calls Tryz.prog 43 ⟨[.pointer x_0,.agg id_1]⟩ w (Ret Q) :=
 qvb [.cell 4 110,.tmp 5] qkd Tryz.func43 rfl rfl rfl rfl (.sq [sP 0,sA 3,sA 4] (fun a b c w=>qy.j1 a b c Q w) .lf (.sq [sA 4] (fun a w=>qy.j2 a Q w) (.sq [sP 0,sA 3,sA 4,sI 6] (fun a b c d w=>qy.j3 a b c d Q w) .lf (.bk (.lo [sP 0,sA 3,sA 4] [sI 6] (fun a b c d w=>qy.l1 a b c d Q w) (fun nx1 a b c d w=>qy.b1 a b c d Q nx1 w) fun nx1=>.lf))) .lf)) (by kernel_rfl) h
end Go.Proofs.YtonmgkkkiejicaaGreat
namespace Go.Proofs.YtonmgkkkiejicaaGreat
open Go Go.Proofs
set_option linter.unusedVariables false
set_option linter.unusedSimpArgs false
attribute [local irreducible] apK cpK mkK br qie mB
theorem str1_cells (x:ByteArray):strCells x (ByteArray.size x)=⟨u8s (biB x)⟩:=by
 unfold strCells
 have e:x.extract 0 x.size=x:=by
  apply ByteArray.ext
  rw [ByteArray.data_extract]
  exact Array.extract_eq_self_of_le (Nat.le_refl _)
 rw [e]
 apply Array.ext'
 simp [ivs,biB]
theorem names_take {NL:List ByteArray} {i:Nat} (h:i < NL.length):(NL.take (i+1)).flatMap nm0=(NL.take i).flatMap nm0 ++ biB NL[i] ++ [0]:=by
 rw [List.take_succ_eq_append_getElem h,List.flatMap_append,List.append_assoc]
 simp [nm0]
theorem names_le (NL:List ByteArray) (i:Nat):((NL.take i).flatMap nm0).length≤(NL.flatMap nm0).length:=by
 have e:NL.flatMap nm0=(NL.take i).flatMap nm0 ++ (NL.drop i).flatMap nm0:=by rw [← List.flatMap_append,List.take_append_drop]
 rw [e,List.length_append]
 omega
section
variable {F0:List Nat} {w0 w:World} {ps rest:List As} {sp sl o t4 tf:Sl} {NL:List ByteArray} {O:List Sp} {xb i:Nat} {K:Ending→World→Prop} {Q:VWP}
theorem RIDs.c (h:St F0 w0 w ps) [PkB xb ps [sV sp,sV sl] rest] [Rdb F0 w0 sl ps 22 (O.flatMap spC)] (hO:O.length≤1000000) (hk:∀ t w',t.len=O.length→St F0 w0 w' (qv 20 t ((qdc O).flatMap nmC) :: ps)→K (.returned (sV t)) w') :
 Calls Tryz.prog 40 ⟨[.pointer (some ⟨xb,0,none⟩)]⟩ w K:=by
 have hl:=h.rlen (s:=sl) (f:=spC) (L:=O)
 have hid:(qdc O).length=O.length:=List.length_map ..
 refine qsb (qcb.ok _ _ _ ?_)
 unfold qcb qcb.j1 qcb.j3
 refine loop2 (fun (i:Nat) (t:Sl) (i':Int) w'=>i'=(i:Int)∧i≤O.length∧St F0 w0 w' (qv 20 t ((qdc (O.take i)).flatMap nmC) :: ps)) (fun i=>O.length - i) 0 ⟨rfl,Nat.zero_le _,h.nilO⟩ ?_
 clear h
 rintro i t _ wL I μ ⟨rfl,hi,h⟩ hin
 have hld:∀ {Z:Sl→Prop},Z sl→ldL wL (Addr.add ⟨xb,0,none⟩ 1) Z:=fun hz=>by
  rw [qmb]
  exact (h.toB xb).blk.ldL (n:=sl) rfl hz
 unfold qcb.b1
 refine qgd (hld ?_)
 refine qsc (fun g=>?_) (fun g=>?_)
 · have hix:i < O.length:=by omega
   have e1:=qam hix
   have hlt:(qdc (O.take i)).length≤1000000:=by
    have:(qdc (O.take i)).length=(O.take i).length:=List.length_map ..
    rw [this,List.length_take]; omega
   refine qgd (hld ?_)
   refine h.spId (s:=sl) (D:=O) i rfl hix ?_
   have hN:(nmC O[i].1).length=20:=(inferInstance:Rec nmC 20).len O[i].1
   refine ⟨hN,?_⟩
   rw [qvg (by rw [hN]; rfl)]
   refine h.pushR (s:=t) (f:=nmC) (L:=qdc (O.take i)) (x:=O[i].1) (by omega) rfl fun t' w _ h=>?_
   refine qx (e':=((i+1:Nat):Int)) (by rw [qh (by omega) (by omega)]; rfl) ?_
   refine ⟨rfl,hin (i+1) _ _ _ ⟨rfl,by omega,?_⟩ (by omega)⟩
   rw [e1]
   exact h
 · have:i=O.length:=by omega
   subst this
   rw [List.take_length] at h
   have hlt:=h.rlen (s:=t) (f:=nmC) (L:=qdc O)
   unfold qcb.j2
   exact hk t _ (by omega) h
theorem RBytes_12 (hV:VM NL O) (h:St F0 w0 w (qv 1 o (u8s (qxi NL.length (mdL NL O))) :: ps)) (hk:∀ t w',t.len=(mB NL O).length→St F0 w0 w' (qv 1 t (u8s (mB NL O)) :: ps)→Q (sV t) w') :
 qa.j12 o Q w:=by
 have hfl:=hV.flat
 have hpl:(qxi NL.length (mdL NL O)).length≤70072:=by
  unfold qxi
  rw [List.length_append,qlh]
  omega
 have hpb:qzc (qxi NL.length (mdL NL O)):=by
  refine preM_ok ?_
  unfold mdL
  simp only [List.flatten_cons,List.flatten_nil,List.append_nil,qne]
  exact ⟨nmsB_ok _,wB_ok _,nB_ok _,atB_ok _⟩
 have hm:qxi NL.length (mdL NL O) ++ qie (qxi NL.length (mdL NL O))=mB NL O:=by rw [qji]; rfl
 generalize qxi NL.length (mdL NL O)=Y at h hpl hpb hm
 unfold qa.j12
 refine qi.c (s:=o) (xs:=Y) h hpb (by omega) fun w h=>⟨_,rfl,?_⟩
 rw [zc_20b]
 refine h.new fun kb w h=>?_
 have h:St F0 w0 w (qt kb (u8s z20) :: qv 1 o (u8s Y) :: ps):=h
 refine ⟨qsf _,?_⟩
 refine St.sA (b:=kb) (l':=u8s (qie Y)) h rfl (qsf _) qzf fun w h=>?_
 refine St.sealed (s:=o) (xs:=Y) (ys:=qie Y) (h.tail fun _ _ _ h=>h.apO) (qnf _) (by omega) fun o6 w h=>?_
 rw [hm] at h
 have:=h.len
 rw [qeb,Nat.mul_one] at this
 exact hk o6 w this.symm h
theorem RBytes_11 (hV:VM NL O) (X:List Int) (hX:X ++ atB O=qxi NL.length (mdL NL O)) (h:St F0 w0 w (qv 1 o (u8s X) :: ps)) [PkB xb ps [sV sp,sV sl] rest] [Rdb F0 w0 sl ps 22 (O.flatMap spC)] (hk:∀ t w',t.len=(mB NL O).length→St F0 w0 w' (qv 1 t (u8s (mB NL O)) :: ps)→Q (sV t) w') :
 qa.j11 (some ⟨xb,0,none⟩) o (O.length:Int) Q w:=by
 have hfl:=hV.flat
 have hpl:(X ++ atB O).length≤70072:=by
  rw [hX]
  unfold qxi
  rw [List.length_append,qlh]
  omega
 rw [List.length_append] at hpl
 unfold qa.j11 qa.j13
 refine loop2 (fun (i:Nat) (o:Sl) (i':Int) w'=>i'=(i:Int)∧i≤O.length∧St F0 w0 w' (qv 1 o (u8s (X ++ atB (O.take i))) :: ps)) (fun i=>O.length - i) 0 ⟨rfl,Nat.zero_le _,by simpa [atB] using h⟩ ?_
 clear h
 rintro i o _ wL I μ ⟨rfl,hi,h⟩ hin
 have hal:(atB (O.take i)).length≤70072:=by
  have h1:=qlg (O.take i)
  have h2:=qlg O
  rw [List.length_take] at h1
  omega
 unfold qa.b1
 refine qsc (fun g=>?_) (fun g=>?_)
 · have hix:i < O.length:=by omega
   have e2:=atB_take hix
   have hrg:=hV.rg _ (List.getElem_mem hix)
   have hln:=hV.ln
   have hol:=hV.ol
   have hL:∀ {w':World} {qs:List As} {Z:Sl→Prop},St F0 w0 w' (qv 1 o (u8s (X ++ atB (O.take i))) :: ps)→Z sl→ldL w' (Addr.add ⟨xb,0,none⟩ 1) Z:=fun h hz=>by
    rw [qmb]
    exact (h.toB xb).blk.ldL (n:=sl) rfl hz
   refine h.drewK fun w h=>qgd (hL (qs:=[]) h ?_)
   refine h.spPk (s:=sl) (D:=O) i rfl hix (qgd ?_)
   have hP:∀ {w':World} {o:Sl} {X:List Int} {v:Int} {qs:List As} {Z:Sl→World→Prop},X.length≤1000000→(0≤v∧v < 9223372036854775808)→St F0 w0 w' (qv 1 o (u8s X) :: qs)→(∀ o' w'',St F0 w0 w'' (qv 1 o' (u8s (X ++ beJ 4 4 v)) :: qs)→Z o' w'')→qqf 71 [sV o,.int .i64 v,.int .i64 4] w' Z:=fun hX hv h hz =>
    qsl.c (n:=4) h (by omega) hv (by decide) fun o' w h=>⟨o',rfl,hz o' w h⟩
   have l1:(X ++ atB (O.take i)).length≤1000000:=by rw [List.length_append]; omega
   have l2:(X ++ atB (O.take i) ++ beJ 4 4 O[i].2.1).length≤1000000:=by rw [List.length_append,qlc]; rw [List.length_append] at l1 ⊢; omega
   have leaf:∀ {w':World} {o':Sl},St F0 w0 w' (qv 1 o' (u8s (X ++ atB (O.take i) ++ beJ 4 4 O[i].2.1)) :: ps)→qqf 71 [sV o',.int .i64 O[i].2.2,.int .i64 4] w' fun r25 w24=>lt (IntKind.i64.wrap ((i:Int)+1)) fun x26=>((some (⟨xb,0,none⟩:Addr)=some ⟨xb,0,none⟩∧(O.length:Int)=(O.length:Int))∧I r25 x26 w24∧μ r25 x26 w24 < μ o (i:Int) wL):=fun {w' o'} h=>by
    refine hP l2 ⟨by omega,by omega⟩ h fun o2 w h=>?_
    refine qx (e':=((i+1:Nat):Int)) (by rw [qh (by omega) (by omega)]; rfl) ?_
    refine ⟨⟨rfl,rfl⟩,hin (i+1) _ _ _ ⟨rfl,by omega,?_⟩ (by omega)⟩
    rw [e2,← List.append_assoc,← List.append_assoc]
    exact h
   have hI2:∀ {w':World} {o':Sl} {X':List Int} {Z:Int→Prop},St F0 w0 w' (qv 1 o' (u8s X') :: ps)→Z O[i].2.2→ixS sl.a sl.len (i:Int) 22 fun a=>ldI .i64 w' (Addr.add a 21) Z:=fun h hz=>by
    refine h.rix (s:=sl) (f:=spC) (L:=O) i rfl hix fun a1 ha1=>?_
    exact (h.rdb sl).rI (f:=spC) (L:=O) ha1 hix (by decide) (sp_21 O[i]) hz
   have hL2:∀ {w':World} {o':Sl} {X':List Int} {Z:Sl→Prop},St F0 w0 w' (qv 1 o' (u8s X') :: ps)→Z sl→ldL w' (Addr.add ⟨xb,0,none⟩ 1) Z:=fun h hz=>by
    rw [qmb]
    exact (h.toB xb).blk.ldL (n:=sl) rfl hz
   refine ⟨?_,?_⟩
   · refine hP l1 ⟨by omega,by omega⟩ h fun o1 w h=>?_
     refine hL2 h ?_
     exact hI2 h (leaf h)
   · refine hL2 h ?_
     refine h.rix (s:=sl) (f:=spC) (L:=O) i rfl hix fun a1 ha1=>⟨?_,?_⟩
     · refine hP l1 ⟨by omega,by omega⟩ h fun o1 w h=>?_
       exact (h.rdb sl).rI (f:=spC) (L:=O) ha1 hix (by decide) (sp_21 O[i]) (leaf h)
     · refine (h.rdb sl).rI (f:=spC) (L:=O) ha1 hix (by decide) (sp_21 O[i]) ?_
       refine hP l1 ⟨by omega,by omega⟩ h fun o1 w h=>?_
       exact leaf h
 · have:i=O.length:=by omega
   subst this
   rw [List.take_length,hX] at h
   exact RBytes_12 hV h hk
theorem RBytes_10 (hV:VM NL O) (X:List Int) (hX:X ++ nB (qdc O) ++ atB O=qxi NL.length (mdL NL O)) (h:St F0 w0 w (qv 1 o (u8s X) :: ps)) [PkB xb ps [sV sp,sV sl] rest] [Rdb F0 w0 sl ps 22 (O.flatMap spC)] (hk:∀ t w',t.len=(mB NL O).length→St F0 w0 w' (qv 1 t (u8s (mB NL O)) :: ps)→Q (sV t) w') :
 qa.j10 (some ⟨xb,0,none⟩) o (O.length:Int) Q w:=by
 have hfl:=hV.flat
 have hpl:(X ++ nB (qdc O) ++ atB O).length≤70072:=by
  rw [hX]
  unfold qxi
  rw [List.length_append,qlh]
  omega
 rw [List.length_append,List.length_append] at hpl
 have hid:(qdc O).length=O.length:=List.length_map ..
 have hO:=hV.ol
 unfold qa.j10 qa.j14
 refine loop2 (fun (i:Nat) (o:Sl) (i':Int) w'=>i'=(i:Int)∧i≤O.length∧St F0 w0 w' (qv 1 o (u8s (X ++ nB (qdc (O.take i)))) :: ps)) (fun i=>O.length - i) 0 ⟨rfl,Nat.zero_le _,by simpa [nB,qdc] using h⟩ ?_
 clear h
 rintro i o _ wL I μ ⟨rfl,hi,h⟩ hin
 have hnl:(nB (qdc (O.take i))).length≤70072:=by
  have e1:(qdc (O.take i)).length=(O.take i).length:=List.length_map ..
  rw [qii,e1,List.length_take]; omega
 unfold qa.b2
 refine qsc (fun g=>?_) (fun g=>?_)
 · have hix:i < O.length:=by omega
   have e1:=qam hix
   refine qgd ?_
   rw [qmb]
   refine (h.toB xb).blk.ldL (n:=sl) rfl ?_
   refine h.rix (s:=sl) (f:=spC) (L:=O) i rfl hix fun a0 ha=>?_
   have hcp:cutP ((a0.add (i * 22)).add 0) 20 0 1=some (a0.add (i * 22)):=by
    unfold cutP
    rw [if_neg (by decide),qke,qke,Nat.zero_mul,Nat.add_zero]
   rw [hcp]
   refine qjc ?_
   haveI:Rdb F0 w0 ⟨some (a0.add (i * 22)),20,20⟩ (qv 1 o (u8s (X ++ nB (qdc (O.take i)))) :: ps) 1 (ivs .u8 O[i].1.1):=⟨fun h=>by
    refine ⟨by rw [qw,O[i].1.2.1]; rfl,fun k hk=>⟨_,rfl,?_⟩⟩
    rw [qw,O[i].1.2.1] at hk
    rw [(h.rdb sl).rcell (f:=spC) (L:=O) (j:=i) ha hix (by omega)]
    unfold spC
    rw [List.getElem?_append_left (by rw [qw,O[i].1.2.1]; exact hk)]⟩
   refine h.appI (s:=o) (s2:=⟨some (a0.add (i * 22)),20,20⟩) (k:=.u8) (zs:=X ++ nB (qdc (O.take i))) (ys:=O[i].1.1) (by rw [O[i].1.2.1,List.length_append]; omega) fun o2 w h=>?_
   refine qx (e':=((i+1:Nat):Int)) (by rw [qh (by omega) (by omega)]; rfl) ?_
   refine ⟨⟨rfl,rfl⟩,hin (i+1) _ _ _ ⟨rfl,by omega,?_⟩ (by omega)⟩
   rw [e1,nB_snoc,← List.append_assoc]
   exact h
 · have:i=O.length:=by omega
   subst this
   rw [List.take_length] at h
   exact RBytes_11 hV _ hX h hk
theorem RBytes_8 (hV:VM NL O) (X:List Int) (hX:X ++ (mdL NL O).flatten=qxi NL.length (mdL NL O)) (h:St F0 w0 w (qv 1 o (u8s X) :: qv 1 t4 (u8s (qfg NL)) :: ps)) [PkB xb ps [sV sp,sV sl] rest] [Rdb F0 w0 sl ps 22 (O.flatMap spC)] (hk:∀ t w',t.len=(mB NL O).length→St F0 w0 w' (qv 1 t (u8s (mB NL O)) :: ps)→Q (sV t) w') :
 qa.j8 (some ⟨xb,0,none⟩) o t4 (O.length:Int) Q w:=by
 have hfl:=hV.flat
 have hO:=hV.ol
 have hpl:(X ++ (mdL NL O).flatten).length≤70072:=by
  rw [hX]
  unfold qxi
  rw [List.length_append,qlh]
  omega
 have hmd:(mdL NL O).flatten=qfg NL ++ fB (qdc O) ++ nB (qdc O) ++ atB O:=by
  unfold mdL
  simp [List.append_assoc]
 rw [hmd,List.length_append,List.length_append,List.length_append,List.length_append] at hpl
 unfold qa.j8
 refine h.appI (s:=o) (s2:=t4) (k:=.u8) (zs:=X) (ys:=qfg NL) (by omega) fun o2 w h=>?_
 have h:St F0 w0 w (qv 1 o2 (u8s (X ++ qfg NL)) :: ps):=h.tail fun _ _ _ h=>h.drop
 refine RIDs.c (xb:=xb) (O:=O) h (by omega) fun ti w hti h=>⟨ti,rfl,?_⟩
 have hid:(qdc O).length=O.length:=List.length_map ..
 refine ref_Fanout.c (s:=ti) (A:=qdc O) h (by omega) fun tf w htf h=>⟨tf,rfl,?_⟩
 unfold qa.j9 qa.j15
 have h:St F0 w0 w (qv 1 o2 (u8s (X ++ qfg NL)) :: qv 1 tf (ivs .i64 (fanL (qdc O))) :: ps):=h.sub
 refine loop2 (fun (i:Nat) (o:Sl) (i':Int) w'=>i'=(i:Int)∧i≤256∧St F0 w0 w' (qv 1 o (u8s (X ++ qfg NL ++ wB ((fanL (qdc O)).take i))) :: qv 1 tf (ivs .i64 (fanL (qdc O))) :: ps)) (fun i=>256 - i) 0 ⟨rfl,Nat.zero_le _,by simpa [wB] using h⟩ ?_
 clear h
 rintro i o _ wL I μ ⟨rfl,hi,h⟩ hin
 unfold qa.b3
 refine qsc (fun g=>?_) (fun g=>?_)
 · have hi2:i < 256:=by omega
   refine h.lx (s:=tf) (zs:=fanL (qdc O)) i rfl (by rw [qug]; exact hi2) ?_
   have hfv:0≤(fanL (qdc O)).getD i 0∧(fanL (qdc O)).getD i 0≤2048:=by
    unfold fanL
    rw [qcf hi2]
    have:qai (qdc O) i≤(qdc O).length:=List.countP_le_length
    omega
   refine qsl.c (s:=o) (n:=4) h (by rw [List.length_append,wB_len,List.length_take,List.length_append]; omega) (by omega) (by decide) fun o2 w h=>⟨o2,rfl,?_⟩
   refine qx (e':=((i+1:Nat):Int)) (by rw [qh (by omega) (by omega)]; rfl) ?_
   refine ⟨⟨rfl,rfl,rfl⟩,hin (i+1) _ _ _ ⟨rfl,by omega,?_⟩ (by omega)⟩
   rw [qkh (by rw [qug]; exact hi2),wB_app,wB_one,← List.append_assoc]
   exact h
 · have:i=256:=by omega
   subst this
   rw [List.take_of_length_le (by rw [qug]; exact Nat.le_refl _)] at h
   have h:St F0 w0 wL (qv 1 o (u8s (X ++ qfg NL ++ fB (qdc O))) :: ps):=h.tail fun _ _ _ h=>h.drop
   refine RBytes_10 hV (X ++ qfg NL ++ fB (qdc O)) ?_ h hk
   rw [← hX,hmd]
   simp only [List.append_assoc]
theorem szs_at {NL:List ByteArray} {O:List Sp} {j:Nat} (hj:j < 4):([((qfg NL).length:Int),1024,((20 * O.length:Nat):Int),((8 * O.length:Nat):Int)]:List Int).getD j 0=(((mdL NL O).getD j []).length:Int):=by
 have hid:(qdc O).length=O.length:=List.length_map ..
 have:j=0 ∨ j=1 ∨ j=2 ∨ j=3:=by omega
 rcases this with rfl | rfl | rfl | rfl
 · rfl
 · show (1024:Int)=((fB (qdc O)).length:Int)
   rw [qem]; rfl
 · show ((20 * O.length:Nat):Int)=((nB (qdc O)).length:Int)
   rw [qii,hid]
 · show ((8 * O.length:Nat):Int)=((atB O).length:Int)
   rw [qlg]
theorem RBytes_5 (hV:VM NL O) (h:St F0 w0 w (qv 1 o (u8s (hdM NL.length)) :: qv 1 t4 (u8s (qfg NL)) :: ps)) [PkB xb ps [sV sp,sV sl] rest] [Rdb F0 w0 sl ps 22 (O.flatMap spC)] (hk:∀ t w',t.len=(mB NL O).length→St F0 w0 w' (qv 1 t (u8s (mB NL O)) :: ps)→Q (sV t) w') :
 qa.j5 (some ⟨xb,0,none⟩) o t4 (O.length:Int) 72 Q w:=by
 have hfl:=hV.flat
 have hO:=hV.ol
 have ho:∀ i,qfi (mdL NL O) i≤70072:=fun i=>by have:=qtl (mdL NL O) i; omega
 have ht4:=h.drop.len
 rw [qeb,Nat.mul_one] at ht4
 unfold qa.j5
 refine qx (e':=((20 * O.length:Nat):Int)) (by rw [qh (by omega) (by omega)]; omega) ?_
 refine qx (e':=((8 * O.length:Nat):Int)) (by rw [qh (by omega) (by omega)]; omega) ?_
 rw [← ht4]
 refine h.new fun zb w h=>?_
 have h:St F0 w0 w (qt zb (ivs .i64 [((qfg NL).length:Int),1024,((20 * O.length:Nat):Int),((8 * O.length:Nat):Int)]) :: qv 1 o (u8s (hdM NL.length)) :: qv 1 t4 (u8s (qfg NL)) :: ps):=h
 refine h.new fun wb w h=>?_
 have h:St F0 w0 w (qt wb (wrdT.map Value.string) :: qt zb (ivs .i64 [((qfg NL).length:Int),1024,((20 * O.length:Nat):Int),((8 * O.length:Nat):Int)]) :: qv 1 o (u8s (hdM NL.length)) :: qv 1 t4 (u8s (qfg NL)) :: ps):=h
 have h:St F0 w0 w (qv 1 o (u8s (hdM NL.length ++ tbM (mdL NL O) 0)) :: qt wb (wrdT.map Value.string) :: qt zb (ivs .i64 [((qfg NL).length:Int),1024,((20 * O.length:Nat):Int),((8 * O.length:Nat):Int)]) :: qv 1 t4 (u8s (qfg NL)) :: ps):=by
  have e:hdM NL.length ++ tbM (mdL NL O) 0=hdM NL.length:=by simp [tbM]
  rw [e]
  exact h.at2
 unfold qa.j6 qa.j16
 refine loop3 (fun (i:Nat) (o:Sl) (a i':Int) w'=>i'=(i:Int)∧i≤4∧a=(qfi (mdL NL O) i:Int)∧St F0 w0 w' (qv 1 o (u8s (hdM NL.length ++ tbM (mdL NL O) i)) :: qt wb (wrdT.map Value.string) :: qt zb (ivs .i64 [((qfg NL).length:Int),1024,((20 * O.length:Nat):Int),((8 * O.length:Nat):Int)]) :: qv 1 t4 (u8s (qfg NL)) :: ps)) (fun i=>4 - i) 0 ⟨rfl,Nat.zero_le _,rfl,h⟩ ?_
 clear h
 rintro i o _ _ wL I μ ⟨rfl,hi,rfl,h⟩ hin
 have htl:=qfk (mdL NL O) (i:=i) hi
 have hxl:(hdM NL.length ++ tbM (mdL NL O) i).length≤100:=by rw [List.length_append,htl,qnk]; omega
 have hoi:=ho i
 unfold qa.b4
 refine qsc (fun g=>?_) (fun g=>?_)
 · have hi4:i < 4:=by omega
   obtain ⟨hw,hc,hs⟩:=qpm i hi4
   refine ixS_blk i rfl hi4 ?_
   refine (h.toB wb).blk.ldS (n:=wrdT[i]) ?_ ⟨rfl,?_⟩
   · rw [List.getElem?_map,List.getElem?_eq_getElem hw]; rfl
   rw [hc,hs]
   refine qjc ?_
   refine h.apO.apx (ys:=wrdM.getD i []) rfl (qti hi4) (by decide) (by omega) fun o2 w h=>?_
   refine qsl.c (s:=o2) (n:=8) h (by rw [List.length_append,qti hi4]; omega) (by omega) (by decide) fun o3 w h=>⟨o3,rfl,?_⟩
   have hoi2:=ho (i+1)
   have hl4:i < (mdL NL O).length:=hi4
   have hos:=qig (l:=mdL NL O) (i:=i) hl4
   refine ixS_blk i rfl hi4 ?_
   have hgd:(mdL NL O).getD i []=(mdL NL O)[i]:=by rw [List.getD_eq_getElem?_getD,List.getElem?_eq_getElem hl4]; rfl
   have hsz:=szs_at (NL:=NL) (O:=O) hi4
   rw [hgd] at hsz
   have hzl:i < ([((qfg NL).length:Int),1024,((20 * O.length:Nat):Int),((8 * O.length:Nat):Int)]:List Int).length:=hi4
   refine (h.toB zb).blk.ldI (qmi hzl) ?_
   rw [hsz]
   refine qx (e':=(qfi (mdL NL O) (i+1):Int)) (by rw [qh (by omega) (by omega)]; omega) ?_
   refine qx (e':=((i+1:Nat):Int)) (by rw [qh (by omega) (by omega)]; rfl) ?_
   refine ⟨⟨rfl,rfl,rfl,rfl,rfl⟩,hin (i+1) _ _ _ _ ⟨rfl,by omega,rfl,?_⟩ (by omega)⟩
   rw [qwi,← List.append_assoc,← List.append_assoc]
   exact h
 · have:i=4:=by omega
   subst this
   unfold qa.j7
   refine h.new fun zb2 w h=>?_
   have h:St F0 w0 w (qt zb2 (u8s [0,0,0,0]) :: qv 1 o (u8s (hdM NL.length ++ tbM (mdL NL O) 4)) :: qt wb (wrdT.map Value.string) :: qt zb (ivs .i64 [((qfg NL).length:Int),1024,((20 * O.length:Nat):Int),((8 * O.length:Nat):Int)]) :: qv 1 t4 (u8s (qfg NL)) :: ps):=h
   have h:St F0 w0 w (qt zb2 (u8s [0,0,0,0]) :: qv 1 o (u8s (hdM NL.length ++ tbM (mdL NL O) 4)) :: qv 1 t4 (u8s (qfg NL)) :: ps):=h.tail fun _ _ _ h=>h.tail fun _ _ _ h=>h.drop.drop
   haveI:Rdb F0 w0 ⟨some ⟨zb2,0,none⟩,4,4⟩ (qt zb2 (u8s [0,0,0,0]) :: qv 1 o (u8s (hdM NL.length ++ tbM (mdL NL O) 4)) :: qv 1 t4 (u8s (qfg NL)) :: ps) 1 (u8s [0,0,0,0]):=qdg rfl
   refine h.appI (s:=o) (s2:=⟨some ⟨zb2,0,none⟩,4,4⟩) (k:=.u8) (zs:=hdM NL.length ++ tbM (mdL NL O) 4) (ys:=[0,0,0,0]) (by show _+4≤_; omega) fun o2 w h=>?_
   refine qsl.c (s:=o2) (n:=8) h (by rw [List.length_append]; show _+4≤_; omega) (by omega) (by decide) fun o3 w h=>⟨o3,rfl,?_⟩
   have h:St F0 w0 w (qv 1 o3 (u8s (tabM NL.length (mdL NL O))) :: qv 1 t4 (u8s (qfg NL)) :: ps):=h.tail fun _ _ _ h=>h.drop
   exact RBytes_8 hV (tabM NL.length (mdL NL O)) rfl h hk
theorem RBytes.c (hV:VM NL O) (h:St F0 w0 w ps) [PkB xb ps [sV sp,sV sl] rest] [Rdb F0 w0 sp ps 1 (NL.flatMap stC)] [Rdb F0 w0 sl ps 22 (O.flatMap spC)] (hk:∀ t w',t.len=(mB NL O).length→St F0 w0 w' (qv 1 t (u8s (mB NL O)) :: ps)→K (.returned (sV t)) w') :
 Calls Tryz.prog 39 ⟨[.pointer (some ⟨xb,0,none⟩)]⟩ w K:=by
 have hln:=hV.ln
 have hsp:=h.rlen (s:=sp) (f:=stC) (L:=NL)
 have hsl:=h.rlen (s:=sl) (f:=spC) (L:=O)
 have hnm:=nmsM_len hV.nm
 refine qsb (qa.ok _ _ _ ?_)
 unfold qa
 refine h.new fun cb w h=>?_
 have h:St F0 w0 w (qt cb (u8s [77,73,68,88]) :: ps):=h
 refine h.str (n:=4) rfl fun w h=>?_
 refine h.new fun nb w h=>?_
 have h:St F0 w0 w (qt nb (u8s [1,1,4,0]) :: rdA 1 ⟨some ⟨cb,0,none⟩,4,4⟩ (u8s [77,73,68,88]) :: ps):=h
 haveI:Rdb F0 w0 ⟨some ⟨nb,0,none⟩,4,4⟩ (qt nb (u8s [1,1,4,0]) :: rdA 1 ⟨some ⟨cb,0,none⟩,4,4⟩ (u8s [77,73,68,88]) :: ps) 1 (u8s [1,1,4,0]):=qdg rfl
 refine St.appF (s:=⟨some ⟨cb,0,none⟩,4,4⟩) (s2:=⟨some ⟨nb,0,none⟩,4,4⟩) (zs:=[77,73,68,88]) (ys:=[1,1,4,0]) (k:=.u8) h rfl (by show 0 < 4; decide) (by show 4+4≤_; decide) fun o w h=>?_
 have h:St F0 w0 w (qv 1 o (u8s markM) :: ps):=h.tail fun _ _ _ h=>h.drop.drop
 unfold qa.j1
 refine qgd ?_
 rw [qmb]
 refine (h.toB xb).blk.ldL (n:=sp) rfl ?_
 refine qsl.c (s:=o) (n:=4) h (by show 8≤_; decide) (by omega) (by decide) fun o1 w h=>⟨o1,rfl,?_⟩
 rw [← hsp] at h
 have h:St F0 w0 w (qv 1 o1 (u8s (hdM NL.length)) :: ps):=h
 unfold qa.j2 qa.j17
 refine loop2 (fun (i:Nat) (t4:Sl) (i':Int) w'=>i'=(i:Int)∧i≤NL.length∧St F0 w0 w' (qv 1 t4 (u8s ((NL.take i).flatMap nm0)) :: qv 1 o1 (u8s (hdM NL.length)) :: ps)) (fun i=>NL.length - i) 0 ⟨rfl,Nat.zero_le _,h.nil 1⟩ ?_
 clear h
 rintro i t4 _ wL I μ ⟨rfl,hi,h⟩ hin
 have hle:=names_le NL i
 have hld:∀ {Z:Sl→Prop},Z sp→ldL wL (Addr.add ⟨xb,0,none⟩ 0) Z:=fun hz=>by
  rw [qmb]
  exact (h.toB xb).blk.ldL (n:=sp) rfl hz
 unfold qa.b6
 refine qgd (hld ?_)
 refine qsc (fun g=>?_) (fun g=>?_)
 · have hix:i < NL.length:=by omega
   have hsz:=qtf (hV.nm _ (List.getElem_mem hix))
   have hnt:=names_take hix
   refine qgd (hld ?_)
   refine h.rix (s:=sp) (f:=stC) (L:=NL) i rfl hix fun a0 ha=>?_
   have hc:=(h.rdb sp).rcell (f:=stC) (L:=NL) (j:=i) (o:=0) ha hix (by decide)
   refine ⟨NL[i],by simpa [stC,qke] using hc,rfl,?_⟩
   rw [str1_cells]
   refine qjc ?_
   refine h.apO.apx (ys:=biB NL[i]) rfl (qnd _) (by omega) (by omega) fun t5 w h=>?_
   refine h.new fun zb w h=>?_
   have h:St F0 w0 w (qt zb (u8s [0]) :: qv 1 t5 (u8s ((NL.take i).flatMap nm0 ++ biB NL[i])) :: qv 1 o1 (u8s (hdM NL.length)) :: ps):=h
   haveI:Rdb F0 w0 ⟨some ⟨zb,0,none⟩,1,1⟩ (qt zb (u8s [0]) :: qv 1 t5 (u8s ((NL.take i).flatMap nm0 ++ biB NL[i])) :: qv 1 o1 (u8s (hdM NL.length)) :: ps) 1 (u8s [0]):=qdg rfl
   have hbl:=qnd NL[i]
   refine h.appI (s:=t5) (s2:=⟨some ⟨zb,0,none⟩,1,1⟩) (zs:=(NL.take i).flatMap nm0 ++ biB NL[i]) (ys:=[0]) (k:=.u8) (by rw [List.length_append]; show _+1≤_; omega) fun t6 w h=>?_
   refine qx (e':=((i+1:Nat):Int)) (by rw [qh (by omega) (by omega)]; rfl) ?_
   refine ⟨⟨rfl,rfl⟩,hin (i+1) _ _ _ ⟨rfl,by omega,?_⟩ (by omega)⟩
   rw [hnt]
   exact h.tail fun _ _ _ h=>h.drop
 · have:i=NL.length:=by omega
   subst this
   rw [List.take_length] at h
   unfold qa.j3
   refine qud (fun (k:Nat) (t6:Sl) w'=>k≤(4 - (NL.flatMap nm0).length % 4) % 4∧St F0 w0 w' (qv 1 t6 (u8s (NL.flatMap nm0 ++ List.replicate k 0)) :: qv 1 o1 (u8s (hdM NL.length)) :: ps)) (fun k=>4 - k) 0 ⟨Nat.zero_le _,by simpa using h⟩ ?_
   clear h hld hin
   rintro k t6 wM I2 μ2 ⟨hk0,h⟩ hin
   have hl:=h.len
   rw [qeb,List.length_append,List.length_replicate,Nat.mul_one] at hl
   unfold qa.b5
   refine ⟨by decide,?_⟩
   refine qx (e':=((t6.len % 4:Nat):Int)) (by rw [Int.tmod_eq_emod_of_nonneg (by omega)]; omega) ?_
   by_cases g:t6.len % 4=0
   · rw [g]
     refine qmd (fun g=>by simp at g) (fun _=>?_)
     have hke:k=(4 - (NL.flatMap nm0).length % 4) % 4:=by omega
     have h:St F0 w0 wM (qv 1 o1 (u8s (hdM NL.length)) :: qv 1 t6 (u8s (qfg NL)) :: ps):=by
      unfold qfg padB
      rw [← hke]
      exact h.at1
     unfold qa.j4
     refine qgd ?_
     rw [qmb]
     refine (h.toB xb).blk.ldL (n:=sl) rfl ?_
     rw [← hsl]
     exact RBytes_5 hV h hk
   · refine qmd (fun _=>?_) (fun g2=>by
      have:((t6.len % 4:Nat):Int)=0:=by simpa using g2
      omega)
     refine h.new fun zb w h=>?_
     have h:St F0 w0 w (qt zb (u8s [0]) :: qv 1 t6 (u8s (NL.flatMap nm0 ++ List.replicate k 0)) :: qv 1 o1 (u8s (hdM NL.length)) :: ps):=h
     haveI:Rdb F0 w0 ⟨some ⟨zb,0,none⟩,1,1⟩ (qt zb (u8s [0]) :: qv 1 t6 (u8s (NL.flatMap nm0 ++ List.replicate k 0)) :: qv 1 o1 (u8s (hdM NL.length)) :: ps) 1 (u8s [0]):=qdg rfl
     refine h.appI (s:=t6) (s2:=⟨some ⟨zb,0,none⟩,1,1⟩) (zs:=NL.flatMap nm0 ++ List.replicate k 0) (ys:=[0]) (k:=.u8) (by rw [List.length_append,List.length_replicate]; show _+1≤_; omega) fun t6' w h=>?_
     refine ⟨⟨rfl,rfl⟩,hin (k+1) _ _ ⟨by omega,?_⟩ (by omega)⟩
     rw [List.append_assoc,← List.replicate_succ'] at h
     exact h.tail fun _ _ _ h=>h.drop
end
end Go.Proofs.YtonmgkkkiejicaaGreat
