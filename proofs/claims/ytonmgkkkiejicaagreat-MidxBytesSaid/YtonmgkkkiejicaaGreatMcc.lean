/- Own texts as one, only what is reached (shake.py). -/
import Derived.Test.YtonmgkkkiejicaaGreatMcb
import Derived.DeepKeys4
import Derived.Lib.Bytealg
import Derived.Lib.IndexLaws
import Derived.Maps.Keyed
import Derived.Maps.RangeRun
import Derived.ProofKit
import Derived.Sort.LotA
import Derived.Sort.LotB
import Derived.Sort.LotD3
import Derived.Test.YtonmgkkkiejicaaGreatProg
import Derived.Test.YtonmgkkkiejicaaGreatRows
set_option linter.unusedSectionVars false
namespace Go.Proofs.YtonmgkkkiejicaaGreat
open Go Go.Proofs
set_option linter.unusedVariables false
set_option maxRecDepth 100000
def qic.j2  (Q:VWP) (w:World):Prop :=
 Q (.bool true) w
def qic.b1 (s_0:ByteArray) (t5:Int) (t6:Int) (Q:VWP) (nx1:ByteArray→Int→Int→WP) (w:World):Prop :=
 br (decide (t6 < t5)) (
 ((0:Int)≤t6∧t6 < (ByteArray.size s_0:Int)) ∧
 lt (qqd s_0 (Int.toNat t6)) fun x1 =>
 qri 105 [.string ({ data:=#[48,49,50,51,52,53,54,55,56,57,97,98,99,100,101,102] }),.int .u8 x1] w fun r4 w3 =>
 br (decide (r4 < 0)) (
 Q (.bool false) w3) (
 lt (IntKind.i64.wrap (t6+1)) fun x5 =>
 nx1 s_0 t5 x5 w3)) (
 qic.j2 Q w)
def qic.l1 (s_0:ByteArray) (t5:Int) (t6:Int) (Q:VWP) (w:World):Prop :=
 ∃ (I:Int→WP) (μ:Int→World→Nat),I t6 w∧∀ t6:Int,∀ w:World,I t6 w→qic.b1 s_0 t5 t6 Q (fun s_0' t5' t6' w'=>(s_0'=s_0∧t5'=t5)∧I t6' w'∧μ t6' w' < μ t6 w) w
def qic.j3 (s_0:ByteArray) (t5:Int) (t6:Int) (Q:VWP) (w:World):Prop :=
 qic.l1 s_0 t5 t6 Q w
def qic.j1 (s_0:ByteArray) (Q:VWP) (w:World):Prop :=
 qic.j3 s_0 (ByteArray.size s_0:Int) 0 Q w
def qic (s_0:ByteArray) (Q:VWP) (w:World):Prop :=
 qic.j1 s_0 Q w
theorem qic.ok (s_0:ByteArray) (Q:VWP) (w:World) (h:qic s_0 Q w):Calls Tryz.prog 104 ⟨[.string s_0]⟩ w (Ret Q) :=
 qvb [.tmp 2] qkd Tryz.func104 rfl rfl rfl rfl (.sq [(0,.S)] (fun a w=>qic.j1 a Q w) .lf (.sq [] (fun  w=>qic.j2 Q w) (.sq [(0,.S),sI 5,sI 6] (fun a b c w=>qic.j3 a b c Q w) .lf (.bk (.lo [(0,.S),sI 5] [sI 6] (fun a b c w=>qic.l1 a b c Q w) (fun nx1 a b c w=>qic.b1 a b c Q nx1 w) fun nx1=>.lf))) .lf)) (by kernel_rfl) h
def qcc.j3 (t2 id_4:Addr) (Q:VWP) (w:World):Prop :=
 ldA w id_4 20 fun c1 =>
 (c1).size=20 ∧
 stA w t2 c1 fun w2 =>
 ldA w2 t2 20 fun c3 =>
 Q (.tuple ⟨[.agg c3,.int .i64 0]⟩) w2
def qcc.b1 (s_0:ByteArray) (t2:Addr) (id_4:Addr) (t16:Int) (t17:Int) (Q:VWP) (nx1:ByteArray→Addr→Addr→Int→Int→WP) (w:World):Prop :=
 br (decide (t17 < t16)) (
 lt (World.drew w) fun w4 =>
 (2:Int) ≠ 0 ∧
 lt (IntKind.i64.wrap (Int.tdiv t17 2)) fun x5 =>
 (2:Int) ≠ 0 ∧
 lt (IntKind.i64.wrap (Int.tdiv t17 2)) fun x6 =>
 ixA id_4 20 x6 1 fun a7 =>
 ((0:Int)≤t17∧t17 < (ByteArray.size s_0:Int)) ∧
 lt (qqd s_0 (Int.toNat t17)) fun x8 =>
 (ldI .u8 w4 a7 fun x9 =>
 (0:Int)≤4 ∧
 lt (shlV .u8 x9 4) fun x10 =>
 qri 105 [.string ({ data:=#[48,49,50,51,52,53,54,55,56,57,97,98,99,100,101,102] }),.int .u8 x8] w4 fun r13 w12 =>
 lt (IntKind.u8.wrap r13) fun x14 =>
 lt (orV .u8 x10 x14) fun x15 =>
 ixA id_4 20 x5 1 fun a16 =>
 st w12 a16 (.int .u8 x15) fun w17 =>
 lt (IntKind.i64.wrap (t17+1)) fun x18 =>
 nx1 s_0 t2 id_4 t16 x18 w17)∧(
 qri 105 [.string ({ data:=#[48,49,50,51,52,53,54,55,56,57,97,98,99,100,101,102] }),.int .u8 x8] w4 fun r21 w20 =>
 lt (IntKind.u8.wrap r21) fun x22 =>
 ldI .u8 w20 a7 fun x23 =>
 (0:Int)≤4 ∧
 lt (shlV .u8 x23 4) fun x24 =>
 lt (orV .u8 x24 x22) fun x25 =>
 ixA id_4 20 x5 1 fun a26 =>
 st w20 a26 (.int .u8 x25) fun w27 =>
 lt (IntKind.i64.wrap (t17+1)) fun x28 =>
 nx1 s_0 t2 id_4 t16 x28 w27)) (
 qcc.j3 t2 id_4 Q w)
def qcc.l1 (s_0:ByteArray) (t2:Addr) (id_4:Addr) (t16:Int) (t17:Int) (Q:VWP) (w:World):Prop :=
 ∃ (I:Int→WP) (μ:Int→World→Nat),I t17 w∧∀ t17:Int,∀ w:World,I t17 w→qcc.b1 s_0 t2 id_4 t16 t17 Q (fun s_0' t2' id_4' t16' t17' w'=>(s_0'=s_0∧t2'=t2∧id_4'=id_4∧t16'=t16)∧I t17' w'∧μ t17' w' < μ t17 w) w
def qcc.j4 (s_0:ByteArray) (t2:Addr) (id_4:Addr) (t16:Int) (t17:Int) (Q:VWP) (w:World):Prop :=
 qcc.l1 s_0 t2 id_4 t16 t17 Q w
def qcc.j2 (s_0:ByteArray) (t2:Addr) (id_4:Addr) (Q:VWP) (w:World):Prop :=
 qcc.j4 s_0 t2 id_4 (ByteArray.size s_0:Int) 0 Q w
def qcc.j1 (s_0:ByteArray) (t2:Addr) (Q:VWP) (w:World):Prop :=
 nw w (zc Tryz.prog 39) 39 fun a29 w30 =>
 br (((ByteArray.size s_0:Int):Int) != 40) (
 ldA w30 a29 20 fun c31 =>
 (c31).size=20 ∧
 stA w30 t2 c31 fun w32 =>
 ldA w32 t2 20 fun c33 =>
 Q (.tuple ⟨[.agg c33,.int .i64 2]⟩) w32) (
 qxm 104 [.string s_0] w30 fun r36 w35 =>
 br (!r36) (
 ldA w35 a29 20 fun c37 =>
 (c37).size=20 ∧
 stA w35 t2 c37 fun w38 =>
 ldA w38 t2 20 fun c39 =>
 Q (.tuple ⟨[.agg c39,.int .i64 2]⟩) w38) (
 qcc.j2 s_0 t2 a29 Q w35))
def qcc (s_0:ByteArray) (Q:VWP) (w:World):Prop :=
 nw w (zc Tryz.prog 39) 39 fun a40 w41 =>
 qcc.j1 s_0 a40 Q w41
theorem qcc.ok (s_0:ByteArray) (Q:VWP) (w:World) (h:qcc s_0 Q w):Calls Tryz.prog 87 ⟨[.string s_0]⟩ w (Ret Q) :=
 qvb [.cell 2 39,.tmp 3] qkd Tryz.func87 rfl rfl rfl rfl (.sq [(0,.S),sA 2] (fun a b w=>qcc.j1 a b Q w) .lf (.pr 1 [(0,.S),sA 2,sA 4] (fun a b c w=>qcc.j2 a b c Q w) (.sq [sA 2,sA 4] (fun a b w=>qcc.j3 a b Q w) (.sq [(0,.S),sA 2,sA 4,sI 16,sI 17] (fun a b c d e w=>qcc.j4 a b c d e Q w) .lf (.bk (.lo [(0,.S),sA 2,sA 4,sI 16] [sI 17] (fun a b c d e w=>qcc.l1 a b c d e Q w) (fun nx1 a b c d e w=>qcc.b1 a b c d e Q nx1 w) fun nx1=>.lf))) .lf))) (by kernel_rfl) h
def qhb.j3 (out_4:Sl) (Q:VWP) (w:World):Prop :=
 btS w out_4.a out_4.len fun x1 =>
 Q (.string x1) w
def qhb.b1 (id_1:Addr) (d_3:ByteArray) (out_4:Sl) (i_5:Int) (Q:VWP) (nx1:Addr→ByteArray→Sl→Int→WP) (w:World):Prop :=
 br (decide (i_5 < 20)) (
 lt (World.drew w) fun w2 =>
 ixA id_1 20 i_5 1 fun a3 =>
 ldI .u8 w2 a3 fun x4 =>
 (0:Int)≤4 ∧
 lt (shrV .u8 x4 4) fun x5 =>
 ((0:Int)≤x5∧x5 < (ByteArray.size d_3:Int)) ∧
 lt (qqd d_3 (Int.toNat x5)) fun x6 =>
 ixA id_1 20 i_5 1 fun a7 =>
 ldI .u8 w2 a7 fun x8 =>
 lt (andV .u8 x8 15) fun x9 =>
 ((0:Int)≤x9∧x9 < (ByteArray.size d_3:Int)) ∧
 lt (qqd d_3 (Int.toNat x9)) fun x10 =>
 nw w2 ⟨[.int .u8 x6,.int .u8 x10]⟩ 5 fun a11 w12 =>
 rdO w12 (some a11) (2 * 1) fun c13 =>
 apK Tryz.prog 5 w12 out_4.a out_4.len out_4.cap 2 c13 fun s14 w15 =>
 lt (IntKind.i64.wrap (i_5+1)) fun x16 =>
 nx1 id_1 d_3 s14 x16 w15) (
 qhb.j3 out_4 Q w)
def qhb.l1 (id_1:Addr) (d_3:ByteArray) (out_4:Sl) (i_5:Int) (Q:VWP) (w:World):Prop :=
 ∃ (I:Sl→Int→WP) (μ:Sl→Int→World→Nat),I out_4 i_5 w∧∀ out_4:Sl,∀ i_5:Int,∀ w:World,I out_4 i_5 w→qhb.b1 id_1 d_3 out_4 i_5 Q (fun id_1' d_3' out_4' i_5' w'=>(id_1'=id_1∧d_3'=d_3)∧I out_4' i_5' w'∧μ out_4' i_5' w' < μ out_4 i_5 w) w
def qhb.j4 (id_1:Addr) (d_3:ByteArray) (out_4:Sl) (i_5:Int) (Q:VWP) (w:World):Prop :=
 qhb.l1 id_1 d_3 out_4 i_5 Q w
def qhb.j2 (id_1:Addr) (d_3:ByteArray) (out_4:Sl) (Q:VWP) (w:World):Prop :=
 qhb.j4 id_1 d_3 out_4 0 Q w
def qhb.j1 (id_1:Addr) (Q:VWP) (w:World):Prop :=
 qhb.j2 id_1 ({ data:=#[48,49,50,51,52,53,54,55,56,57,97,98,99,100,101,102] }) ⟨none,0,0⟩ Q w
def qhb (id_0:(Array Value)) (Q:VWP) (w:World):Prop :=
 nw w id_0 38 fun a17 w18 =>
 qhb.j1 a17 Q w18
theorem qhb.ok (id_0:(Array Value)) (Q:VWP) (w:World) (h:qhb id_0 Q w):Calls Tryz.prog 29 ⟨[.agg id_0]⟩ w (Ret Q) :=
 qvb [.tmp 2] qkd Tryz.func29 rfl rfl rfl rfl (.sq [sA 1] (fun a w=>qhb.j1 a Q w) .lf (.pr 1 [sA 1,(3,.S),sL 4] (fun a b c w=>qhb.j2 a b c Q w) (.sq [sL 4] (fun a w=>qhb.j3 a Q w) (.sq [sA 1,(3,.S),sL 4,sI 5] (fun a b c d w=>qhb.j4 a b c d Q w) .lf (.bk (.lo [sA 1,(3,.S)] [sL 4,sI 5] (fun a b c d w=>qhb.l1 a b c d Q w) (fun nx1 a b c d w=>qhb.b1 a b c d Q nx1 w) fun nx1=>.lf))) .lf))) (by kernel_rfl) h
def qdb.j3 (t2 id_4:Addr) (Q:VWP) (w:World):Prop :=
 ldA w id_4 20 fun c1 =>
 (c1).size=20 ∧
 stA w t2 c1 fun w2 =>
 ldA w2 t2 20 fun c3 =>
 Q (.tuple ⟨[.agg c3,.int .i64 0]⟩) w2
def qdb.b1 (s_0:ByteArray) (t2:Addr) (id_4:Addr) (i_5:Int) (Q:VWP) (nx1:ByteArray→Addr→Addr→Int→WP) (w:World):Prop :=
 br (decide (i_5 < 40)) (
 ((0:Int)≤i_5∧i_5 < (ByteArray.size s_0:Int)) ∧
 lt (qqd s_0 (Int.toNat i_5)) fun x4 =>
 qri 100 [.int .u8 x4] w fun r7 w6 =>
 br (decide (r7 < 0)) (
 ((⟨[.int .u8 0,.int .u8 0,.int .u8 0,.int .u8 0,.int .u8 0,.int .u8 0,.int .u8 0,.int .u8 0,.int .u8 0,.int .u8 0,.int .u8 0,.int .u8 0,.int .u8 0,.int .u8 0,.int .u8 0,.int .u8 0,.int .u8 0,.int .u8 0,.int .u8 0,.int .u8 0]⟩:Array Value)).size=20 ∧
 stA w6 t2 (⟨[.int .u8 0,.int .u8 0,.int .u8 0,.int .u8 0,.int .u8 0,.int .u8 0,.int .u8 0,.int .u8 0,.int .u8 0,.int .u8 0,.int .u8 0,.int .u8 0,.int .u8 0,.int .u8 0,.int .u8 0,.int .u8 0,.int .u8 0,.int .u8 0,.int .u8 0,.int .u8 0]⟩:Array Value) fun w8 =>
 ldA w8 t2 20 fun c9 =>
 Q (.tuple ⟨[.agg c9,.int .i64 2]⟩) w8) (
 lt (World.drew w6) fun w10 =>
 (2:Int) ≠ 0 ∧
 lt (IntKind.i64.wrap (Int.tdiv i_5 2)) fun x11 =>
 (2:Int) ≠ 0 ∧
 lt (IntKind.i64.wrap (Int.tdiv i_5 2)) fun x12 =>
 ixA id_4 20 x12 1 fun a13 =>
 ((0:Int)≤i_5∧i_5 < (ByteArray.size s_0:Int)) ∧
 lt (qqd s_0 (Int.toNat i_5)) fun x14 =>
 (ldI .u8 w10 a13 fun x15 =>
 (0:Int)≤4 ∧
 lt (shlV .u8 x15 4) fun x16 =>
 qri 100 [.int .u8 x14] w10 fun r19 w18 =>
 lt (IntKind.u8.wrap r19) fun x20 =>
 lt (orV .u8 x16 x20) fun x21 =>
 ixA id_4 20 x11 1 fun a22 =>
 st w18 a22 (.int .u8 x21) fun w23 =>
 lt (IntKind.i64.wrap (i_5+1)) fun x24 =>
 nx1 s_0 t2 id_4 x24 w23)∧(
 qri 100 [.int .u8 x14] w10 fun r27 w26 =>
 lt (IntKind.u8.wrap r27) fun x28 =>
 ldI .u8 w26 a13 fun x29 =>
 (0:Int)≤4 ∧
 lt (shlV .u8 x29 4) fun x30 =>
 lt (orV .u8 x30 x28) fun x31 =>
 ixA id_4 20 x11 1 fun a32 =>
 st w26 a32 (.int .u8 x31) fun w33 =>
 lt (IntKind.i64.wrap (i_5+1)) fun x34 =>
 nx1 s_0 t2 id_4 x34 w33))) (
 qdb.j3 t2 id_4 Q w)
def qdb.l1 (s_0:ByteArray) (t2:Addr) (id_4:Addr) (i_5:Int) (Q:VWP) (w:World):Prop :=
 ∃ (I:Int→WP) (μ:Int→World→Nat),I i_5 w∧∀ i_5:Int,∀ w:World,I i_5 w→qdb.b1 s_0 t2 id_4 i_5 Q (fun s_0' t2' id_4' i_5' w'=>(s_0'=s_0∧t2'=t2∧id_4'=id_4)∧I i_5' w'∧μ i_5' w' < μ i_5 w) w
def qdb.j4 (s_0:ByteArray) (t2:Addr) (id_4:Addr) (i_5:Int) (Q:VWP) (w:World):Prop :=
 qdb.l1 s_0 t2 id_4 i_5 Q w
def qdb.j2 (s_0:ByteArray) (t2:Addr) (id_4:Addr) (Q:VWP) (w:World):Prop :=
 qdb.j4 s_0 t2 id_4 0 Q w
def qdb.j1 (s_0:ByteArray) (t2:Addr) (Q:VWP) (w:World):Prop :=
 nw w (zc Tryz.prog 38) 38 fun a35 w36 =>
 br (((ByteArray.size s_0:Int):Int) != 40) (
 ldA w36 a35 20 fun c37 =>
 (c37).size=20 ∧
 stA w36 t2 c37 fun w38 =>
 ldA w38 t2 20 fun c39 =>
 Q (.tuple ⟨[.agg c39,.int .i64 2]⟩) w38) (
 qdb.j2 s_0 t2 a35 Q w36)
def qdb (s_0:ByteArray) (Q:VWP) (w:World):Prop :=
 nw w (zc Tryz.prog 38) 38 fun a40 w41 =>
 qdb.j1 s_0 a40 Q w41
theorem qdb.ok (s_0:ByteArray) (Q:VWP) (w:World) (h:qdb s_0 Q w):Calls Tryz.prog 70 ⟨[.string s_0]⟩ w (Ret Q) :=
 qvb [.cell 2 38,.tmp 3] qkd Tryz.func70 rfl rfl rfl rfl (.sq [(0,.S),sA 2] (fun a b w=>qdb.j1 a b Q w) .lf (.pr 1 [(0,.S),sA 2,sA 4] (fun a b c w=>qdb.j2 a b c Q w) (.sq [sA 2,sA 4] (fun a b w=>qdb.j3 a b Q w) (.sq [(0,.S),sA 2,sA 4,sI 5] (fun a b c d w=>qdb.j4 a b c d Q w) .lf (.bk (.lo [(0,.S),sA 2,sA 4] [sI 5] (fun a b c d w=>qdb.l1 a b c d Q w) (fun nx1 a b c d w=>qdb.b1 a b c d Q nx1 w) fun nx1=>.lf))) .lf))) (by kernel_rfl) h
def qkb.j2  (Q:VWP) (w:World):Prop :=
 Q (.int .i64 (-1)) w
def qkb.j3 (c_0:Int) (t3:Bool) (Q:VWP) (w:World):Prop :=
 br t3 (
 lt (IntKind.u8.wrap (c_0 - 48)) fun x1 =>
 lt (IntKind.i64.wrap x1) fun x2 =>
 Q (.int .i64 x2) w) (
 br (decide (c_0 ≥ 97)) (
 br (decide (c_0≤102)) (
 lt (IntKind.u8.wrap (c_0 - 97)) fun x3 =>
 lt (IntKind.i64.wrap x3) fun x4 =>
 lt (IntKind.i64.wrap (x4+10)) fun x5 =>
 Q (.int .i64 x5) w) (
 qkb.j2 Q w)) (
 qkb.j2 Q w))
def qkb.j1 (c_0:Int) (Q:VWP) (w:World):Prop :=
 br (decide (c_0 ≥ 48)) (
 qkb.j3 c_0 (decide (c_0≤57)) Q w) (
 qkb.j3 c_0 false Q w)
def qkb (c_0:Int) (Q:VWP) (w:World):Prop :=
 qkb.j1 c_0 Q w
theorem qkb.ok (c_0:Int) (Q:VWP) (w:World) (h:qkb c_0 Q w):Calls Tryz.prog 100 ⟨[.int .u8 c_0]⟩ w (Ret Q) :=
 qvb [.tmp 2] qkd Tryz.func100 rfl rfl rfl rfl (.sq [(0,.I .u8)] (fun a w=>qkb.j1 a Q w) .lf (.sq [] (fun  w=>qkb.j2 Q w) (.bk (.sq [(0,.I .u8),sB 3] (fun a b w=>qkb.j3 a b Q w) .lf .lf)) .lf)) (by kernel_rfl) h
end Go.Proofs.YtonmgkkkiejicaaGreat
namespace Go.Proofs.YtonmgkkkiejicaaGreat
open Go Go.Proofs
set_option linter.unusedVariables false
set_option linter.unusedSimpArgs false
attribute [local irreducible] apK cpK mkK br
def hxD:ByteArray:={ data:=#[48,49,50,51,52,53,54,55,56,57,97,98,99,100,101,102] }
def ixBy (s:ByteArray) (c:Int):Int:=Lib.indexByte s.data.toList c.toNat.toUInt8
def isSg (c:Int):Bool:=decide (0≤ixBy hxD c)
def sgs (s:ByteArray):Bool:=(List.range s.size).all fun i=>isSg (qqd s i)
section
variable {F0:List Nat} {w0 w:World} {ps rest:List As} {s:ByteArray} {ch:Int}
theorem IndexByte.c {K:Ending→World→Prop} (hk:K (.returned (.int .i64 (ixBy s ch))) w):Calls Tryz.prog 105 ⟨[.string s,.int .u8 ch]⟩ w K:=by
 refine qsb (qse.ok _ _ _ _ ?_)
 unfold qse
 refine qsb (qxb.ok _ _ _ _ ?_)
 unfold qxb
 refine ⟨ixBy s ch,w,?_,_,rfl,hk⟩
 unfold cfR
 rw [run_callFunc_extern (fn:=Tryz.f116) (e:=Extern.BytealgIndexByte.indexByte) (by kernel_rfl) (by kernel_rfl) (by kernel_rfl) (by kernel_rfl) (by kernel_rfl)]
 have:=Lib.run_indexByteString (P:=Tryz.prog) s ch w
 rw [this]
 rfl
theorem isHex.c {K:Ending→World→Prop} (h:St F0 w0 w ps) (hs:s.size≤1000000000) (hk:∀ w',St F0 w0 w' ps→K (.returned (.bool (sgs s))) w'):Calls Tryz.prog 104 ⟨[.string s]⟩ w K:=by
 refine qsb (qic.ok _ _ _ ?_)
 unfold qic qic.j1 qic.j3
 refine qud (fun (i:Nat) (i':Int) w'=>i'=(i:Int)∧i≤s.size∧(∀ j,j < i→isSg (qqd s j)=true)∧St F0 w0 w' ps) (fun i=>s.size - i) 0 ⟨rfl,Nat.zero_le _,fun j hj=>by omega,h⟩ ?_
 clear h
 rintro i _ wL I μ ⟨rfl,hi,hall,h⟩ hin
 unfold qic.b1
 refine qsc (fun g=>?_) (fun g=>?_)
 · have hix:i < s.size:=by omega
   refine ⟨⟨by omega,by omega⟩,qjc ?_⟩
   rw [Int.toNat_natCast]
   refine IndexByte.c ⟨_,rfl,?_⟩
   refine qsc (fun g2=>?_) (fun g2=>?_)
   · have e:sgs s=false:=by
      unfold sgs
      rw [List.all_eq_false]
      refine ⟨i,List.mem_range.2 hix,?_⟩
      unfold isSg
      have g2:ixBy hxD (qqd s i) < 0:=g2
      simp only [decide_eq_true_eq]
      omega
     have:=hk _ h
     rw [e] at this
     exact this
   · refine qx (e':=((i+1:Nat):Int)) (by rw [qh (by omega) (by omega)]; rfl) ?_
     refine ⟨⟨rfl,rfl⟩,hin (i+1) _ _ ⟨rfl,by omega,fun j hj=>?_,h⟩ (by omega)⟩
     by_cases e:j < i
     · exact hall j e
     · have:j=i:=by omega
       subst this
       unfold isSg
       have g2:¬ ixBy hxD (qqd s j) < 0:=g2
       exact decide_eq_true (by omega)
 · unfold qic.j2
   have e:sgs s=true:=by
    unfold sgs
    rw [List.all_eq_true]
    intro j hj
    exact hall j (by have:=List.mem_range.1 hj; omega)
   have:=hk _ h
   rw [e] at this
   exact this
def begB (s p:ByteArray):Bool:=decide (p.size≤s.size) && (ByteArray.toList (s.extract 0 p.size) == ByteArray.toList p)
def endB (s p:ByteArray):Bool:=decide (p.size≤s.size) && (ByteArray.toList (s.extract (s.size - p.size) s.size) == ByteArray.toList p)
theorem HasPrefix.c {p:ByteArray} {K:Ending→World→Prop} (hk:K (.returned (.bool (begB s p))) w):Calls Tryz.prog 58 ⟨[.string s,.string p]⟩ w K:=by
 refine qsb (qoc.ok _ _ _ _ ?_)
 unfold qoc
 unfold begB at hk
 refine qsc (fun g=>?_) (fun g=>?_)
 · have g:p.size≤s.size:=by omega
   rw [decide_eq_true g,Bool.true_and] at hk
   exact qnj (n:=p.size) rfl g (qjc hk)
 · have g:¬ p.size≤s.size:=by omega
   rw [decide_eq_false g,Bool.false_and] at hk
   exact hk
theorem HasSuffix.c {p:ByteArray} {K:Ending→World→Prop} (hs:s.size≤1000000000) (hk:K (.returned (.bool (endB s p))) w):Calls Tryz.prog 111 ⟨[.string s,.string p]⟩ w K:=by
 refine qsb (qnc.ok _ _ _ _ ?_)
 unfold qnc
 unfold endB at hk
 refine qsc (fun g=>?_) (fun g=>?_)
 · have g:p.size≤s.size:=by omega
   rw [decide_eq_true g,Bool.true_and] at hk
   refine qx (e':=((s.size - p.size:Nat):Int)) (by rw [qh (by omega) (by omega)]; omega) ?_
   exact qnj (n:=s.size - p.size) rfl (by omega) (qjc hk)
 · have g:¬ p.size≤s.size:=by omega
   rw [decide_eq_false g,Bool.false_and] at hk
   exact hk
theorem CutPrefix.c {p:ByteArray} {K:Ending→World→Prop} (hk:K (.returned (.tuple ⟨[.string (if begB s p then s.extract p.size s.size else s),.bool (begB s p)]⟩)) w):Calls Tryz.prog 85 ⟨[.string s,.string p]⟩ w K:=by
 refine qsb (qve.ok _ _ _ _ ?_)
 unfold qve
 refine qsb (qqc.ok _ _ _ _ ?_)
 unfold qqc
 refine HasPrefix.c ⟨_,rfl,?_⟩
 cases hb:begB s p with
 | false =>
   rw [hb] at hk
   exact qmd (fun _=>⟨_,_,rfl,hk⟩) (fun g=>by cases g)
 | true =>
   rw [hb] at hk
   have g:p.size≤s.size:=by
    unfold begB at hb
    rw [Bool.and_eq_true] at hb
    exact of_decide_eq_true hb.1
   exact qmd (fun g=>by cases g) (fun _=>qnj (n:=p.size) rfl g (qjc ⟨_,_,rfl,hk⟩))
theorem CutSuffix.c {p:ByteArray} {K:Ending→World→Prop} (hs:s.size≤1000000000) (hk:K (.returned (.tuple ⟨[.string (if endB s p then s.extract 0 (s.size - p.size) else s),.bool (endB s p)]⟩)) w):Calls Tryz.prog 86 ⟨[.string s,.string p]⟩ w K:=by
 refine qsb (que.ok _ _ _ _ ?_)
 unfold que
 refine qsb (qpc.ok _ _ _ _ ?_)
 unfold qpc
 refine HasSuffix.c hs ⟨_,rfl,?_⟩
 cases hb:endB s p with
 | false =>
   rw [hb] at hk
   exact qmd (fun _=>⟨_,_,rfl,hk⟩) (fun g=>by cases g)
 | true =>
   rw [hb] at hk
   have g:p.size≤s.size:=by
    unfold endB at hb
    rw [Bool.and_eq_true] at hb
    exact of_decide_eq_true hb.1
   refine qmd (fun g=>by cases g) (fun _=>?_)
   refine qx (e':=((s.size - p.size:Nat):Int)) (by rw [qh (by omega) (by omega)]; omega) ?_
   exact qnj (n:=s.size - p.size) rfl (by omega) (qjc ⟨_,_,rfl,hk⟩)
end
end Go.Proofs.YtonmgkkkiejicaaGreat
namespace Go.Proofs.YtonmgkkkiejicaaGreat
open Go Go.Proofs
set_option linter.unusedVariables false
set_option maxRecDepth 100000
def qbj (s_0:ByteArray) (Q:VWP) (w:World):Prop :=
 Calls Tryz.prog 85 ⟨[.string s_0,.string ({ data:=#[112,97,99,107,45] })]⟩ w fun e1 w2 =>
 ∃ r3:ByteArray,∃ r4:Bool,e1=.returned (.tuple ⟨[.string r3,.bool r4]⟩) ∧
 Calls Tryz.prog 86 ⟨[.string r3,.string ({ data:=#[46,105,100,120] })]⟩ w2 fun e5 w6 =>
 ∃ r7:ByteArray,∃ r8:Bool,e5=.returned (.tuple ⟨[.string r7,.bool r8]⟩) ∧
 ct_GI 87 [.string r7] w6 fun r11 r12 w10 =>
 nw w10 (zc Tryz.prog 39) 39 fun a13 w14 =>
 (r11).size=20 ∧
 stA w14 a13 r11 fun w15 =>
 br r4 (
 br r8 (
 Q (.bool (r12 == 0)) w15) (
 Q (.bool false) w15)) (
 Q (.bool false) w15)
theorem qbj.ok (s_0:ByteArray) (Q:VWP) (w:World) (h:qbj s_0 Q w):Calls Tryz.prog 49 ⟨[.string s_0]⟩ w (Ret Q) :=
 qvb [.tmp 2] qkd Tryz.func49 rfl rfl rfl rfl .lf (by kernel_rfl) h
def qfb.j2  (Q:VWP) (w:World):Prop :=
 Q (.bool false) w
def qfb.j5 (l_0 t8:Sl) (t9:Int) (t10:Int) (Q:VWP) (nx1:Sl→Sl→Int→Int→WP) (w:World):Prop :=
 lt (IntKind.i64.wrap (t10+1)) fun x1 =>
 nx1 l_0 t8 t9 x1 w
def qfb.b2 (l_0:Sl) (had_5:(Option Nat)) (t8:Sl) (t9:Int) (t10:Int) (t36:Sl) (t37 t38:Int) (Q:VWP) (nx1:Sl→Sl→Int→Int→WP) (nx2:Sl→(Option Nat)→Sl→Int→Int→Sl→Int→Int→WP) (w:World):Prop :=
 br (decide (t38 < t37)) (
 ixS t36.a t36.len t38 22 fun a2 =>
 ldA w a2 22 fun c3 =>
 nw w (zc Tryz.prog 42) 42 fun a4 w5 =>
 (c3).size=22 ∧
 stA w5 a4 c3 fun w6 =>
 ldI .i64 w6 (Addr.add a4 21) fun x7 =>
 br (decide (x7 < 0)) (
 Q (.bool true) w6) (
 ldI .i64 w6 (Addr.add a4 21) fun x8 =>
 br (decide (x8 > 2147483647)) (
 Q (.bool true) w6) (
 ldA w6 (Addr.add a4 0) 20 fun c9 =>
 ∃ r10:Bool,lkR Tryz.prog 126 (.map had_5) (.agg c9) false w6 (.bool r10) ∧
 br r10 (
 Q (.bool true) w6) (
 ldA w6 (Addr.add a4 0) 20 fun c11 =>
 ∃ w12:World,muR Tryz.prog 126 (.map had_5) (.agg c11) (.bool true) w6 w12 ∧
 lt (IntKind.i64.wrap (t38+1)) fun x13 =>
 nx2 l_0 had_5 t8 t9 t10 t36 t37 x13 w12)))) (
 qfb.j5 l_0 t8 t9 t10 Q nx1 w)
def qfb.l2 (l_0:Sl) (had_5:(Option Nat)) (t8:Sl) (t9:Int) (t10:Int) (t36:Sl) (t37 t38:Int) (Q:VWP) (nx1:Sl→Sl→Int→Int→WP) (w:World):Prop :=
 ∃ (I:Int→WP) (μ:Int→World→Nat),I t38 w∧∀ t38:Int,∀ w:World,I t38 w→qfb.b2 l_0 had_5 t8 t9 t10 t36 t37 t38 Q nx1 (fun l_0' had_5' t8' t9' t10' t36' t37' t38' w'=>(l_0'=l_0∧had_5'=had_5∧t8'=t8∧t9'=t9∧t10'=t10∧t36'=t36∧t37'=t37)∧I t38' w'∧μ t38' w' < μ t38 w) w
def qfb.j7 (l_0:Sl) (had_5:(Option Nat)) (t8:Sl) (t9:Int) (t10:Int) (t36:Sl) (t37 t38:Int) (Q:VWP) (nx1:Sl→Sl→Int→Int→WP) (w:World):Prop :=
 qfb.l2 l_0 had_5 t8 t9 t10 t36 t37 t38 Q nx1 w
def qfb.j6 (l_0:Sl) (p_4:Addr) (t8:Sl) (t9:Int) (t10:Int) (Q:VWP) (nx1:Sl→Sl→Int→Int→WP) (w:World):Prop :=
 ∃ n14:Nat,∃ w15:World,mmR Tryz.prog 126 none w n14 w15 ∧
 ldL w15 (Addr.add p_4 1) fun x16 =>
 qfb.j7 l_0 (some n14) t8 t9 t10 x16 (x16.len:Int) 0 Q nx1 w15
def qfb.j4 (l_0 t8:Sl) (t9:Int) (t10:Int) (Q:VWP) (nx1:Sl→Sl→Int→Int→WP) (w:World):Prop :=
 ixS t8.a t8.len t10 2 fun a17 =>
 ldA w a17 2 fun c18 =>
 nw w (zc Tryz.prog 46) 46 fun a19 w20 =>
 (c18).size=2 ∧
 stA w20 a19 c18 fun w21 =>
 lt (World.drew w21) fun w22 =>
 ldS w22 (Addr.add a19 0) fun x23 =>
 qxm 49 [.string x23] w22 fun r26 w25 =>
 br (!r26) (
 Q (.bool true) w25) (
 br (decide (t10 > 0)) (
 lt (IntKind.i64.wrap (t10 - 1)) fun x27 =>
 ixS l_0.a l_0.len x27 2 fun a28 =>
 ldS w25 (Addr.add a28 0) fun x29 =>
 ldS w25 (Addr.add a19 0) fun x30 =>
 br (ByteArray.toList x29 == ByteArray.toList x30) (
 Q (.bool true) w25) (
 qfb.j6 l_0 a19 t8 t9 t10 Q nx1 w25)) (
 qfb.j6 l_0 a19 t8 t9 t10 Q nx1 w25))
def qfb.b1 (l_0 t8:Sl) (t9:Int) (t10:Int) (Q:VWP) (nx1:Sl→Sl→Int→Int→WP) (w:World):Prop :=
 br (decide (t10 < t9)) (
 qfb.j4 l_0 t8 t9 t10 Q nx1 w) (
 qfb.j2 Q w)
def qfb.l1 (l_0 t8:Sl) (t9:Int) (t10:Int) (Q:VWP) (w:World):Prop :=
 ∃ (I:Int→WP) (μ:Int→World→Nat),I t10 w∧∀ t10:Int,∀ w:World,I t10 w→qfb.b1 l_0 t8 t9 t10 Q (fun l_0' t8' t9' t10' w'=>(l_0'=l_0∧t8'=t8∧t9'=t9)∧I t10' w'∧μ t10' w' < μ t10 w) w
def qfb.j3 (l_0 t8:Sl) (t9:Int) (t10:Int) (Q:VWP) (w:World):Prop :=
 qfb.l1 l_0 t8 t9 t10 Q w
def qfb.j1 (l_0:Sl) (Q:VWP) (w:World):Prop :=
 qfb.j3 l_0 l_0 (l_0.len:Int) 0 Q w
def qfb (l_0:Sl) (Q:VWP) (w:World):Prop :=
 qfb.j1 l_0 Q w
theorem qfb.ok (l_0:Sl) (Q:VWP) (w:World) (h:qfb l_0 Q w):Calls Tryz.prog 21 ⟨[sV l_0]⟩ w (Ret Q) :=
 qvb [.tmp 2] qkd Tryz.func21 rfl rfl rfl rfl (.sq [sL 0] (fun a w=>qfb.j1 a Q w) .lf (.sq [] (fun  w=>qfb.j2 Q w) (.sq [sL 0,sL 8,sI 9,sI 10] (fun a b c d w=>qfb.j3 a b c d Q w) .lf (.bk (.lo [sL 0,sL 8,sI 9] [sI 10] (fun a b c d w=>qfb.l1 a b c d Q w) (fun nx1 a b c d w=>qfb.b1 a b c d Q nx1 w) fun nx1=>(.pr 1 [sL 0,sL 8,sI 9,sI 10] (fun a b c d w=>qfb.j4 a b c d Q nx1 w) (.sq [sL 0,sL 8,sI 9,sI 10] (fun a b c d w=>qfb.j5 a b c d Q nx1 w) (.bk (.pr 1 [sL 0,sA 4,sL 8,sI 9,sI 10] (fun a b c d e w=>qfb.j6 a b c d e Q nx1 w) (.pr 1 [sL 0,(5,.M),sL 8,sI 9,sI 10,sL 36,sI 37,sI 38] (fun a b c d e f g h w=>qfb.j7 a b c d e f g h Q nx1 w) (.bk (.lo [sL 0,(5,.M),sL 8,sI 9,sI 10,sL 36,sI 37] [sI 38] (fun a b c d e f g h w=>qfb.l2 a b c d e f g h Q nx1 w) (fun nx2 a b c d e f g h w=>qfb.b2 a b c d e f g h Q nx1 nx2 w) fun nx2=>.lf))))) .lf))))) .lf)) (by kernel_rfl) h
def qbb.j4 (t8:Sl) (Q:VWP) (w:World):Prop :=
 Q (sV t8) w
def qbb.b1 (t3:OAd) (t8:Sl) (Q:VWP) (nx1:OAd→Sl→WP) (w:World):Prop :=
 nz t3 fun a1 =>
 ldL w a1 fun x2 =>
 qri 51 [sV x2] w fun r5 w4 =>
 br (decide (r5 > 0)) (
 Calls Tryz.prog 52 ⟨[.iface 127 (.pointer t3)]⟩ w4 fun e6 w7 =>
 ∃ r8:(Nat × Value),e6=.returned (.iface r8.1 r8.2) ∧
 eqT r8.1 75 (
 asG r8.2 fun x9 =>
 nw w7 (zc Tryz.prog 75) 75 fun a10 w11 =>
 (x9).size=22 ∧
 stA w11 a10 x9 fun w12 =>
 lt (World.drew w12) fun w13 =>
 br ((t8.len:Int) == 0) (
 ldA w13 a10 22 fun c14 =>
 (c14).size=22 ∧
 nw w13 ⟨(spl [.int .u8 0,.int .u8 0,.int .u8 0,.int .u8 0,.int .u8 0,.int .u8 0,.int .u8 0,.int .u8 0,.int .u8 0,.int .u8 0,.int .u8 0,.int .u8 0,.int .u8 0,.int .u8 0,.int .u8 0,.int .u8 0,.int .u8 0,.int .u8 0,.int .u8 0,.int .u8 0,.int .i64 0,.int .i64 0] 0 c14)⟩ 75 fun a15 w16 =>
 rdO w16 (some a15) (1 * 22) fun c17 =>
 apK Tryz.prog 75 w16 t8.a t8.len t8.cap 1 c17 fun s18 w19 =>
 nx1 t3 s18 w19) (
 lt (IntKind.i64.wrap ((t8.len:Int) - 1)) fun x20 =>
 ixS t8.a t8.len x20 22 fun a21 =>
 ldA w13 (Addr.add a21 0) 20 fun c22 =>
 ldA w13 (Addr.add a10 0) 20 fun c23 =>
 eqA .u8 20 c22 c23 fun x24 =>
 br (!x24) (
 ldA w13 a10 22 fun c25 =>
 (c25).size=22 ∧
 nw w13 ⟨(spl [.int .u8 0,.int .u8 0,.int .u8 0,.int .u8 0,.int .u8 0,.int .u8 0,.int .u8 0,.int .u8 0,.int .u8 0,.int .u8 0,.int .u8 0,.int .u8 0,.int .u8 0,.int .u8 0,.int .u8 0,.int .u8 0,.int .u8 0,.int .u8 0,.int .u8 0,.int .u8 0,.int .i64 0,.int .i64 0] 0 c25)⟩ 75 fun a26 w27 =>
 rdO w27 (some a26) (1 * 22) fun c28 =>
 apK Tryz.prog 75 w27 t8.a t8.len t8.cap 1 c28 fun s29 w30 =>
 nx1 t3 s29 w30) (
 nx1 t3 t8 w13)))) (
 qbb.j4 t8 Q w4)
def qbb.l1 (t3:OAd) (t8:Sl) (Q:VWP) (w:World):Prop :=
 ∃ (I:Sl→WP) (μ:Sl→World→Nat),I t8 w∧∀ t8:Sl,∀ w:World,I t8 w→qbb.b1 t3 t8 Q (fun t3' t8' w'=>(t3'=t3)∧I t8' w'∧μ t8' w' < μ t8 w) w
def qbb.j3 (t3:OAd) (t8:Sl) (Q:VWP) (w:World):Prop :=
 qbb.l1 t3 t8 Q w
def qbb.j2 (t3:OAd) (Q:VWP) (w:World):Prop :=
 qbb.j3 t3 ⟨none,0,0⟩ Q w
def qbb.j7 (t3:OAd) (t14:Sl) (t15 t16:Int) (Q:VWP) (nx2:OAd→Sl→Int→Int→WP) (w:World):Prop :=
 lt (IntKind.i64.wrap (t16+1)) fun x31 =>
 nx2 t3 t14 t15 x31 w
def qbb.b3 (t3:OAd) (t4:Int) (t14:Sl) (t15:Int) (t16:Int) (t22:Sl) (t23 t24:Int) (Q:VWP) (nx2:OAd→Sl→Int→Int→WP) (nx3:OAd→Int→Sl→Int→Int→Sl→Int→Int→WP) (w:World):Prop :=
 br (decide (t24 < t23)) (
 ixS t22.a t22.len t24 22 fun a32 =>
 ldA w a32 22 fun c33 =>
 nw w (zc Tryz.prog 42) 42 fun a34 w35 =>
 (c33).size=22 ∧
 stA w35 a34 c33 fun w36 =>
 ldA w36 (Addr.add a34 0) 20 fun c37 =>
 ldI .i64 w36 (Addr.add a34 21) fun x38 =>
 (c37).size=20 ∧
 ct_ 50 [.iface 127 (.pointer t3),.iface 75 (.agg (⟨(List.set (List.set (spl [.int .u8 0,.int .u8 0,.int .u8 0,.int .u8 0,.int .u8 0,.int .u8 0,.int .u8 0,.int .u8 0,.int .u8 0,.int .u8 0,.int .u8 0,.int .u8 0,.int .u8 0,.int .u8 0,.int .u8 0,.int .u8 0,.int .u8 0,.int .u8 0,.int .u8 0,.int .u8 0,.int .i64 0,.int .i64 0] 0 c37) 20 (.int .i64 t4)) 21 (.int .i64 x38))⟩:Array Value))] w36 fun w40 =>
 lt (IntKind.i64.wrap (t24+1)) fun x41 =>
 nx3 t3 t4 t14 t15 t16 t22 t23 x41 w40) (
 qbb.j7 t3 t14 t15 t16 Q nx2 w)
def qbb.l3 (t3:OAd) (t4:Int) (t14:Sl) (t15:Int) (t16:Int) (t22:Sl) (t23 t24:Int) (Q:VWP) (nx2:OAd→Sl→Int→Int→WP) (w:World):Prop :=
 ∃ (I:Int→WP) (μ:Int→World→Nat),I t24 w∧∀ t24:Int,∀ w:World,I t24 w→qbb.b3 t3 t4 t14 t15 t16 t22 t23 t24 Q nx2 (fun t3' t4' t14' t15' t16' t22' t23' t24' w'=>(t3'=t3∧t4'=t4∧t14'=t14∧t15'=t15∧t16'=t16∧t22'=t22∧t23'=t23)∧I t24' w'∧μ t24' w' < μ t24 w) w
def qbb.j8 (t3:OAd) (t4:Int) (t14:Sl) (t15:Int) (t16:Int) (t22:Sl) (t23 t24:Int) (Q:VWP) (nx2:OAd→Sl→Int→Int→WP) (w:World):Prop :=
 qbb.l3 t3 t4 t14 t15 t16 t22 t23 t24 Q nx2 w
def qbb.j6 (t3:OAd) (t14:Sl) (t15 t16:Int) (Q:VWP) (nx2:OAd→Sl→Int→Int→WP) (w:World):Prop :=
 ixS t14.a t14.len t16 2 fun a42 =>
 ldA w a42 2 fun c43 =>
 nw w (zc Tryz.prog 46) 46 fun a44 w45 =>
 (c43).size=2 ∧
 stA w45 a44 c43 fun w46 =>
 ldL w46 (Addr.add a44 1) fun x47 =>
 qbb.j8 t3 t16 t14 t15 t16 x47 (x47.len:Int) 0 Q nx2 w46
def qbb.b2 (t3:OAd) (t14:Sl) (t15 t16:Int) (Q:VWP) (nx2:OAd→Sl→Int→Int→WP) (w:World):Prop :=
 br (decide (t16 < t15)) (
 qbb.j6 t3 t14 t15 t16 Q nx2 w) (
 qbb.j2 t3 Q w)
def qbb.l2 (t3:OAd) (t14:Sl) (t15 t16:Int) (Q:VWP) (w:World):Prop :=
 ∃ (I:Int→WP) (μ:Int→World→Nat),I t16 w∧∀ t16:Int,∀ w:World,I t16 w→qbb.b2 t3 t14 t15 t16 Q (fun t3' t14' t15' t16' w'=>(t3'=t3∧t14'=t14∧t15'=t15)∧I t16' w'∧μ t16' w' < μ t16 w) w
def qbb.j5 (t3:OAd) (t14:Sl) (t15 t16:Int) (Q:VWP) (w:World):Prop :=
 qbb.l2 t3 t14 t15 t16 Q w
def qbb.j1 (d_0:Sl) (t3:OAd) (Q:VWP) (w:World):Prop :=
 qbb.j5 t3 d_0 (d_0.len:Int) 0 Q w
def qbb (d_0:Sl) (Q:VWP) (w:World):Prop :=
 nw w ⟨[]⟩ 75 fun a48 w49 =>
 nw w49 ⟨[.slice (some a48) 0 0]⟩ 128 fun a50 w51 =>
 qbb.j1 d_0 (some a50) Q w51
theorem qbb.ok (d_0:Sl) (Q:VWP) (w:World) (h:qbb d_0 Q w):Calls Tryz.prog 22 ⟨[sV d_0]⟩ w (Ret Q) :=
 qvb [.tmp 2] qkd Tryz.func22 rfl rfl rfl rfl (.pr 1 [sL 0,sP 3] (fun a b w=>qbb.j1 a b Q w) (.sq [sP 3] (fun a w=>qbb.j2 a Q w) (.sq [sP 3,sL 14,sI 15,sI 16] (fun a b c d w=>qbb.j5 a b c d Q w) .lf (.bk (.lo [sP 3,sL 14,sI 15] [sI 16] (fun a b c d w=>qbb.l2 a b c d Q w) (fun nx2 a b c d w=>qbb.b2 a b c d Q nx2 w) fun nx2=>(.pr 1 [sP 3,sL 14,sI 15,sI 16] (fun a b c d w=>qbb.j6 a b c d Q nx2 w) (.sq [sP 3,sL 14,sI 15,sI 16] (fun a b c d w=>qbb.j7 a b c d Q nx2 w) (.bk (.pr 1 [sP 3,sI 4,sL 14,sI 15,sI 16,sL 22,sI 23,sI 24] (fun a b c d e f g h w=>qbb.j8 a b c d e f g h Q nx2 w) (.bk (.lo [sP 3,sI 4,sL 14,sI 15,sI 16,sL 22,sI 23] [sI 24] (fun a b c d e f g h w=>qbb.l3 a b c d e f g h Q nx2 w) (fun nx3 a b c d e f g h w=>qbb.b3 a b c d e f g h Q nx2 nx3 w) fun nx3=>.lf)))) .lf))))) (.sq [sP 3,sL 8] (fun a b w=>qbb.j3 a b Q w) .lf (.sq [sL 8] (fun a w=>qbb.j4 a Q w) (.bk (.lo [sP 3] [sL 8] (fun a b w=>qbb.l1 a b Q w) (fun nx1 a b w=>qbb.b1 a b Q nx1 w) fun nx1=>.lf)) .lf)))) (by kernel_rfl) h
def ql.j11 (t6 t7 t8 t9 t17:Sl) (t18:Int) (Q:VWP) (w:World):Prop :=
 nw w ⟨[.int .u8 0,.int .u8 0,.int .u8 0,.int .u8 0]⟩ 5 fun a1 w2 =>
 rdO w2 (some a1) (4 * 1) fun c3 =>
 apK Tryz.prog 5 w2 t17.a t17.len t17.cap 4 c3 fun s4 w5 =>
 qqf 25 [sV s4,.int .i64 t18] w5 fun r8 w7 =>
 nw w7 ⟨[sV r8,sV t6,sV t7,sV t8,sV t9]⟩ 32 fun a9 w10 =>
 qqf 26 [.slice (some a9) 5 5] w10 fun r13 w12 =>
 cr_G 27 [sV r13] w12 fun r16 w15 =>
 nw w15 (zc Tryz.prog 39) 39 fun a17 w18 =>
 (r16).size=20 ∧
 stA w18 a17 r16 fun w19 =>
 lt (⟨cutP a17 20 0 1,20 - 0,20 - 0⟩:Sl) fun s20 =>
 rdO w19 s20.a (s20.len * 1) fun c21 =>
 apK Tryz.prog 5 w19 r13.a r13.len r13.cap s20.len c21 fun s22 w23 =>
 qqf 28 [sV s22] w23 fun r26 w25 =>
 Q (.tuple ⟨[sV r26,.int .i64 0]⟩) w25
def ql.b1 (t6 t7 t8 t9 t101:Sl) (t102:Int) (t17:Sl) (t18:Int) (t103:Int) (Q:VWP) (nx1:Sl→Sl→Sl→Sl→Sl→Int→Sl→Int→Int→WP) (w:World):Prop :=
 br (decide (t103 < t102)) (
 ixS t101.a t101.len t103 1 fun a27 =>
 ldL w a27 fun x28 =>
 nw w ⟨[.string ({ data:=#[80,78,65,77] }),.string ({ data:=#[79,73,68,70] }),.string ({ data:=#[79,73,68,76] }),.string ({ data:=#[79,79,70,70] })]⟩ 9 fun a29 w30 =>
 ixS (some a29) 4 t103 1 fun a31 =>
 ldS w30 a31 fun x32 =>
 (1:Nat)=1 ∧
 lt (strCells x32 (ByteArray.size x32)) fun c33 =>
 apK Tryz.prog 5 w30 t17.a t17.len t17.cap (ByteArray.size x32) c33 fun s34 w35 =>
 qqf 25 [sV s34,.int .i64 t18] w35 fun r38 w37 =>
 lt (IntKind.i64.wrap (t18+(x28.len:Int))) fun x39 =>
 lt (IntKind.i64.wrap (t103+1)) fun x40 =>
 nx1 t6 t7 t8 t9 t101 t102 r38 x39 x40 w37) (
 ql.j11 t6 t7 t8 t9 t17 t18 Q w)
def ql.l1 (t6 t7 t8 t9 t101:Sl) (t102:Int) (t17:Sl) (t18:Int) (t103:Int) (Q:VWP) (w:World):Prop :=
 ∃ (I:Sl→Int→Int→WP) (μ:Sl→Int→Int→World→Nat),I t17 t18 t103 w∧∀ t17:Sl,∀ t18:Int,∀ t103:Int,∀ w:World,I t17 t18 t103 w→ql.b1 t6 t7 t8 t9 t101 t102 t17 t18 t103 Q (fun t6' t7' t8' t9' t101' t102' t17' t18' t103' w'=>(t6'=t6∧t7'=t7∧t8'=t8∧t9'=t9∧t101'=t101∧t102'=t102)∧I t17' t18' t103' w'∧μ t17' t18' t103' w' < μ t17 t18 t103 w) w
def ql.j12 (t6 t7 t8 t9 t17:Sl) (t18:Int) (t101:Sl) (t102:Int) (t103:Int) (Q:VWP) (w:World):Prop :=
 ql.l1 t6 t7 t8 t9 t101 t102 t17 t18 t103 Q w
def ql.j10 (t6 t7 t8 t9 t17:Sl) (t18:Int) (Q:VWP) (w:World):Prop :=
 nw w ⟨[sV t6,sV t7,sV t8,sV t9]⟩ 32 fun a41 w42 =>
 ql.j12 t6 t7 t8 t9 t17 t18 ⟨(some a41),4,4⟩ ((4:Nat):Int) 0 Q w42
def ql.j9 (t4:Addr) (t6:Sl) (t7 t8 t9:Sl) (Q:VWP) (w:World):Prop :=
 nw w ⟨[.int .u8 77,.int .u8 73,.int .u8 68,.int .u8 88,.int .u8 1,.int .u8 1,.int .u8 4,.int .u8 0]⟩ 5 fun a43 w44 =>
 mkStr w44 (some a43) fun w45 =>
 ldL w45 t4 fun x46 =>
 qqf 23 [.slice (some a43) 8 8,.int .i64 (x46.len:Int)] w45 fun r49 w48 =>
 lt (IntKind.i64.wrap ((r49.len:Int)+60)) fun x50 =>
 ql.j10 t6 t7 t8 t9 r49 x50 Q w48
def ql.b2 (t4:Addr) (t6:Sl) (t8 t9:Sl) (t81:(Array Value)) (t7:Sl) (t82:Int) (Q:VWP) (nx2:Addr→Sl→Sl→Sl→(Array Value)→Sl→Int→WP) (w:World):Prop :=
 br (decide (t82 < 256)) (
 ((0:Int)≤t82∧t82 < ((256:Nat):Int)) ∧
 ptI .i64 t81 (Int.toNat t82 * 1) fun x51 =>
 qqf 23 [sV t7,.int .i64 x51] w fun r54 w53 =>
 lt (IntKind.i64.wrap (t82+1)) fun x55 =>
 nx2 t4 t6 t8 t9 t81 r54 x55 w53) (
 ql.j9 t4 t6 t7 t8 t9 Q w)
def ql.l2 (t4:Addr) (t6:Sl) (t8 t9:Sl) (t81:(Array Value)) (t7:Sl) (t82:Int) (Q:VWP) (w:World):Prop :=
 ∃ (I:Sl→Int→WP) (μ:Sl→Int→World→Nat),I t7 t82 w∧∀ t7:Sl,∀ t82:Int,∀ w:World,I t7 t82 w→ql.b2 t4 t6 t8 t9 t81 t7 t82 Q (fun t4' t6' t8' t9' t81' t7' t82' w'=>(t4'=t4∧t6'=t6∧t8'=t8∧t9'=t9∧t81'=t81)∧I t7' t82' w'∧μ t7' t82' w' < μ t7 t82 w) w
def ql.j13 (t4:Addr) (t6:Sl) (t7 t8 t9:Sl) (t81:(Array Value)) (t82:Int) (Q:VWP) (w:World):Prop :=
 ql.l2 t4 t6 t8 t9 t81 t7 t82 Q w
def ql.j8 (t4:Addr) (t6:Sl) (t7 t8 t9 t10:Sl) (Q:VWP) (w:World):Prop :=
 cr_G 24 [sV t10] w fun r58 w57 =>
 ql.j13 t4 t6 t7 t8 t9 r58 0 Q w57
def ql.b3 (t4:Addr) (t6:Sl) (t7 t57:Sl) (t58:Int) (t8 t9 t10:Sl) (t59:Int) (Q:VWP) (nx3:Addr→Sl→Sl→Sl→Int→Sl→Sl→Sl→Int→WP) (w:World):Prop :=
 br (decide (t59 < t58)) (
 ixS t57.a t57.len t59 22 fun a59 =>
 ldA w a59 22 fun c60 =>
 nw w (zc Tryz.prog 75) 75 fun a61 w62 =>
 (c60).size=22 ∧
 stA w62 a61 c60 fun w63 =>
 lt (⟨cutP (Addr.add a61 0) 20 0 1,20 - 0,20 - 0⟩:Sl) fun s64 =>
 rdO w63 s64.a (s64.len * 1) fun c65 =>
 apK Tryz.prog 5 w63 t8.a t8.len t8.cap s64.len c65 fun s66 w67 =>
 lt (World.drew w67) fun w68 =>
 ldI .i64 w68 (Addr.add a61 20) fun x69 =>
 (qqf 23 [sV t9,.int .i64 x69] w68 fun r72 w71 =>
 ldI .i64 w71 (Addr.add a61 21) fun x73 =>
 qqf 23 [sV r72,.int .i64 x73] w71 fun r76 w75 =>
 ldA w75 (Addr.add a61 0) 20 fun c77 =>
 (c77).size=20 ∧
 nw w75 ⟨(spl [.int .u8 0,.int .u8 0,.int .u8 0,.int .u8 0,.int .u8 0,.int .u8 0,.int .u8 0,.int .u8 0,.int .u8 0,.int .u8 0,.int .u8 0,.int .u8 0,.int .u8 0,.int .u8 0,.int .u8 0,.int .u8 0,.int .u8 0,.int .u8 0,.int .u8 0,.int .u8 0] 0 c77)⟩ 39 fun a78 w79 =>
 rdO w79 (some a78) (1 * 20) fun c80 =>
 apK Tryz.prog 39 w79 t10.a t10.len t10.cap 1 c80 fun s81 w82 =>
 lt (IntKind.i64.wrap (t59+1)) fun x83 =>
 nx3 t4 t6 t7 t57 t58 s66 r76 s81 x83 w82)∧(
 ldI .i64 w68 (Addr.add a61 21) fun x84 =>
 qqf 23 [sV t9,.int .i64 x69] w68 fun r87 w86 =>
 qqf 23 [sV r87,.int .i64 x84] w86 fun r90 w89 =>
 ldA w89 (Addr.add a61 0) 20 fun c91 =>
 (c91).size=20 ∧
 nw w89 ⟨(spl [.int .u8 0,.int .u8 0,.int .u8 0,.int .u8 0,.int .u8 0,.int .u8 0,.int .u8 0,.int .u8 0,.int .u8 0,.int .u8 0,.int .u8 0,.int .u8 0,.int .u8 0,.int .u8 0,.int .u8 0,.int .u8 0,.int .u8 0,.int .u8 0,.int .u8 0,.int .u8 0] 0 c91)⟩ 39 fun a92 w93 =>
 rdO w93 (some a92) (1 * 20) fun c94 =>
 apK Tryz.prog 39 w93 t10.a t10.len t10.cap 1 c94 fun s95 w96 =>
 lt (IntKind.i64.wrap (t59+1)) fun x97 =>
 nx3 t4 t6 t7 t57 t58 s66 r90 s95 x97 w96)) (
 ql.j8 t4 t6 t7 t8 t9 t10 Q w)
def ql.l3 (t4:Addr) (t6:Sl) (t7 t57:Sl) (t58:Int) (t8 t9 t10:Sl) (t59:Int) (Q:VWP) (w:World):Prop :=
 ∃ (I:Sl→Sl→Sl→Int→WP) (μ:Sl→Sl→Sl→Int→World→Nat),I t8 t9 t10 t59 w∧∀ t8:Sl,∀ t9:Sl,∀ t10:Sl,∀ t59:Int,∀ w:World,I t8 t9 t10 t59 w→ql.b3 t4 t6 t7 t57 t58 t8 t9 t10 t59 Q (fun t4' t6' t7' t57' t58' t8' t9' t10' t59' w'=>(t4'=t4∧t6'=t6∧t7'=t7∧t57'=t57∧t58'=t58)∧I t8' t9' t10' t59' w'∧μ t8' t9' t10' t59' w' < μ t8 t9 t10 t59 w) w
def ql.j14 (t4:Addr) (t6:Sl) (t7 t8 t9 t10 t57:Sl) (t58:Int) (t59:Int) (Q:VWP) (w:World):Prop :=
 ql.l3 t4 t6 t7 t57 t58 t8 t9 t10 t59 Q w
def ql.j7 (t4:Addr) (t5:Sl) (t6 t7 t8 t9 t10:Sl) (Q:VWP) (w:World):Prop :=
 ql.j14 t4 t6 t7 t8 t9 t10 t5 (t5.len:Int) 0 Q w
def ql.b4 (t4:Addr) (t5:Sl) (t7 t8 t9 t10 t6:Sl) (Q:VWP) (nx4:Addr→Sl→Sl→Sl→Sl→Sl→Sl→WP) (w:World):Prop :=
 (4:Int) ≠ 0 ∧
 lt (Int.tmod (t6.len:Int) 4) fun x98 =>
 br (x98 != 0) (
 nw w ⟨[.int .u8 0]⟩ 5 fun a99 w100 =>
 rdO w100 (some a99) (1 * 1) fun c101 =>
 apK Tryz.prog 5 w100 t6.a t6.len t6.cap 1 c101 fun s102 w103 =>
 nx4 t4 t5 t7 t8 t9 t10 s102 w103) (
 ql.j7 t4 t5 t6 t7 t8 t9 t10 Q w)
def ql.l4 (t4:Addr) (t5:Sl) (t7 t8 t9 t10 t6:Sl) (Q:VWP) (w:World):Prop :=
 ∃ (I:Sl→WP) (μ:Sl→World→Nat),I t6 w∧∀ t6:Sl,∀ w:World,I t6 w→ql.b4 t4 t5 t7 t8 t9 t10 t6 Q (fun t4' t5' t7' t8' t9' t10' t6' w'=>(t4'=t4∧t5'=t5∧t7'=t7∧t8'=t8∧t9'=t9∧t10'=t10)∧I t6' w'∧μ t6' w' < μ t6 w) w
def ql.j6 (t4:Addr) (t5:Sl) (t6 t7 t8 t9 t10:Sl) (Q:VWP) (w:World):Prop :=
 ql.l4 t4 t5 t7 t8 t9 t10 t6 Q w
def ql.b5 (t4:Addr) (t5:Sl) (t7 t8 t9 t10 t38:Sl) (t39:Int) (t6:Sl) (t40:Int) (Q:VWP) (nx5:Addr→Sl→Sl→Sl→Sl→Sl→Sl→Int→Sl→Int→WP) (w:World):Prop :=
 br (decide (t40 < t39)) (
 ixS t38.a t38.len t40 2 fun a104 =>
 ldA w a104 2 fun c105 =>
 nw w (zc Tryz.prog 46) 46 fun a106 w107 =>
 (c105).size=2 ∧
 stA w107 a106 c105 fun w108 =>
 ldS w108 (Addr.add a106 0) fun x109 =>
 ((ByteArray.size x109+ByteArray.size ({ data:=#[0] }):Nat):Int)≤IntKind.i64.max ∧
 lt (x109 ++ ({ data:=#[0] }):ByteArray) fun x110 =>
 (1:Nat)=1 ∧
 lt (strCells x110 (ByteArray.size x110)) fun c111 =>
 apK Tryz.prog 5 w108 t6.a t6.len t6.cap (ByteArray.size x110) c111 fun s112 w113 =>
 lt (IntKind.i64.wrap (t40+1)) fun x114 =>
 nx5 t4 t5 t7 t8 t9 t10 t38 t39 s112 x114 w113) (
 ql.j6 t4 t5 t6 t7 t8 t9 t10 Q w)
def ql.l5 (t4:Addr) (t5:Sl) (t7 t8 t9 t10 t38:Sl) (t39:Int) (t6:Sl) (t40:Int) (Q:VWP) (w:World):Prop :=
 ∃ (I:Sl→Int→WP) (μ:Sl→Int→World→Nat),I t6 t40 w∧∀ t6:Sl,∀ t40:Int,∀ w:World,I t6 t40 w→ql.b5 t4 t5 t7 t8 t9 t10 t38 t39 t6 t40 Q (fun t4' t5' t7' t8' t9' t10' t38' t39' t6' t40' w'=>(t4'=t4∧t5'=t5∧t7'=t7∧t8'=t8∧t9'=t9∧t10'=t10∧t38'=t38∧t39'=t39)∧I t6' t40' w'∧μ t6' t40' w' < μ t6 t40 w) w
def ql.j15 (t4:Addr) (t5:Sl) (t6 t7 t8 t9 t10 t38:Sl) (t39:Int) (t40:Int) (Q:VWP) (w:World):Prop :=
 ql.l5 t4 t5 t7 t8 t9 t10 t38 t39 t6 t40 Q w
def ql.j5 (t4:Addr) (t5:Sl) (t6 t7 t8 t9 t10:Sl) (Q:VWP) (w:World):Prop :=
 ldL w t4 fun x115 =>
 ql.j15 t4 t5 t6 t7 t8 t9 t10 x115 (x115.len:Int) 0 Q w
def ql.j4 (t4:Addr) (t5:Sl) (Q:VWP) (w:World):Prop :=
 ql.j5 t4 t5 ⟨none,0,0⟩ ⟨none,0,0⟩ ⟨none,0,0⟩ ⟨none,0,0⟩ ⟨none,0,0⟩ Q w
def ql.j3 (t4:Addr) (Q:VWP) (w:World):Prop :=
 ldL w t4 fun x116 =>
 qqf 22 [sV x116] w fun r119 w118 =>
 br (decide ((r119.len:Int) > 2048)) (
 Q (.tuple ⟨[.slice none 0 0,.int .i64 5]⟩) w118) (
 ql.j4 t4 r119 Q w118)
def ql.j2 (t4:Addr) (Q:VWP) (w:World):Prop :=
 ldL w t4 fun x120 =>
 qxm 21 [sV x120] w fun r123 w122 =>
 br r123 (
 Q (.tuple ⟨[.slice none 0 0,.int .i64 1]⟩) w122) (
 ldL w122 t4 fun x124 =>
 br (decide ((x124.len:Int) > 64)) (
 Q (.tuple ⟨[.slice none 0 0,.int .i64 5]⟩) w122) (
 ql.j3 t4 Q w122))
def ql.j1 (d_0:Sl) (Q:VWP) (w:World):Prop :=
 qqf 18 [sV d_0] w fun r127 w126 =>
 nw w126 (zc Tryz.prog 28) 28 fun a128 w129 =>
 st w129 a128 (sV r127) fun w130 =>
 ldL w130 a128 fun x131 =>
 ct_ 19 [.iface 28 (sV x131),.func (.func 20) ⟨[]⟩ ⟨[.pointer (some a128)]⟩] w130 fun w133 =>
 ql.j2 a128 Q w133
def ql (d_0:Sl) (Q:VWP) (w:World):Prop :=
 ql.j1 d_0 Q w
theorem ql.ok (d_0:Sl) (Q:VWP) (w:World) (h:ql d_0 Q w):Calls Tryz.prog 9 ⟨[sV d_0]⟩ w (Ret Q) :=
 qvb [.tmp 2,.tmp 3] qkd Tryz.func9 rfl rfl rfl rfl (.sq [sL 0] (fun a w=>ql.j1 a Q w) .lf (.pr 1 [sA 4] (fun a w=>ql.j2 a Q w) (.pr 1 [sA 4] (fun a w=>ql.j3 a Q w) (.pr 1 [sA 4,sL 5] (fun a b w=>ql.j4 a b Q w) (.pr 1 [sA 4,sL 5,sL 6,sL 7,sL 8,sL 9,sL 10] (fun a b c d e f g w=>ql.j5 a b c d e f g Q w) (.sq [sA 4,sL 5,sL 6,sL 7,sL 8,sL 9,sL 10] (fun a b c d e f g w=>ql.j6 a b c d e f g Q w) (.sq [sA 4,sL 5,sL 6,sL 7,sL 8,sL 9,sL 10,sL 38,sI 39,sI 40] (fun a b c d e f g h i j w=>ql.j15 a b c d e f g h i j Q w) .lf (.bk (.lo [sA 4,sL 5,sL 7,sL 8,sL 9,sL 10,sL 38,sI 39] [sL 6,sI 40] (fun a b c d e f g h i j w=>ql.l5 a b c d e f g h i j Q w) (fun nx5 a b c d e f g h i j w=>ql.b5 a b c d e f g h i j Q nx5 w) fun nx5=>.lf))) (.sq [sA 4,sL 5,sL 6,sL 7,sL 8,sL 9,sL 10] (fun a b c d e f g w=>ql.j7 a b c d e f g Q w) (.bk (.lo [sA 4,sL 5,sL 7,sL 8,sL 9,sL 10] [sL 6] (fun a b c d e f g w=>ql.l4 a b c d e f g Q w) (fun nx4 a b c d e f g w=>ql.b4 a b c d e f g Q nx4 w) fun nx4=>.lf)) (.sq [sA 4,sL 6,sL 7,sL 8,sL 9,sL 10] (fun a b c d e f w=>ql.j8 a b c d e f Q w) (.sq [sA 4,sL 6,sL 7,sL 8,sL 9,sL 10,sL 57,sI 58,sI 59] (fun a b c d e f g h i w=>ql.j14 a b c d e f g h i Q w) .lf (.bk (.lo [sA 4,sL 6,sL 7,sL 57,sI 58] [sL 8,sL 9,sL 10,sI 59] (fun a b c d e f g h i w=>ql.l3 a b c d e f g h i Q w) (fun nx3 a b c d e f g h i w=>ql.b3 a b c d e f g h i Q nx3 w) fun nx3=>.lf))) (.sq [sA 4,sL 6,sL 7,sL 8,sL 9] (fun a b c d e w=>ql.j9 a b c d e Q w) (.sq [sA 4,sL 6,sL 7,sL 8,sL 9,(81,.G),sI 82] (fun a b c d e f g w=>ql.j13 a b c d e f g Q w) .lf (.bk (.lo [sA 4,sL 6,sL 8,sL 9,(81,.G)] [sL 7,sI 82] (fun a b c d e f g w=>ql.l2 a b c d e f g Q w) (fun nx2 a b c d e f g w=>ql.b2 a b c d e f g Q nx2 w) fun nx2=>.lf))) (.pr 1 [sL 6,sL 7,sL 8,sL 9,sL 17,sI 18] (fun a b c d e f w=>ql.j10 a b c d e f Q w) (.sq [sL 6,sL 7,sL 8,sL 9,sL 17,sI 18] (fun a b c d e f w=>ql.j11 a b c d e f Q w) (.sq [sL 6,sL 7,sL 8,sL 9,sL 17,sI 18,sL 101,sI 102,sI 103] (fun a b c d e f g h i w=>ql.j12 a b c d e f g h i Q w) .lf (.bk (.lo [sL 6,sL 7,sL 8,sL 9,sL 101,sI 102] [sL 17,sI 18,sI 103] (fun a b c d e f g h i w=>ql.l1 a b c d e f g h i Q w) (fun nx1 a b c d e f g h i w=>ql.b1 a b c d e f g h i Q nx1 w) fun nx1=>.lf))) .lf))))))))))) (by kernel_rfl) h
def qpb.j5 (t6:Sl) (Q:VWP) (w:World):Prop :=
 Q (.tuple ⟨[sV t6,.bool true]⟩) w
def qpb.b1 (d_0:Sl) (t4:OAd) (t5 t6:Sl) (t21:Int) (Q:VWP) (nx1:Sl→OAd→Sl→Sl→Int→WP) (w:World):Prop :=
 br (decide (t21 < 4)) (
 lt (World.drew w) fun w1 =>
 qri 65 [.pointer t4] w1 fun r4 w3 =>
 br (r4 != 0) (
 Q (.tuple ⟨[.slice none 0 0,.bool false]⟩) w3) (
 ixS t5.a t5.len t21 1 fun a5 =>
 ldI .i64 w3 a5 fun x6 =>
 br (decide (x6 < 0)) (
 Q (.tuple ⟨[.slice none 0 0,.bool false]⟩) w3) (
 lt (IntKind.i64.wrap (t21+1)) fun x7 =>
 ixS t5.a t5.len x7 1 fun a8 =>
 ldI .i64 w3 a8 fun x9 =>
 ixS t5.a t5.len t21 1 fun a10 =>
 ldI .i64 w3 a10 fun x11 =>
 br (decide (x9 < x11)) (
 Q (.tuple ⟨[.slice none 0 0,.bool false]⟩) w3) (
 lt (IntKind.i64.wrap (t21+1)) fun x12 =>
 ixS t5.a t5.len x12 1 fun a13 =>
 ldI .i64 w3 a13 fun x14 =>
 br (decide (x14 > (d_0.len:Int))) (
 Q (.tuple ⟨[.slice none 0 0,.bool false]⟩) w3) (
 lt (World.drew w3) fun w15 =>
 ixS t5.a t5.len t21 1 fun a16 =>
 ldI .i64 w15 a16 fun x17 =>
 lt (IntKind.i64.wrap (t21+1)) fun x18 =>
 ixS t5.a t5.len x18 1 fun a19 =>
 ldI .i64 w15 a19 fun x20 =>
 bd x20 d_0.cap fun n21 =>
 bd x17 n21 fun n22 =>
 lt (⟨qfe d_0.a d_0.cap n22 1,n21 - n22,d_0.cap - n22⟩:Sl) fun s23 =>
 nw w15 ⟨[sV s23]⟩ 32 fun a24 w25 =>
 rdO w25 (some a24) (1 * 1) fun c26 =>
 apK Tryz.prog 32 w25 t6.a t6.len t6.cap 1 c26 fun s27 w28 =>
 lt (IntKind.i64.wrap (t21+1)) fun x29 =>
 nx1 d_0 t4 t5 s27 x29 w28))))) (
 qpb.j5 t6 Q w)
def qpb.l1 (d_0:Sl) (t4:OAd) (t5 t6:Sl) (t21:Int) (Q:VWP) (w:World):Prop :=
 ∃ (I:Sl→Int→WP) (μ:Sl→Int→World→Nat),I t6 t21 w∧∀ t6:Sl,∀ t21:Int,∀ w:World,I t6 t21 w→qpb.b1 d_0 t4 t5 t6 t21 Q (fun d_0' t4' t5' t6' t21' w'=>(d_0'=d_0∧t4'=t4∧t5'=t5)∧I t6' t21' w'∧μ t6' t21' w' < μ t6 t21 w) w
def qpb.j6 (d_0:Sl) (t4:OAd) (t5 t6:Sl) (t21:Int) (Q:VWP) (w:World):Prop :=
 qpb.l1 d_0 t4 t5 t6 t21 Q w
def qpb.j4 (d_0:Sl) (t4:OAd) (t5 t6:Sl) (Q:VWP) (w:World):Prop :=
 qpb.j6 d_0 t4 t5 t6 0 Q w
def qpb.j3 (d_0:Sl) (t4:OAd) (t5:Sl) (Q:VWP) (w:World):Prop :=
 qpb.j4 d_0 t4 t5 ⟨none,0,0⟩ Q w
def qpb.b2 (d_0:Sl) (t4:OAd) (t5:Sl) (t11:Int) (Q:VWP) (nx2:Sl→OAd→Sl→Int→WP) (w:World):Prop :=
 br (decide (t11 < 5)) (
 qqf 64 [.pointer t4,.int .i64 4] w fun r32 w31 =>
 qri 93 [.pointer t4] w31 fun r35 w34 =>
 nw w34 ⟨[.int .i64 r35]⟩ 3 fun a36 w37 =>
 rdO w37 (some a36) (1 * 1) fun c38 =>
 apK Tryz.prog 3 w37 t5.a t5.len t5.cap 1 c38 fun s39 w40 =>
 lt (IntKind.i64.wrap (t11+1)) fun x41 =>
 nx2 d_0 t4 s39 x41 w40) (
 qpb.j3 d_0 t4 t5 Q w)
def qpb.l2 (d_0:Sl) (t4:OAd) (t5:Sl) (t11:Int) (Q:VWP) (w:World):Prop :=
 ∃ (I:Sl→Int→WP) (μ:Sl→Int→World→Nat),I t5 t11 w∧∀ t5:Sl,∀ t11:Int,∀ w:World,I t5 t11 w→qpb.b2 d_0 t4 t5 t11 Q (fun d_0' t4' t5' t11' w'=>(d_0'=d_0∧t4'=t4)∧I t5' t11' w'∧μ t5' t11' w' < μ t5 t11 w) w
def qpb.j7 (d_0:Sl) (t4:OAd) (t5:Sl) (t11:Int) (Q:VWP) (w:World):Prop :=
 qpb.l2 d_0 t4 t5 t11 Q w
def qpb.j2 (d_0:Sl) (t4:OAd) (t5:Sl) (Q:VWP) (w:World):Prop :=
 qpb.j7 d_0 t4 t5 0 Q w
def qpb.j1 (d_0:Sl) (Q:VWP) (w:World):Prop :=
 bd 12 d_0.len fun n42 =>
 lt (⟨qfe d_0.a d_0.cap n42 1,d_0.len - n42,d_0.cap - n42⟩:Sl) fun s43 =>
 cr_P 60 [sV s43] w fun r46 w45 =>
 qpb.j2 d_0 r46 ⟨none,0,0⟩ Q w45
def qpb (d_0:Sl) (Q:VWP) (w:World):Prop :=
 qpb.j1 d_0 Q w
theorem qpb.ok (d_0:Sl) (Q:VWP) (w:World) (h:qpb d_0 Q w):Calls Tryz.prog 59 ⟨[sV d_0]⟩ w (Ret Q) :=
 qvb [.tmp 2,.tmp 3] qkd Tryz.func59 rfl rfl rfl rfl (.sq [sL 0] (fun a w=>qpb.j1 a Q w) .lf (.pr 1 [sL 0,sP 4,sL 5] (fun a b c w=>qpb.j2 a b c Q w) (.sq [sL 0,sP 4,sL 5] (fun a b c w=>qpb.j3 a b c Q w) (.sq [sL 0,sP 4,sL 5,sI 11] (fun a b c d w=>qpb.j7 a b c d Q w) .lf (.bk (.lo [sL 0,sP 4] [sL 5,sI 11] (fun a b c d w=>qpb.l2 a b c d Q w) (fun nx2 a b c d w=>qpb.b2 a b c d Q nx2 w) fun nx2=>.lf))) (.sq [sL 0,sP 4,sL 5,sL 6] (fun a b c d w=>qpb.j4 a b c d Q w) .lf (.sq [sL 6] (fun a w=>qpb.j5 a Q w) (.sq [sL 0,sP 4,sL 5,sL 6,sI 21] (fun a b c d e w=>qpb.j6 a b c d e Q w) .lf (.bk (.lo [sL 0,sP 4,sL 5] [sL 6,sI 21] (fun a b c d e w=>qpb.l1 a b c d e Q w) (fun nx1 a b c d e w=>qpb.b1 a b c d e Q nx1 w) fun nx1=>.lf))) .lf))))) (by kernel_rfl) h
def qm.j8 (t7:OAd) (t13:Sl) (Q:VWP) (w:World):Prop :=
 Q (.tuple ⟨[.pointer t7,sV t13,.bool true]⟩) w
def qm.j12 (t7:OAd) (t13:Sl) (t16 t17:OAd) (t18:Addr) (Q:VWP) (nx1:OAd→Sl→OAd→OAd→WP) (w:World):Prop :=
 lt (World.drew w) fun w1 =>
 ldI .i64 w1 (Addr.add t18 20) fun x2 =>
 ixS t13.a t13.len x2 2 fun a3 =>
 ldL w1 (Addr.add a3 1) fun x4 =>
 ldA w1 (Addr.add t18 0) 20 fun c5 =>
 ldI .i64 w1 (Addr.add t18 21) fun x6 =>
 (c5).size=20 ∧
 (ldI .i64 w1 (Addr.add t18 20) fun x7 =>
 ((⟨(List.set (spl [.int .u8 0,.int .u8 0,.int .u8 0,.int .u8 0,.int .u8 0,.int .u8 0,.int .u8 0,.int .u8 0,.int .u8 0,.int .u8 0,.int .u8 0,.int .u8 0,.int .u8 0,.int .u8 0,.int .u8 0,.int .u8 0,.int .u8 0,.int .u8 0,.int .u8 0,.int .u8 0,.int .u32 0,.int .i64 0] 0 c5) 21 (.int .i64 x6))⟩:Array Value)).size=22 ∧
 nw w1 ⟨(spl [.int .u8 0,.int .u8 0,.int .u8 0,.int .u8 0,.int .u8 0,.int .u8 0,.int .u8 0,.int .u8 0,.int .u8 0,.int .u8 0,.int .u8 0,.int .u8 0,.int .u8 0,.int .u8 0,.int .u8 0,.int .u8 0,.int .u8 0,.int .u8 0,.int .u8 0,.int .u8 0,.int .u32 0,.int .i64 0] 0 (⟨(List.set (spl [.int .u8 0,.int .u8 0,.int .u8 0,.int .u8 0,.int .u8 0,.int .u8 0,.int .u8 0,.int .u8 0,.int .u8 0,.int .u8 0,.int .u8 0,.int .u8 0,.int .u8 0,.int .u8 0,.int .u8 0,.int .u8 0,.int .u8 0,.int .u8 0,.int .u8 0,.int .u8 0,.int .u32 0,.int .i64 0] 0 c5) 21 (.int .i64 x6))⟩:Array Value))⟩ 42 fun a8 w9 =>
 rdO w9 (some a8) (1 * 22) fun c10 =>
 apK Tryz.prog 42 w9 x4.a x4.len x4.cap 1 c10 fun s11 w12 =>
 ixS t13.a t13.len x7 2 fun a13 =>
 st w12 (Addr.add a13 1) (sV s11) fun w14 =>
 nx1 t7 t13 t16 t17 w14)∧(
 ((⟨(List.set (spl [.int .u8 0,.int .u8 0,.int .u8 0,.int .u8 0,.int .u8 0,.int .u8 0,.int .u8 0,.int .u8 0,.int .u8 0,.int .u8 0,.int .u8 0,.int .u8 0,.int .u8 0,.int .u8 0,.int .u8 0,.int .u8 0,.int .u8 0,.int .u8 0,.int .u8 0,.int .u8 0,.int .u32 0,.int .i64 0] 0 c5) 21 (.int .i64 x6))⟩:Array Value)).size=22 ∧
 nw w1 ⟨(spl [.int .u8 0,.int .u8 0,.int .u8 0,.int .u8 0,.int .u8 0,.int .u8 0,.int .u8 0,.int .u8 0,.int .u8 0,.int .u8 0,.int .u8 0,.int .u8 0,.int .u8 0,.int .u8 0,.int .u8 0,.int .u8 0,.int .u8 0,.int .u8 0,.int .u8 0,.int .u8 0,.int .u32 0,.int .i64 0] 0 (⟨(List.set (spl [.int .u8 0,.int .u8 0,.int .u8 0,.int .u8 0,.int .u8 0,.int .u8 0,.int .u8 0,.int .u8 0,.int .u8 0,.int .u8 0,.int .u8 0,.int .u8 0,.int .u8 0,.int .u8 0,.int .u8 0,.int .u8 0,.int .u8 0,.int .u8 0,.int .u8 0,.int .u8 0,.int .u32 0,.int .i64 0] 0 c5) 21 (.int .i64 x6))⟩:Array Value))⟩ 42 fun a15 w16 =>
 (ldI .i64 w16 (Addr.add t18 20) fun x17 =>
 rdO w16 (some a15) (1 * 22) fun c18 =>
 apK Tryz.prog 42 w16 x4.a x4.len x4.cap 1 c18 fun s19 w20 =>
 ixS t13.a t13.len x17 2 fun a21 =>
 st w20 (Addr.add a21 1) (sV s19) fun w22 =>
 nx1 t7 t13 t16 t17 w22)∧(
 rdO w16 (some a15) (1 * 22) fun c23 =>
 apK Tryz.prog 42 w16 x4.a x4.len x4.cap 1 c23 fun s24 w25 =>
 ldI .i64 w25 (Addr.add t18 20) fun x26 =>
 ixS t13.a t13.len x26 2 fun a27 =>
 st w25 (Addr.add a27 1) (sV s24) fun w28 =>
 nx1 t7 t13 t16 t17 w28))
def qm.j11 (t7:OAd) (t13:Sl) (t16 t17:OAd) (t18:Addr) (Q:VWP) (nx1:OAd→Sl→OAd→OAd→WP) (w:World):Prop :=
 ldI .i64 w (Addr.add t18 20) fun x29 =>
 br (decide (x29 ≥ (t13.len:Int))) (
 Q (.tuple ⟨[.pointer none,.slice none 0 0,.bool false]⟩) w) (
 qri 65 [.pointer t17] w fun r32 w31 =>
 br (r32 != 0) (
 Q (.tuple ⟨[.pointer none,.slice none 0 0,.bool false]⟩) w31) (
 lt (World.drew w31) fun w33 =>
 nz t7 fun a34 =>
 ldL w33 (Addr.add a34 1) fun x35 =>
 ldA w33 (Addr.add t18 0) 20 fun c36 =>
 nz t7 fun a37 =>
 ((c36).size=20 ∧
 nw w33 ⟨(spl [.int .u8 0,.int .u8 0,.int .u8 0,.int .u8 0,.int .u8 0,.int .u8 0,.int .u8 0,.int .u8 0,.int .u8 0,.int .u8 0,.int .u8 0,.int .u8 0,.int .u8 0,.int .u8 0,.int .u8 0,.int .u8 0,.int .u8 0,.int .u8 0,.int .u8 0,.int .u8 0] 0 c36)⟩ 39 fun a38 w39 =>
 (rdO w39 (some a38) (1 * 20) fun c40 =>
 apK Tryz.prog 39 w39 x35.a x35.len x35.cap 1 c40 fun s41 w42 =>
 (ldL w42 (Addr.add a37 2) fun x43 =>
 ldA w42 t18 22 fun c44 =>
 (c44).size=22 ∧
 nw w42 ⟨(spl [.int .u8 0,.int .u8 0,.int .u8 0,.int .u8 0,.int .u8 0,.int .u8 0,.int .u8 0,.int .u8 0,.int .u8 0,.int .u8 0,.int .u8 0,.int .u8 0,.int .u8 0,.int .u8 0,.int .u8 0,.int .u8 0,.int .u8 0,.int .u8 0,.int .u8 0,.int .u8 0,.int .i64 0,.int .i64 0] 0 c44)⟩ 75 fun a45 w46 =>
 rdO w46 (some a45) (1 * 22) fun c47 =>
 apK Tryz.prog 75 w46 x43.a x43.len x43.cap 1 c47 fun s48 w49 =>
 nz t7 fun a50 =>
 st w49 (Addr.add a50 1) (sV s41) fun w51 =>
 nz t7 fun a52 =>
 st w51 (Addr.add a52 2) (sV s48) fun w53 =>
 qm.j12 t7 t13 t16 t17 t18 Q nx1 w53)∧(
 ldA w42 t18 22 fun c54 =>
 (ldL w42 (Addr.add a37 2) fun x55 =>
 (c54).size=22 ∧
 nw w42 ⟨(spl [.int .u8 0,.int .u8 0,.int .u8 0,.int .u8 0,.int .u8 0,.int .u8 0,.int .u8 0,.int .u8 0,.int .u8 0,.int .u8 0,.int .u8 0,.int .u8 0,.int .u8 0,.int .u8 0,.int .u8 0,.int .u8 0,.int .u8 0,.int .u8 0,.int .u8 0,.int .u8 0,.int .i64 0,.int .i64 0] 0 c54)⟩ 75 fun a56 w57 =>
 rdO w57 (some a56) (1 * 22) fun c58 =>
 apK Tryz.prog 75 w57 x55.a x55.len x55.cap 1 c58 fun s59 w60 =>
 nz t7 fun a61 =>
 st w60 (Addr.add a61 1) (sV s41) fun w62 =>
 nz t7 fun a63 =>
 st w62 (Addr.add a63 2) (sV s59) fun w64 =>
 qm.j12 t7 t13 t16 t17 t18 Q nx1 w64)∧(
 (c54).size=22 ∧
 nw w42 ⟨(spl [.int .u8 0,.int .u8 0,.int .u8 0,.int .u8 0,.int .u8 0,.int .u8 0,.int .u8 0,.int .u8 0,.int .u8 0,.int .u8 0,.int .u8 0,.int .u8 0,.int .u8 0,.int .u8 0,.int .u8 0,.int .u8 0,.int .u8 0,.int .u8 0,.int .u8 0,.int .u8 0,.int .i64 0,.int .i64 0] 0 c54)⟩ 75 fun a65 w66 =>
 ldL w66 (Addr.add a37 2) fun x67 =>
 rdO w66 (some a65) (1 * 22) fun c68 =>
 apK Tryz.prog 75 w66 x67.a x67.len x67.cap 1 c68 fun s69 w70 =>
 nz t7 fun a71 =>
 st w70 (Addr.add a71 1) (sV s41) fun w72 =>
 nz t7 fun a73 =>
 st w72 (Addr.add a73 2) (sV s69) fun w74 =>
 qm.j12 t7 t13 t16 t17 t18 Q nx1 w74)))∧(
 ldL w39 (Addr.add a37 2) fun x75 =>
 (rdO w39 (some a38) (1 * 20) fun c76 =>
 apK Tryz.prog 39 w39 x35.a x35.len x35.cap 1 c76 fun s77 w78 =>
 ldA w78 t18 22 fun c79 =>
 (c79).size=22 ∧
 nw w78 ⟨(spl [.int .u8 0,.int .u8 0,.int .u8 0,.int .u8 0,.int .u8 0,.int .u8 0,.int .u8 0,.int .u8 0,.int .u8 0,.int .u8 0,.int .u8 0,.int .u8 0,.int .u8 0,.int .u8 0,.int .u8 0,.int .u8 0,.int .u8 0,.int .u8 0,.int .u8 0,.int .u8 0,.int .i64 0,.int .i64 0] 0 c79)⟩ 75 fun a80 w81 =>
 rdO w81 (some a80) (1 * 22) fun c82 =>
 apK Tryz.prog 75 w81 x75.a x75.len x75.cap 1 c82 fun s83 w84 =>
 nz t7 fun a85 =>
 st w84 (Addr.add a85 1) (sV s77) fun w86 =>
 nz t7 fun a87 =>
 st w86 (Addr.add a87 2) (sV s83) fun w88 =>
 qm.j12 t7 t13 t16 t17 t18 Q nx1 w88)∧(
 ldA w39 t18 22 fun c89 =>
 (rdO w39 (some a38) (1 * 20) fun c90 =>
 apK Tryz.prog 39 w39 x35.a x35.len x35.cap 1 c90 fun s91 w92 =>
 (c89).size=22 ∧
 nw w92 ⟨(spl [.int .u8 0,.int .u8 0,.int .u8 0,.int .u8 0,.int .u8 0,.int .u8 0,.int .u8 0,.int .u8 0,.int .u8 0,.int .u8 0,.int .u8 0,.int .u8 0,.int .u8 0,.int .u8 0,.int .u8 0,.int .u8 0,.int .u8 0,.int .u8 0,.int .u8 0,.int .u8 0,.int .i64 0,.int .i64 0] 0 c89)⟩ 75 fun a93 w94 =>
 rdO w94 (some a93) (1 * 22) fun c95 =>
 apK Tryz.prog 75 w94 x75.a x75.len x75.cap 1 c95 fun s96 w97 =>
 nz t7 fun a98 =>
 st w97 (Addr.add a98 1) (sV s91) fun w99 =>
 nz t7 fun a100 =>
 st w99 (Addr.add a100 2) (sV s96) fun w101 =>
 qm.j12 t7 t13 t16 t17 t18 Q nx1 w101)∧(
 (c89).size=22 ∧
 nw w39 ⟨(spl [.int .u8 0,.int .u8 0,.int .u8 0,.int .u8 0,.int .u8 0,.int .u8 0,.int .u8 0,.int .u8 0,.int .u8 0,.int .u8 0,.int .u8 0,.int .u8 0,.int .u8 0,.int .u8 0,.int .u8 0,.int .u8 0,.int .u8 0,.int .u8 0,.int .u8 0,.int .u8 0,.int .i64 0,.int .i64 0] 0 c89)⟩ 75 fun a102 w103 =>
 rdO w103 (some a38) (1 * 20) fun c104 =>
 apK Tryz.prog 39 w103 x35.a x35.len x35.cap 1 c104 fun s105 w106 =>
 rdO w106 (some a102) (1 * 22) fun c107 =>
 apK Tryz.prog 75 w106 x75.a x75.len x75.cap 1 c107 fun s108 w109 =>
 nz t7 fun a110 =>
 st w109 (Addr.add a110 1) (sV s105) fun w111 =>
 nz t7 fun a112 =>
 st w111 (Addr.add a112 2) (sV s108) fun w113 =>
 qm.j12 t7 t13 t16 t17 t18 Q nx1 w113)))∧(
 ldA w39 t18 22 fun c114 =>
 (rdO w39 (some a38) (1 * 20) fun c115 =>
 apK Tryz.prog 39 w39 x35.a x35.len x35.cap 1 c115 fun s116 w117 =>
 (ldL w117 (Addr.add a37 2) fun x118 =>
 (c114).size=22 ∧
 nw w117 ⟨(spl [.int .u8 0,.int .u8 0,.int .u8 0,.int .u8 0,.int .u8 0,.int .u8 0,.int .u8 0,.int .u8 0,.int .u8 0,.int .u8 0,.int .u8 0,.int .u8 0,.int .u8 0,.int .u8 0,.int .u8 0,.int .u8 0,.int .u8 0,.int .u8 0,.int .u8 0,.int .u8 0,.int .i64 0,.int .i64 0] 0 c114)⟩ 75 fun a119 w120 =>
 rdO w120 (some a119) (1 * 22) fun c121 =>
 apK Tryz.prog 75 w120 x118.a x118.len x118.cap 1 c121 fun s122 w123 =>
 nz t7 fun a124 =>
 st w123 (Addr.add a124 1) (sV s116) fun w125 =>
 nz t7 fun a126 =>
 st w125 (Addr.add a126 2) (sV s122) fun w127 =>
 qm.j12 t7 t13 t16 t17 t18 Q nx1 w127)∧(
 (c114).size=22 ∧
 nw w117 ⟨(spl [.int .u8 0,.int .u8 0,.int .u8 0,.int .u8 0,.int .u8 0,.int .u8 0,.int .u8 0,.int .u8 0,.int .u8 0,.int .u8 0,.int .u8 0,.int .u8 0,.int .u8 0,.int .u8 0,.int .u8 0,.int .u8 0,.int .u8 0,.int .u8 0,.int .u8 0,.int .u8 0,.int .i64 0,.int .i64 0] 0 c114)⟩ 75 fun a128 w129 =>
 ldL w129 (Addr.add a37 2) fun x130 =>
 rdO w129 (some a128) (1 * 22) fun c131 =>
 apK Tryz.prog 75 w129 x130.a x130.len x130.cap 1 c131 fun s132 w133 =>
 nz t7 fun a134 =>
 st w133 (Addr.add a134 1) (sV s116) fun w135 =>
 nz t7 fun a136 =>
 st w135 (Addr.add a136 2) (sV s132) fun w137 =>
 qm.j12 t7 t13 t16 t17 t18 Q nx1 w137))∧(
 ldL w39 (Addr.add a37 2) fun x138 =>
 (rdO w39 (some a38) (1 * 20) fun c139 =>
 apK Tryz.prog 39 w39 x35.a x35.len x35.cap 1 c139 fun s140 w141 =>
 (c114).size=22 ∧
 nw w141 ⟨(spl [.int .u8 0,.int .u8 0,.int .u8 0,.int .u8 0,.int .u8 0,.int .u8 0,.int .u8 0,.int .u8 0,.int .u8 0,.int .u8 0,.int .u8 0,.int .u8 0,.int .u8 0,.int .u8 0,.int .u8 0,.int .u8 0,.int .u8 0,.int .u8 0,.int .u8 0,.int .u8 0,.int .i64 0,.int .i64 0] 0 c114)⟩ 75 fun a142 w143 =>
 rdO w143 (some a142) (1 * 22) fun c144 =>
 apK Tryz.prog 75 w143 x138.a x138.len x138.cap 1 c144 fun s145 w146 =>
 nz t7 fun a147 =>
 st w146 (Addr.add a147 1) (sV s140) fun w148 =>
 nz t7 fun a149 =>
 st w148 (Addr.add a149 2) (sV s145) fun w150 =>
 qm.j12 t7 t13 t16 t17 t18 Q nx1 w150)∧(
 (c114).size=22 ∧
 nw w39 ⟨(spl [.int .u8 0,.int .u8 0,.int .u8 0,.int .u8 0,.int .u8 0,.int .u8 0,.int .u8 0,.int .u8 0,.int .u8 0,.int .u8 0,.int .u8 0,.int .u8 0,.int .u8 0,.int .u8 0,.int .u8 0,.int .u8 0,.int .u8 0,.int .u8 0,.int .u8 0,.int .u8 0,.int .i64 0,.int .i64 0] 0 c114)⟩ 75 fun a151 w152 =>
 rdO w152 (some a38) (1 * 20) fun c153 =>
 apK Tryz.prog 39 w152 x35.a x35.len x35.cap 1 c153 fun s154 w155 =>
 rdO w155 (some a151) (1 * 22) fun c156 =>
 apK Tryz.prog 75 w155 x138.a x138.len x138.cap 1 c156 fun s157 w158 =>
 nz t7 fun a159 =>
 st w158 (Addr.add a159 1) (sV s154) fun w160 =>
 nz t7 fun a161 =>
 st w160 (Addr.add a161 2) (sV s157) fun w162 =>
 qm.j12 t7 t13 t16 t17 t18 Q nx1 w162))∧(
 (c114).size=22 ∧
 nw w39 ⟨(spl [.int .u8 0,.int .u8 0,.int .u8 0,.int .u8 0,.int .u8 0,.int .u8 0,.int .u8 0,.int .u8 0,.int .u8 0,.int .u8 0,.int .u8 0,.int .u8 0,.int .u8 0,.int .u8 0,.int .u8 0,.int .u8 0,.int .u8 0,.int .u8 0,.int .u8 0,.int .u8 0,.int .i64 0,.int .i64 0] 0 c114)⟩ 75 fun a163 w164 =>
 (rdO w164 (some a38) (1 * 20) fun c165 =>
 apK Tryz.prog 39 w164 x35.a x35.len x35.cap 1 c165 fun s166 w167 =>
 ldL w167 (Addr.add a37 2) fun x168 =>
 rdO w167 (some a163) (1 * 22) fun c169 =>
 apK Tryz.prog 75 w167 x168.a x168.len x168.cap 1 c169 fun s170 w171 =>
 nz t7 fun a172 =>
 st w171 (Addr.add a172 1) (sV s166) fun w173 =>
 nz t7 fun a174 =>
 st w173 (Addr.add a174 2) (sV s170) fun w175 =>
 qm.j12 t7 t13 t16 t17 t18 Q nx1 w175)∧(
 ldL w164 (Addr.add a37 2) fun x176 =>
 rdO w164 (some a38) (1 * 20) fun c177 =>
 apK Tryz.prog 39 w164 x35.a x35.len x35.cap 1 c177 fun s178 w179 =>
 rdO w179 (some a163) (1 * 22) fun c180 =>
 apK Tryz.prog 75 w179 x176.a x176.len x176.cap 1 c180 fun s181 w182 =>
 nz t7 fun a183 =>
 st w182 (Addr.add a183 1) (sV s178) fun w184 =>
 nz t7 fun a185 =>
 st w184 (Addr.add a185 2) (sV s181) fun w186 =>
 qm.j12 t7 t13 t16 t17 t18 Q nx1 w186))))∧(
 ldL w33 (Addr.add a37 2) fun x187 =>
 ((c36).size=20 ∧
 nw w33 ⟨(spl [.int .u8 0,.int .u8 0,.int .u8 0,.int .u8 0,.int .u8 0,.int .u8 0,.int .u8 0,.int .u8 0,.int .u8 0,.int .u8 0,.int .u8 0,.int .u8 0,.int .u8 0,.int .u8 0,.int .u8 0,.int .u8 0,.int .u8 0,.int .u8 0,.int .u8 0,.int .u8 0] 0 c36)⟩ 39 fun a188 w189 =>
 (rdO w189 (some a188) (1 * 20) fun c190 =>
 apK Tryz.prog 39 w189 x35.a x35.len x35.cap 1 c190 fun s191 w192 =>
 ldA w192 t18 22 fun c193 =>
 (c193).size=22 ∧
 nw w192 ⟨(spl [.int .u8 0,.int .u8 0,.int .u8 0,.int .u8 0,.int .u8 0,.int .u8 0,.int .u8 0,.int .u8 0,.int .u8 0,.int .u8 0,.int .u8 0,.int .u8 0,.int .u8 0,.int .u8 0,.int .u8 0,.int .u8 0,.int .u8 0,.int .u8 0,.int .u8 0,.int .u8 0,.int .i64 0,.int .i64 0] 0 c193)⟩ 75 fun a194 w195 =>
 rdO w195 (some a194) (1 * 22) fun c196 =>
 apK Tryz.prog 75 w195 x187.a x187.len x187.cap 1 c196 fun s197 w198 =>
 nz t7 fun a199 =>
 st w198 (Addr.add a199 1) (sV s191) fun w200 =>
 nz t7 fun a201 =>
 st w200 (Addr.add a201 2) (sV s197) fun w202 =>
 qm.j12 t7 t13 t16 t17 t18 Q nx1 w202)∧(
 ldA w189 t18 22 fun c203 =>
 (rdO w189 (some a188) (1 * 20) fun c204 =>
 apK Tryz.prog 39 w189 x35.a x35.len x35.cap 1 c204 fun s205 w206 =>
 (c203).size=22 ∧
 nw w206 ⟨(spl [.int .u8 0,.int .u8 0,.int .u8 0,.int .u8 0,.int .u8 0,.int .u8 0,.int .u8 0,.int .u8 0,.int .u8 0,.int .u8 0,.int .u8 0,.int .u8 0,.int .u8 0,.int .u8 0,.int .u8 0,.int .u8 0,.int .u8 0,.int .u8 0,.int .u8 0,.int .u8 0,.int .i64 0,.int .i64 0] 0 c203)⟩ 75 fun a207 w208 =>
 rdO w208 (some a207) (1 * 22) fun c209 =>
 apK Tryz.prog 75 w208 x187.a x187.len x187.cap 1 c209 fun s210 w211 =>
 nz t7 fun a212 =>
 st w211 (Addr.add a212 1) (sV s205) fun w213 =>
 nz t7 fun a214 =>
 st w213 (Addr.add a214 2) (sV s210) fun w215 =>
 qm.j12 t7 t13 t16 t17 t18 Q nx1 w215)∧(
 (c203).size=22 ∧
 nw w189 ⟨(spl [.int .u8 0,.int .u8 0,.int .u8 0,.int .u8 0,.int .u8 0,.int .u8 0,.int .u8 0,.int .u8 0,.int .u8 0,.int .u8 0,.int .u8 0,.int .u8 0,.int .u8 0,.int .u8 0,.int .u8 0,.int .u8 0,.int .u8 0,.int .u8 0,.int .u8 0,.int .u8 0,.int .i64 0,.int .i64 0] 0 c203)⟩ 75 fun a216 w217 =>
 rdO w217 (some a188) (1 * 20) fun c218 =>
 apK Tryz.prog 39 w217 x35.a x35.len x35.cap 1 c218 fun s219 w220 =>
 rdO w220 (some a216) (1 * 22) fun c221 =>
 apK Tryz.prog 75 w220 x187.a x187.len x187.cap 1 c221 fun s222 w223 =>
 nz t7 fun a224 =>
 st w223 (Addr.add a224 1) (sV s219) fun w225 =>
 nz t7 fun a226 =>
 st w225 (Addr.add a226 2) (sV s222) fun w227 =>
 qm.j12 t7 t13 t16 t17 t18 Q nx1 w227)))∧(
 ldA w33 t18 22 fun c228 =>
 ((c36).size=20 ∧
 nw w33 ⟨(spl [.int .u8 0,.int .u8 0,.int .u8 0,.int .u8 0,.int .u8 0,.int .u8 0,.int .u8 0,.int .u8 0,.int .u8 0,.int .u8 0,.int .u8 0,.int .u8 0,.int .u8 0,.int .u8 0,.int .u8 0,.int .u8 0,.int .u8 0,.int .u8 0,.int .u8 0,.int .u8 0] 0 c36)⟩ 39 fun a229 w230 =>
 (rdO w230 (some a229) (1 * 20) fun c231 =>
 apK Tryz.prog 39 w230 x35.a x35.len x35.cap 1 c231 fun s232 w233 =>
 (c228).size=22 ∧
 nw w233 ⟨(spl [.int .u8 0,.int .u8 0,.int .u8 0,.int .u8 0,.int .u8 0,.int .u8 0,.int .u8 0,.int .u8 0,.int .u8 0,.int .u8 0,.int .u8 0,.int .u8 0,.int .u8 0,.int .u8 0,.int .u8 0,.int .u8 0,.int .u8 0,.int .u8 0,.int .u8 0,.int .u8 0,.int .i64 0,.int .i64 0] 0 c228)⟩ 75 fun a234 w235 =>
 rdO w235 (some a234) (1 * 22) fun c236 =>
 apK Tryz.prog 75 w235 x187.a x187.len x187.cap 1 c236 fun s237 w238 =>
 nz t7 fun a239 =>
 st w238 (Addr.add a239 1) (sV s232) fun w240 =>
 nz t7 fun a241 =>
 st w240 (Addr.add a241 2) (sV s237) fun w242 =>
 qm.j12 t7 t13 t16 t17 t18 Q nx1 w242)∧(
 (c228).size=22 ∧
 nw w230 ⟨(spl [.int .u8 0,.int .u8 0,.int .u8 0,.int .u8 0,.int .u8 0,.int .u8 0,.int .u8 0,.int .u8 0,.int .u8 0,.int .u8 0,.int .u8 0,.int .u8 0,.int .u8 0,.int .u8 0,.int .u8 0,.int .u8 0,.int .u8 0,.int .u8 0,.int .u8 0,.int .u8 0,.int .i64 0,.int .i64 0] 0 c228)⟩ 75 fun a243 w244 =>
 rdO w244 (some a229) (1 * 20) fun c245 =>
 apK Tryz.prog 39 w244 x35.a x35.len x35.cap 1 c245 fun s246 w247 =>
 rdO w247 (some a243) (1 * 22) fun c248 =>
 apK Tryz.prog 75 w247 x187.a x187.len x187.cap 1 c248 fun s249 w250 =>
 nz t7 fun a251 =>
 st w250 (Addr.add a251 1) (sV s246) fun w252 =>
 nz t7 fun a253 =>
 st w252 (Addr.add a253 2) (sV s249) fun w254 =>
 qm.j12 t7 t13 t16 t17 t18 Q nx1 w254))∧(
 (c228).size=22 ∧
 nw w33 ⟨(spl [.int .u8 0,.int .u8 0,.int .u8 0,.int .u8 0,.int .u8 0,.int .u8 0,.int .u8 0,.int .u8 0,.int .u8 0,.int .u8 0,.int .u8 0,.int .u8 0,.int .u8 0,.int .u8 0,.int .u8 0,.int .u8 0,.int .u8 0,.int .u8 0,.int .u8 0,.int .u8 0,.int .i64 0,.int .i64 0] 0 c228)⟩ 75 fun a255 w256 =>
 (c36).size=20 ∧
 nw w256 ⟨(spl [.int .u8 0,.int .u8 0,.int .u8 0,.int .u8 0,.int .u8 0,.int .u8 0,.int .u8 0,.int .u8 0,.int .u8 0,.int .u8 0,.int .u8 0,.int .u8 0,.int .u8 0,.int .u8 0,.int .u8 0,.int .u8 0,.int .u8 0,.int .u8 0,.int .u8 0,.int .u8 0] 0 c36)⟩ 39 fun a257 w258 =>
 rdO w258 (some a257) (1 * 20) fun c259 =>
 apK Tryz.prog 39 w258 x35.a x35.len x35.cap 1 c259 fun s260 w261 =>
 rdO w261 (some a255) (1 * 22) fun c262 =>
 apK Tryz.prog 75 w261 x187.a x187.len x187.cap 1 c262 fun s263 w264 =>
 nz t7 fun a265 =>
 st w264 (Addr.add a265 1) (sV s260) fun w266 =>
 nz t7 fun a267 =>
 st w266 (Addr.add a267 2) (sV s263) fun w268 =>
 qm.j12 t7 t13 t16 t17 t18 Q nx1 w268)))∧(
 ldA w33 t18 22 fun c269 =>
 ((c36).size=20 ∧
 nw w33 ⟨(spl [.int .u8 0,.int .u8 0,.int .u8 0,.int .u8 0,.int .u8 0,.int .u8 0,.int .u8 0,.int .u8 0,.int .u8 0,.int .u8 0,.int .u8 0,.int .u8 0,.int .u8 0,.int .u8 0,.int .u8 0,.int .u8 0,.int .u8 0,.int .u8 0,.int .u8 0,.int .u8 0] 0 c36)⟩ 39 fun a270 w271 =>
 (rdO w271 (some a270) (1 * 20) fun c272 =>
 apK Tryz.prog 39 w271 x35.a x35.len x35.cap 1 c272 fun s273 w274 =>
 (ldL w274 (Addr.add a37 2) fun x275 =>
 (c269).size=22 ∧
 nw w274 ⟨(spl [.int .u8 0,.int .u8 0,.int .u8 0,.int .u8 0,.int .u8 0,.int .u8 0,.int .u8 0,.int .u8 0,.int .u8 0,.int .u8 0,.int .u8 0,.int .u8 0,.int .u8 0,.int .u8 0,.int .u8 0,.int .u8 0,.int .u8 0,.int .u8 0,.int .u8 0,.int .u8 0,.int .i64 0,.int .i64 0] 0 c269)⟩ 75 fun a276 w277 =>
 rdO w277 (some a276) (1 * 22) fun c278 =>
 apK Tryz.prog 75 w277 x275.a x275.len x275.cap 1 c278 fun s279 w280 =>
 nz t7 fun a281 =>
 st w280 (Addr.add a281 1) (sV s273) fun w282 =>
 nz t7 fun a283 =>
 st w282 (Addr.add a283 2) (sV s279) fun w284 =>
 qm.j12 t7 t13 t16 t17 t18 Q nx1 w284)∧(
 (c269).size=22 ∧
 nw w274 ⟨(spl [.int .u8 0,.int .u8 0,.int .u8 0,.int .u8 0,.int .u8 0,.int .u8 0,.int .u8 0,.int .u8 0,.int .u8 0,.int .u8 0,.int .u8 0,.int .u8 0,.int .u8 0,.int .u8 0,.int .u8 0,.int .u8 0,.int .u8 0,.int .u8 0,.int .u8 0,.int .u8 0,.int .i64 0,.int .i64 0] 0 c269)⟩ 75 fun a285 w286 =>
 ldL w286 (Addr.add a37 2) fun x287 =>
 rdO w286 (some a285) (1 * 22) fun c288 =>
 apK Tryz.prog 75 w286 x287.a x287.len x287.cap 1 c288 fun s289 w290 =>
 nz t7 fun a291 =>
 st w290 (Addr.add a291 1) (sV s273) fun w292 =>
 nz t7 fun a293 =>
 st w292 (Addr.add a293 2) (sV s289) fun w294 =>
 qm.j12 t7 t13 t16 t17 t18 Q nx1 w294))∧(
 ldL w271 (Addr.add a37 2) fun x295 =>
 (rdO w271 (some a270) (1 * 20) fun c296 =>
 apK Tryz.prog 39 w271 x35.a x35.len x35.cap 1 c296 fun s297 w298 =>
 (c269).size=22 ∧
 nw w298 ⟨(spl [.int .u8 0,.int .u8 0,.int .u8 0,.int .u8 0,.int .u8 0,.int .u8 0,.int .u8 0,.int .u8 0,.int .u8 0,.int .u8 0,.int .u8 0,.int .u8 0,.int .u8 0,.int .u8 0,.int .u8 0,.int .u8 0,.int .u8 0,.int .u8 0,.int .u8 0,.int .u8 0,.int .i64 0,.int .i64 0] 0 c269)⟩ 75 fun a299 w300 =>
 rdO w300 (some a299) (1 * 22) fun c301 =>
 apK Tryz.prog 75 w300 x295.a x295.len x295.cap 1 c301 fun s302 w303 =>
 nz t7 fun a304 =>
 st w303 (Addr.add a304 1) (sV s297) fun w305 =>
 nz t7 fun a306 =>
 st w305 (Addr.add a306 2) (sV s302) fun w307 =>
 qm.j12 t7 t13 t16 t17 t18 Q nx1 w307)∧(
 (c269).size=22 ∧
 nw w271 ⟨(spl [.int .u8 0,.int .u8 0,.int .u8 0,.int .u8 0,.int .u8 0,.int .u8 0,.int .u8 0,.int .u8 0,.int .u8 0,.int .u8 0,.int .u8 0,.int .u8 0,.int .u8 0,.int .u8 0,.int .u8 0,.int .u8 0,.int .u8 0,.int .u8 0,.int .u8 0,.int .u8 0,.int .i64 0,.int .i64 0] 0 c269)⟩ 75 fun a308 w309 =>
 rdO w309 (some a270) (1 * 20) fun c310 =>
 apK Tryz.prog 39 w309 x35.a x35.len x35.cap 1 c310 fun s311 w312 =>
 rdO w312 (some a308) (1 * 22) fun c313 =>
 apK Tryz.prog 75 w312 x295.a x295.len x295.cap 1 c313 fun s314 w315 =>
 nz t7 fun a316 =>
 st w315 (Addr.add a316 1) (sV s311) fun w317 =>
 nz t7 fun a318 =>
 st w317 (Addr.add a318 2) (sV s314) fun w319 =>
 qm.j12 t7 t13 t16 t17 t18 Q nx1 w319))∧(
 (c269).size=22 ∧
 nw w271 ⟨(spl [.int .u8 0,.int .u8 0,.int .u8 0,.int .u8 0,.int .u8 0,.int .u8 0,.int .u8 0,.int .u8 0,.int .u8 0,.int .u8 0,.int .u8 0,.int .u8 0,.int .u8 0,.int .u8 0,.int .u8 0,.int .u8 0,.int .u8 0,.int .u8 0,.int .u8 0,.int .u8 0,.int .i64 0,.int .i64 0] 0 c269)⟩ 75 fun a320 w321 =>
 (rdO w321 (some a270) (1 * 20) fun c322 =>
 apK Tryz.prog 39 w321 x35.a x35.len x35.cap 1 c322 fun s323 w324 =>
 ldL w324 (Addr.add a37 2) fun x325 =>
 rdO w324 (some a320) (1 * 22) fun c326 =>
 apK Tryz.prog 75 w324 x325.a x325.len x325.cap 1 c326 fun s327 w328 =>
 nz t7 fun a329 =>
 st w328 (Addr.add a329 1) (sV s323) fun w330 =>
 nz t7 fun a331 =>
 st w330 (Addr.add a331 2) (sV s327) fun w332 =>
 qm.j12 t7 t13 t16 t17 t18 Q nx1 w332)∧(
 ldL w321 (Addr.add a37 2) fun x333 =>
 rdO w321 (some a270) (1 * 20) fun c334 =>
 apK Tryz.prog 39 w321 x35.a x35.len x35.cap 1 c334 fun s335 w336 =>
 rdO w336 (some a320) (1 * 22) fun c337 =>
 apK Tryz.prog 75 w336 x333.a x333.len x333.cap 1 c337 fun s338 w339 =>
 nz t7 fun a340 =>
 st w339 (Addr.add a340 1) (sV s335) fun w341 =>
 nz t7 fun a342 =>
 st w341 (Addr.add a342 2) (sV s338) fun w343 =>
 qm.j12 t7 t13 t16 t17 t18 Q nx1 w343)))∧(
 ldL w33 (Addr.add a37 2) fun x344 =>
 ((c36).size=20 ∧
 nw w33 ⟨(spl [.int .u8 0,.int .u8 0,.int .u8 0,.int .u8 0,.int .u8 0,.int .u8 0,.int .u8 0,.int .u8 0,.int .u8 0,.int .u8 0,.int .u8 0,.int .u8 0,.int .u8 0,.int .u8 0,.int .u8 0,.int .u8 0,.int .u8 0,.int .u8 0,.int .u8 0,.int .u8 0] 0 c36)⟩ 39 fun a345 w346 =>
 (rdO w346 (some a345) (1 * 20) fun c347 =>
 apK Tryz.prog 39 w346 x35.a x35.len x35.cap 1 c347 fun s348 w349 =>
 (c269).size=22 ∧
 nw w349 ⟨(spl [.int .u8 0,.int .u8 0,.int .u8 0,.int .u8 0,.int .u8 0,.int .u8 0,.int .u8 0,.int .u8 0,.int .u8 0,.int .u8 0,.int .u8 0,.int .u8 0,.int .u8 0,.int .u8 0,.int .u8 0,.int .u8 0,.int .u8 0,.int .u8 0,.int .u8 0,.int .u8 0,.int .i64 0,.int .i64 0] 0 c269)⟩ 75 fun a350 w351 =>
 rdO w351 (some a350) (1 * 22) fun c352 =>
 apK Tryz.prog 75 w351 x344.a x344.len x344.cap 1 c352 fun s353 w354 =>
 nz t7 fun a355 =>
 st w354 (Addr.add a355 1) (sV s348) fun w356 =>
 nz t7 fun a357 =>
 st w356 (Addr.add a357 2) (sV s353) fun w358 =>
 qm.j12 t7 t13 t16 t17 t18 Q nx1 w358)∧(
 (c269).size=22 ∧
 nw w346 ⟨(spl [.int .u8 0,.int .u8 0,.int .u8 0,.int .u8 0,.int .u8 0,.int .u8 0,.int .u8 0,.int .u8 0,.int .u8 0,.int .u8 0,.int .u8 0,.int .u8 0,.int .u8 0,.int .u8 0,.int .u8 0,.int .u8 0,.int .u8 0,.int .u8 0,.int .u8 0,.int .u8 0,.int .i64 0,.int .i64 0] 0 c269)⟩ 75 fun a359 w360 =>
 rdO w360 (some a345) (1 * 20) fun c361 =>
 apK Tryz.prog 39 w360 x35.a x35.len x35.cap 1 c361 fun s362 w363 =>
 rdO w363 (some a359) (1 * 22) fun c364 =>
 apK Tryz.prog 75 w363 x344.a x344.len x344.cap 1 c364 fun s365 w366 =>
 nz t7 fun a367 =>
 st w366 (Addr.add a367 1) (sV s362) fun w368 =>
 nz t7 fun a369 =>
 st w368 (Addr.add a369 2) (sV s365) fun w370 =>
 qm.j12 t7 t13 t16 t17 t18 Q nx1 w370))∧(
 (c269).size=22 ∧
 nw w33 ⟨(spl [.int .u8 0,.int .u8 0,.int .u8 0,.int .u8 0,.int .u8 0,.int .u8 0,.int .u8 0,.int .u8 0,.int .u8 0,.int .u8 0,.int .u8 0,.int .u8 0,.int .u8 0,.int .u8 0,.int .u8 0,.int .u8 0,.int .u8 0,.int .u8 0,.int .u8 0,.int .u8 0,.int .i64 0,.int .i64 0] 0 c269)⟩ 75 fun a371 w372 =>
 (c36).size=20 ∧
 nw w372 ⟨(spl [.int .u8 0,.int .u8 0,.int .u8 0,.int .u8 0,.int .u8 0,.int .u8 0,.int .u8 0,.int .u8 0,.int .u8 0,.int .u8 0,.int .u8 0,.int .u8 0,.int .u8 0,.int .u8 0,.int .u8 0,.int .u8 0,.int .u8 0,.int .u8 0,.int .u8 0,.int .u8 0] 0 c36)⟩ 39 fun a373 w374 =>
 rdO w374 (some a373) (1 * 20) fun c375 =>
 apK Tryz.prog 39 w374 x35.a x35.len x35.cap 1 c375 fun s376 w377 =>
 rdO w377 (some a371) (1 * 22) fun c378 =>
 apK Tryz.prog 75 w377 x344.a x344.len x344.cap 1 c378 fun s379 w380 =>
 nz t7 fun a381 =>
 st w380 (Addr.add a381 1) (sV s376) fun w382 =>
 nz t7 fun a383 =>
 st w382 (Addr.add a383 2) (sV s379) fun w384 =>
 qm.j12 t7 t13 t16 t17 t18 Q nx1 w384))∧(
 (c269).size=22 ∧
 nw w33 ⟨(spl [.int .u8 0,.int .u8 0,.int .u8 0,.int .u8 0,.int .u8 0,.int .u8 0,.int .u8 0,.int .u8 0,.int .u8 0,.int .u8 0,.int .u8 0,.int .u8 0,.int .u8 0,.int .u8 0,.int .u8 0,.int .u8 0,.int .u8 0,.int .u8 0,.int .u8 0,.int .u8 0,.int .i64 0,.int .i64 0] 0 c269)⟩ 75 fun a385 w386 =>
 ((c36).size=20 ∧
 nw w386 ⟨(spl [.int .u8 0,.int .u8 0,.int .u8 0,.int .u8 0,.int .u8 0,.int .u8 0,.int .u8 0,.int .u8 0,.int .u8 0,.int .u8 0,.int .u8 0,.int .u8 0,.int .u8 0,.int .u8 0,.int .u8 0,.int .u8 0,.int .u8 0,.int .u8 0,.int .u8 0,.int .u8 0] 0 c36)⟩ 39 fun a387 w388 =>
 (rdO w388 (some a387) (1 * 20) fun c389 =>
 apK Tryz.prog 39 w388 x35.a x35.len x35.cap 1 c389 fun s390 w391 =>
 ldL w391 (Addr.add a37 2) fun x392 =>
 rdO w391 (some a385) (1 * 22) fun c393 =>
 apK Tryz.prog 75 w391 x392.a x392.len x392.cap 1 c393 fun s394 w395 =>
 nz t7 fun a396 =>
 st w395 (Addr.add a396 1) (sV s390) fun w397 =>
 nz t7 fun a398 =>
 st w397 (Addr.add a398 2) (sV s394) fun w399 =>
 qm.j12 t7 t13 t16 t17 t18 Q nx1 w399)∧(
 ldL w388 (Addr.add a37 2) fun x400 =>
 rdO w388 (some a387) (1 * 20) fun c401 =>
 apK Tryz.prog 39 w388 x35.a x35.len x35.cap 1 c401 fun s402 w403 =>
 rdO w403 (some a385) (1 * 22) fun c404 =>
 apK Tryz.prog 75 w403 x400.a x400.len x400.cap 1 c404 fun s405 w406 =>
 nz t7 fun a407 =>
 st w406 (Addr.add a407 1) (sV s402) fun w408 =>
 nz t7 fun a409 =>
 st w408 (Addr.add a409 2) (sV s405) fun w410 =>
 qm.j12 t7 t13 t16 t17 t18 Q nx1 w410))∧(
 ldL w386 (Addr.add a37 2) fun x411 =>
 (c36).size=20 ∧
 nw w386 ⟨(spl [.int .u8 0,.int .u8 0,.int .u8 0,.int .u8 0,.int .u8 0,.int .u8 0,.int .u8 0,.int .u8 0,.int .u8 0,.int .u8 0,.int .u8 0,.int .u8 0,.int .u8 0,.int .u8 0,.int .u8 0,.int .u8 0,.int .u8 0,.int .u8 0,.int .u8 0,.int .u8 0] 0 c36)⟩ 39 fun a412 w413 =>
 rdO w413 (some a412) (1 * 20) fun c414 =>
 apK Tryz.prog 39 w413 x35.a x35.len x35.cap 1 c414 fun s415 w416 =>
 rdO w416 (some a385) (1 * 22) fun c417 =>
 apK Tryz.prog 75 w416 x411.a x411.len x411.cap 1 c417 fun s418 w419 =>
 nz t7 fun a420 =>
 st w419 (Addr.add a420 1) (sV s415) fun w421 =>
 nz t7 fun a422 =>
 st w421 (Addr.add a422 2) (sV s418) fun w423 =>
 qm.j12 t7 t13 t16 t17 t18 Q nx1 w423)))))
def qm.j10 (t7:OAd) (t13:Sl) (t16 t17:OAd) (t18:Addr) (Q:VWP) (nx1:OAd→Sl→OAd→OAd→WP) (w:World):Prop :=
 qri 61 [.pointer t17] w fun r426 w425 =>
 st w425 (Addr.add t18 20) (.int .i64 r426) fun w427 =>
 qri 61 [.pointer t17] w427 fun r430 w429 =>
 st w429 (Addr.add t18 21) (.int .i64 r430) fun w431 =>
 qm.j11 t7 t13 t16 t17 t18 Q nx1 w431
def qm.j9 (t7:OAd) (t13:Sl) (t16 t17:OAd) (Q:VWP) (nx1:OAd→Sl→OAd→OAd→WP) (w:World):Prop :=
 qqf 64 [.pointer t16,.int .i64 20] w fun r434 w433 =>
 20≤r434.len ∧
 nz r434.a fun a435 =>
 ldA w433 a435 20 fun c436 =>
 (c436).size=20 ∧
 nw w433 (zc Tryz.prog 75) 75 fun a437 w438 =>
 ((⟨(spl [.int .u8 0,.int .u8 0,.int .u8 0,.int .u8 0,.int .u8 0,.int .u8 0,.int .u8 0,.int .u8 0,.int .u8 0,.int .u8 0,.int .u8 0,.int .u8 0,.int .u8 0,.int .u8 0,.int .u8 0,.int .u8 0,.int .u8 0,.int .u8 0,.int .u8 0,.int .u8 0,.int .i64 0,.int .i64 0] 0 c436)⟩:Array Value)).size=22 ∧
 stA w438 a437 (⟨(spl [.int .u8 0,.int .u8 0,.int .u8 0,.int .u8 0,.int .u8 0,.int .u8 0,.int .u8 0,.int .u8 0,.int .u8 0,.int .u8 0,.int .u8 0,.int .u8 0,.int .u8 0,.int .u8 0,.int .u8 0,.int .u8 0,.int .u8 0,.int .u8 0,.int .u8 0,.int .u8 0,.int .i64 0,.int .i64 0] 0 c436)⟩:Array Value) fun w439 =>
 qm.j10 t7 t13 t16 t17 a437 Q nx1 w439
def qm.b1 (t7:OAd) (t13:Sl) (t16 t17:OAd) (Q:VWP) (nx1:OAd→Sl→OAd→OAd→WP) (w:World):Prop :=
 qri 63 [.pointer t16] w fun r442 w441 =>
 br (decide (r442 ≥ 20)) (
 qm.j9 t7 t13 t16 t17 Q nx1 w441) (
 qm.j8 t7 t13 Q w441)
def qm.l1 (t7:OAd) (t13:Sl) (t16 t17:OAd) (Q:VWP) (w:World):Prop :=
 ∃ (I:WP) (μ:World→Nat),I  w∧∀ w:World,I  w→qm.b1 t7 t13 t16 t17 Q (fun t7' t13' t16' t17' w'=>(t7'=t7∧t13'=t13∧t16'=t16∧t17'=t17)∧I  w'∧μ  w' < μ  w) w
def qm.j7 (t7:OAd) (t13:Sl) (t16 t17:OAd) (Q:VWP) (w:World):Prop :=
 qm.l1 t7 t13 t16 t17 Q w
def qm.j6 (t5:Sl) (t7:OAd) (t13:Sl) (Q:VWP) (w:World):Prop :=
 lt (World.drew w) fun w443 =>
 ixS t5.a t5.len 2 1 fun a444 =>
 ldL w443 a444 fun x445 =>
 ixS t5.a t5.len 3 1 fun a446 =>
 (cr_P 60 [sV x445] w443 fun r449 w448 =>
 ldL w448 a446 fun x450 =>
 cr_P 60 [sV x450] w448 fun r453 w452 =>
 qm.j7 t7 t13 r449 r453 Q w452)∧(
 ldL w443 a446 fun x454 =>
 cr_P 60 [sV x445] w443 fun r457 w456 =>
 cr_P 60 [sV x454] w456 fun r460 w459 =>
 qm.j7 t7 t13 r457 r460 Q w459)
def qm.b2 (t5:Sl) (t7:OAd) (t13 t68:Sl) (t69:Int) (t70:Int) (Q:VWP) (nx2:Sl→OAd→Sl→Sl→Int→Int→WP) (w:World):Prop :=
 br (decide (t70 < t69)) (
 ixS t68.a t68.len t70 1 fun a461 =>
 ldS w a461 fun x462 =>
 ixS t13.a t13.len t70 2 fun a463 =>
 st w (Addr.add a463 0) (.string x462) fun w464 =>
 lt (IntKind.i64.wrap (t70+1)) fun x465 =>
 nx2 t5 t7 t13 t68 t69 x465 w464) (
 qm.j6 t5 t7 t13 Q w)
def qm.l2 (t5:Sl) (t7:OAd) (t13 t68:Sl) (t69:Int) (t70:Int) (Q:VWP) (w:World):Prop :=
 ∃ (I:Int→WP) (μ:Int→World→Nat),I t70 w∧∀ t70:Int,∀ w:World,I t70 w→qm.b2 t5 t7 t13 t68 t69 t70 Q (fun t5' t7' t13' t68' t69' t70' w'=>(t5'=t5∧t7'=t7∧t13'=t13∧t68'=t68∧t69'=t69)∧I t70' w'∧μ t70' w' < μ t70 w) w
def qm.j13 (t5:Sl) (t7:OAd) (t13 t68:Sl) (t69:Int) (t70:Int) (Q:VWP) (w:World):Prop :=
 qm.l2 t5 t7 t13 t68 t69 t70 Q w
def qm.j5 (t5:Sl) (t7:OAd) (t13:Sl) (Q:VWP) (w:World):Prop :=
 nz t7 fun a466 =>
 ldL w (Addr.add a466 0) fun x467 =>
 qm.j13 t5 t7 t13 x467 (x467.len:Int) 0 Q w
def qm.j4 (t5:Sl) (t7:OAd) (Q:VWP) (w:World):Prop :=
 nz t7 fun a468 =>
 ldL w (Addr.add a468 0) fun x469 =>
 mkK Tryz.prog 46 w (x469.len:Int) (x469.len:Int) fun s470 w471 =>
 qm.j5 t5 t7 s470 Q w471
def qm.b3 (t5:Sl) (t7:OAd) (t36:Int) (t9:ByteArray) (t37:Int) (Q:VWP) (nx3:Sl→OAd→Int→ByteArray→Int→WP) (w:World):Prop :=
 br (decide (t37 < t36)) (
 Calls Tryz.prog 62 ⟨[.string t9,.string ({ data:=#[0] })]⟩ w fun e472 w473 =>
 ∃ r474:ByteArray,∃ r475:ByteArray,∃ r476:Bool,e472=.returned (.tuple ⟨[.string r474,.string r475,.bool r476]⟩) ∧
 br (!r476) (
 Q (.tuple ⟨[.pointer none,.slice none 0 0,.bool false]⟩) w473) (
 nz t7 fun a477 =>
 ldL w473 (Addr.add a477 0) fun x478 =>
 nw w473 ⟨[.string r474]⟩ 9 fun a479 w480 =>
 rdO w480 (some a479) (1 * 1) fun c481 =>
 apK Tryz.prog 9 w480 x478.a x478.len x478.cap 1 c481 fun s482 w483 =>
 nz t7 fun a484 =>
 st w483 (Addr.add a484 0) (sV s482) fun w485 =>
 lt (IntKind.i64.wrap (t37+1)) fun x486 =>
 nx3 t5 t7 t36 r475 x486 w485)) (
 qm.j4 t5 t7 Q w)
def qm.l3 (t5:Sl) (t7:OAd) (t36:Int) (t9:ByteArray) (t37:Int) (Q:VWP) (w:World):Prop :=
 ∃ (I:ByteArray→Int→WP) (μ:ByteArray→Int→World→Nat),I t9 t37 w∧∀ t9:ByteArray,∀ t37:Int,∀ w:World,I t9 t37 w→qm.b3 t5 t7 t36 t9 t37 Q (fun t5' t7' t36' t9' t37' w'=>(t5'=t5∧t7'=t7∧t36'=t36)∧I t9' t37' w'∧μ t9' t37' w' < μ t9 t37 w) w
def qm.j14 (t5:Sl) (t7:OAd) (t9:ByteArray) (t36:Int) (t37:Int) (Q:VWP) (w:World):Prop :=
 qm.l3 t5 t7 t36 t9 t37 Q w
def qm.j3 (t5:Sl) (t7:OAd) (t8:Int) (t9:ByteArray) (Q:VWP) (w:World):Prop :=
 qm.j14 t5 t7 t9 t8 0 Q w
def qm.j2 (d_0 t5:Sl) (t7:OAd) (Q:VWP) (w:World):Prop :=
 bd 8 d_0.len fun n487 =>
 lt (⟨qfe d_0.a d_0.cap n487 1,d_0.len - n487,d_0.cap - n487⟩:Sl) fun s488 =>
 cr_P 60 [sV s488] w fun r491 w490 =>
 qri 61 [.pointer r491] w490 fun r494 w493 =>
 ixS t5.a t5.len 0 1 fun a495 =>
 ldL w493 a495 fun x496 =>
 btS w493 x496.a x496.len fun x497 =>
 qm.j3 t5 t7 r494 x497 Q w493
def qm.j1 (d_0 t5:Sl) (t6:Bool) (Q:VWP) (w:World):Prop :=
 br (!t6) (
 Q (.tuple ⟨[.pointer none,.slice none 0 0,.bool false]⟩) w) (
 nw w (⟨[.slice none 0 0,.slice none 0 0,.slice none 0 0]⟩:Array Value) 89 fun a498 w499 =>
 qm.j2 d_0 t5 (some a498) Q w499)
def qm (d_0:Sl) (Q:VWP) (w:World):Prop :=
 ct_LB 59 [sV d_0] w fun r502 r503 w501 =>
 qm.j1 d_0 r502 r503 Q w501
theorem qm.ok (d_0:Sl) (Q:VWP) (w:World) (h:qm d_0 Q w):Calls Tryz.prog 31 ⟨[sV d_0]⟩ w (Ret Q) :=
 qvb [.tmp 2,.tmp 3,.tmp 4] qkd Tryz.func31 rfl rfl rfl rfl (.pr 1 [sL 0,sL 5,sB 6] (fun a b c w=>qm.j1 a b c Q w) (.pr 1 [sL 0,sL 5,sP 7] (fun a b c w=>qm.j2 a b c Q w) (.pr 1 [sL 5,sP 7,sI 8,(9,.S)] (fun a b c d w=>qm.j3 a b c d Q w) (.sq [sL 5,sP 7] (fun a b w=>qm.j4 a b Q w) (.sq [sL 5,sP 7,(9,.S),sI 36,sI 37] (fun a b c d e w=>qm.j14 a b c d e Q w) .lf (.bk (.lo [sL 5,sP 7,sI 36] [(9,.S),sI 37] (fun a b c d e w=>qm.l3 a b c d e Q w) (fun nx3 a b c d e w=>qm.b3 a b c d e Q nx3 w) fun nx3=>.lf))) (.sq [sL 5,sP 7,sL 13] (fun a b c w=>qm.j5 a b c Q w) .lf (.sq [sL 5,sP 7,sL 13] (fun a b c w=>qm.j6 a b c Q w) (.sq [sL 5,sP 7,sL 13,sL 68,sI 69,sI 70] (fun a b c d e f w=>qm.j13 a b c d e f Q w) .lf (.bk (.lo [sL 5,sP 7,sL 13,sL 68,sI 69] [sI 70] (fun a b c d e f w=>qm.l2 a b c d e f Q w) (fun nx2 a b c d e f w=>qm.b2 a b c d e f Q nx2 w) fun nx2=>.lf))) (.sq [sP 7,sL 13,sP 16,sP 17] (fun a b c d w=>qm.j7 a b c d Q w) .lf (.sq [sP 7,sL 13] (fun a b w=>qm.j8 a b Q w) (.bk (.lo [sP 7,sL 13,sP 16,sP 17] [] (fun a b c d w=>qm.l1 a b c d Q w) (fun nx1 a b c d w=>qm.b1 a b c d Q nx1 w) fun nx1=>(.sq [sP 7,sL 13,sP 16,sP 17] (fun a b c d w=>qm.j9 a b c d Q nx1 w) .lf (.bk (.sq [sP 7,sL 13,sP 16,sP 17,sA 18] (fun a b c d e w=>qm.j10 a b c d e Q nx1 w) .lf (.pr 1 [sP 7,sL 13,sP 16,sP 17,sA 18] (fun a b c d e w=>qm.j11 a b c d e Q nx1 w) (.pr 1 [sP 7,sL 13,sP 16,sP 17,sA 18] (fun a b c d e w=>qm.j12 a b c d e Q nx1 w) .lf))))))) .lf)))))))) (by kernel_rfl) h
def qwb.j2 (d_0:Sl) (Q:VWP) (w:World):Prop :=
 Calls Tryz.prog 31 ⟨[sV d_0]⟩ w fun e1 w2 =>
 ∃ r3:OAd,∃ r4:Sl,∃ r5:Bool,e1=.returned (.tuple ⟨[.pointer r3,sV r4,.bool r5]⟩) ∧
 br (!r5) (
 Q (.tuple ⟨[.pointer none,.int .i64 2]⟩) w2) (
 qyb 9 [sV r4] w2 fun r8 r9 w7 =>
 br (r9 != 0) (
 Q (.tuple ⟨[.pointer none,.int .i64 2]⟩) w7) (
 qxm 32 [sV r8,sV d_0] w7 fun r12 w11 =>
 br (!r12) (
 Q (.tuple ⟨[.pointer none,.int .i64 2]⟩) w11) (
 Q (.tuple ⟨[.pointer r3,.int .i64 0]⟩) w11)))
def qwb.j5 (d_0:Sl) (t17:Bool) (Q:VWP) (w:World):Prop :=
 br t17 (
 Q (.tuple ⟨[.pointer none,.int .i64 2]⟩) w) (
 lt (World.drew w) fun w13 =>
 lt (IntKind.i64.wrap ((d_0.len:Int) - 20)) fun x14 =>
 bd x14 d_0.cap fun n15 =>
 lt (⟨qfe d_0.a d_0.cap 0 1,n15 - 0,d_0.cap - 0⟩:Sl) fun s16 =>
 lt (IntKind.i64.wrap ((d_0.len:Int) - 20)) fun x17 =>
 bd x17 d_0.len fun n18 =>
 lt (⟨qfe d_0.a d_0.cap n18 1,d_0.len - n18,d_0.cap - n18⟩:Sl) fun s19 =>
 20≤s19.len ∧
 nz s19.a fun a20 =>
 (cr_G 27 [sV s16] w13 fun r23 w22 =>
 ldA w22 a20 20 fun c24 =>
 eqA .u8 20 r23 c24 fun x25 =>
 br (!x25) (
 Q (.tuple ⟨[.pointer none,.int .i64 4]⟩) w22) (
 qwb.j2 d_0 Q w22))∧(
 ldA w13 a20 20 fun c26 =>
 cr_G 27 [sV s16] w13 fun r29 w28 =>
 eqA .u8 20 r29 c26 fun x30 =>
 br (!x30) (
 Q (.tuple ⟨[.pointer none,.int .i64 4]⟩) w28) (
 qwb.j2 d_0 Q w28)))
def qwb.j4 (d_0:Sl) (t13:Bool) (Q:VWP) (w:World):Prop :=
 br t13 (
 Q (.tuple ⟨[.pointer none,.int .i64 3]⟩) w) (
 br (decide ((d_0.len:Int) < 32)) (
 qwb.j5 d_0 true Q w) (
 bd 12 d_0.cap fun n31 =>
 lt (⟨qfe d_0.a d_0.cap 0 1,n31 - 0,d_0.cap - 0⟩:Sl) fun s32 =>
 btS w s32.a s32.len fun x33 =>
 qxm 30 [.string x33,.string ({ data:=#[77,73,68,88,1,1,4,0] })] w fun r36 w35 =>
 qwb.j5 d_0 (!r36) Q w35))
def qwb.j3 (d_0:Sl) (t9:Bool) (Q:VWP) (w:World):Prop :=
 br t9 (
 Q (.tuple ⟨[.pointer none,.int .i64 5]⟩) w) (
 qwb.j4 d_0 (decide ((d_0.len:Int) < 20)) Q w)
def qwb.j1 (d_0:Sl) (Q:VWP) (w:World):Prop :=
 qwb.j3 d_0 (decide ((d_0.len:Int) > 262144)) Q w
def qwb (d_0:Sl) (Q:VWP) (w:World):Prop :=
 qwb.j1 d_0 Q w
theorem qwb.ok (d_0:Sl) (Q:VWP) (w:World) (h:qwb d_0 Q w):Calls Tryz.prog 11 ⟨[sV d_0]⟩ w (Ret Q) :=
 qvb [.tmp 2,.tmp 3] qkd Tryz.func11 rfl rfl rfl rfl (.sq [sL 0] (fun a w=>qwb.j1 a Q w) .lf (.sq [sL 0] (fun a w=>qwb.j2 a Q w) (.bk (.sq [sL 0,sB 9] (fun a b w=>qwb.j3 a b Q w) .lf (.cd .lf (.sq [sL 0,sB 13] (fun a b w=>qwb.j4 a b Q w) .lf (.cd .lf (.sq [sL 0,sB 17] (fun a b w=>qwb.j5 a b Q w) .lf .lf)))))) .lf)) (by kernel_rfl) h
def qkf (x_0:OAd) (id_1:(Array Value)) (Q:VWP) (w:World):Prop :=
 nw w id_1 39 fun a1 w2 =>
 nw w2 (zc Tryz.prog 52) 52 fun a3 w4 =>
 lt (World.drew w4) fun w5 =>
 nz x_0 fun a6 =>
 ldL w5 (Addr.add a6 1) fun x7 =>
 ldA w5 a1 20 fun c8 =>
 ct_IB 33 [sV x7,.agg c8] w5 fun r11 r12 w10 =>
 br (!r12) (
 ((⟨[.string ({ data:=#[] }),.int .i64 0]⟩:Array Value)).size=2 ∧
 stA w10 a3 (⟨[.string ({ data:=#[] }),.int .i64 0]⟩:Array Value) fun w13 =>
 ldA w13 a3 2 fun c14 =>
 Q (.tuple ⟨[.agg c14,.bool false]⟩) w13) (
 lt (World.drew w10) fun w15 =>
 nz x_0 fun a16 =>
 ldL w15 (Addr.add a16 0) fun x17 =>
 nz x_0 fun a18 =>
 ldL w15 (Addr.add a18 2) fun x19 =>
 ixS x19.a x19.len r11 22 fun a20 =>
 ldI .i64 w15 (Addr.add a20 20) fun x21 =>
 ixS x17.a x17.len x21 1 fun a22 =>
 ldS w15 a22 fun x23 =>
 nz x_0 fun a24 =>
 ldL w15 (Addr.add a24 2) fun x25 =>
 ixS x25.a x25.len r11 22 fun a26 =>
 ldI .i64 w15 (Addr.add a26 21) fun x27 =>
 ((⟨[.string x23,.int .i64 x27]⟩:Array Value)).size=2 ∧
 stA w15 a3 (⟨[.string x23,.int .i64 x27]⟩:Array Value) fun w28 =>
 ldA w28 a3 2 fun c29 =>
 Q (.tuple ⟨[.agg c29,.bool true]⟩) w28)
theorem qkf.ok (x_0:OAd) (id_1:(Array Value)) (Q:VWP) (w:World) (h:qkf x_0 id_1 Q w):Calls Tryz.prog 13 ⟨[.pointer x_0,.agg id_1]⟩ w (Ret Q) :=
 qvb [.cell 4 52,.tmp 5] qkd Tryz.func13 rfl rfl rfl rfl .lf (by kernel_rfl) h
def qdf (x_0:OAd) (Q:VWP) (w:World):Prop :=
 nz x_0 fun a1 =>
 ldL w (Addr.add a1 0) fun x2 =>
 qqf 44 [sV x2] w fun r5 w4 =>
 Q (sV r5) w4
theorem qdf.ok (x_0:OAd) (Q:VWP) (w:World) (h:qdf x_0 Q w):Calls Tryz.prog 16 ⟨[.pointer x_0]⟩ w (Ret Q) :=
 qvb [.tmp 2] qkd Tryz.func16 rfl rfl rfl rfl .lf (by kernel_rfl) h
def qwf (x_0:OAd) (Q:VWP) (w:World):Prop :=
 nz x_0 fun a1 =>
 ldL w (Addr.add a1 1) fun x2 =>
 Q (.int .i64 (x2.len:Int)) w
theorem qwf.ok (x_0:OAd) (Q:VWP) (w:World) (h:qwf x_0 Q w):Calls Tryz.prog 12 ⟨[.pointer x_0]⟩ w (Ret Q) :=
 qvb [.tmp 2] qkd Tryz.func12 rfl rfl rfl rfl .lf (by kernel_rfl) h
def qxf (x_0:OAd) (Q:VWP) (w:World):Prop :=
 nz x_0 fun a1 =>
 ldL w (Addr.add a1 1) fun x2 =>
 qqf 73 [sV x2] w fun r5 w4 =>
 Q (sV r5) w4
theorem qxf.ok (x_0:OAd) (Q:VWP) (w:World) (h:qxf x_0 Q w):Calls Tryz.prog 42 ⟨[.pointer x_0]⟩ w (Ret Q) :=
 qvb [.tmp 2] qkd Tryz.func42 rfl rfl rfl rfl .lf (by kernel_rfl) h
end Go.Proofs.YtonmgkkkiejicaaGreat
namespace Go.Proofs.YtonmgkkkiejicaaGreat
open Go Go.Proofs
set_option linter.unusedVariables false
set_option linter.unusedSimpArgs false
attribute [local irreducible] apK cpK mkK br
theorem zc_idM:zc Tryz.prog 39=⟨ivs .u8 z20⟩:=by kernel_rfl
def okN (s:ByteArray):Bool:=decide (s.size=40) && sgs s
theorem qsj {zs:List Int}:∀ v ∈ (⟨ivs .u8 zs⟩:Array Value),qec v:=qvd
section
variable {F0:List Nat} {w0 w:World} {ps rest:List As} {s:ByteArray}
theorem Parse.c {K:Ending→World→Prop} (h:St F0 w0 w ps) (hs:s.size≤1000000000) (hk:∀ zs w',zs.length=20→St F0 w0 w' ps→K (.returned (.tuple ⟨[.agg ⟨ivs .u8 zs⟩,.int .i64 (if okN s then 0 else 2)]⟩)) w') :
 Calls Tryz.prog 87 ⟨[.string s]⟩ w K:=by
 refine qsb (qcc.ok _ _ _ ?_)
 unfold qcc
 rw [zc_idM]
 refine h.new fun tb w h=>?_
 have h:St F0 w0 w (qt tb (ivs .u8 z20) :: ps):=h
 unfold qcc.j1
 rw [zc_idM]
 refine h.new fun ib w h=>?_
 have h:St F0 w0 w (qt ib (ivs .u8 z20) :: qt tb (ivs .u8 z20) :: ps):=h
 have l20:(ivs .u8 z20).length=20:=rfl
 have bad:∀ w,okN s=false→St F0 w0 w (qt ib (ivs .u8 z20) :: qt tb (ivs .u8 z20) :: ps)→ldA w ⟨ib,0,none⟩ 20 fun c31=>(c31).size=20∧stA w ⟨tb,0,none⟩ c31 fun w32=>ldA w32 ⟨tb,0,none⟩ 20 fun c33=>K (.returned (.tuple ⟨[.agg c33,.int .i64 2]⟩)) w32:=by
  intro w hn h
  refine h.lA (b:=ib) l20 ⟨l20,?_⟩
  refine h.sA (b:=tb) (l':=ivs .u8 z20) l20 l20 qsj fun w h=>?_
  refine h.lA (b:=tb) l20 ?_
  have:=hk z20 w rfl h.drop.drop
  rw [hn] at this
  exact this
 refine qmd (fun g=>?_) (fun g=>?_)
 · have g:¬ (s.size:Int)=40:=by simpa using g
   exact bad _ (by unfold okN; rw [decide_eq_false (by omega)]; rfl) h
 · have g:(s.size:Int)=40:=by simpa using g
   have g:s.size=40:=by omega
   refine isHex.c h hs fun w h=>⟨_,rfl,?_⟩
   cases hx:sgs s with
   | false=>exact qmd (fun _=>bad _ (by unfold okN; rw [hx,Bool.and_false]) h) (fun g=>by cases g)
   | true =>
     refine qmd (fun g=>by cases g) (fun _=>?_)
     unfold qcc.j2 qcc.j4
     refine qud (fun (a:Nat × List Int) (i':Int) w'=>i'=(a.1:Int)∧a.1≤40∧a.2.length=20∧St F0 w0 w' (qt ib (ivs .u8 a.2) :: qt tb (ivs .u8 z20) :: ps)) (fun a=>40 - a.1) (0,z20) ⟨rfl,by simp,rfl,h⟩ ?_
     clear h
     rintro ⟨i,zs⟩ _ wL I μ ⟨rfl,hi,hz,h⟩ hin
     simp only at hi hz h hin ⊢
     have lz:(ivs .u8 zs).length=20:=by rw [qw,hz]
     unfold qcc.b1
     refine qsc (fun g1=>?_) (fun g1=>?_)
     · have hix:i < 40:=by omega
       refine h.drewK fun w h=>?_
       have ed:IntKind.i64.wrap (Int.tdiv (i:Int) 2)=((i / 2:Nat):Int):=by
        have:Int.tdiv (i:Int) 2=((i / 2:Nat):Int):=rfl
        rw [this,qh (by omega) (by omega)]
       refine ⟨by decide,qx ed ⟨by decide,qx ed ?_⟩⟩
       refine qwl (by omega) (by omega) ?_
       refine ⟨⟨by omega,by omega⟩,qjc ?_⟩
       have hq:(0+((i / 2:Nat):Int).toNat * 1) < (ivs .u8 zs).length:=by rw [lz]; omega
       have hv:(ivs .u8 zs)[0+((i / 2:Nat):Int).toNat * 1]?=some (.int .u8 (zs.getD (i / 2) 0)):=by
        have:0+((i / 2:Nat):Int).toNat * 1=i / 2:=by omega
        rw [this,qmi (by omega)]
       have fin:∀ (v:Int) (w:World),St F0 w0 w (qt ib (ivs .u8 zs) :: qt tb (ivs .u8 z20) :: ps)→ixA ⟨ib,0,none⟩ 20 ((i / 2:Nat):Int) 1 fun a16=>st w a16 (.int .u8 v) fun w17=>lt (IntKind.i64.wrap ((i:Int)+1)) fun x18=>(s=s∧(⟨tb,0,none⟩:Addr)=⟨tb,0,none⟩∧(⟨ib,0,none⟩:Addr)=⟨ib,0,none⟩∧(s.size:Int)=(s.size:Int))∧I x18 w17∧μ x18 w17 < μ (i:Int) wL:=by
        intro v w h
        refine qwl (by omega) (by omega) ?_
        refine h.st hq trivial fun w h=>?_
        refine qx (e':=((i+1:Nat):Int)) (by rw [qh (by omega) (by omega)]; rfl) ?_
        refine ⟨⟨rfl,rfl,rfl,rfl⟩,hin (i+1,zs.set (0+((i / 2:Nat):Int).toNat * 1) v) _ _ ⟨rfl,by simp only; omega,by simp only [List.length_set]; exact hz,?_⟩ (by simp only; omega)⟩
        simp only
        rw [← qxl]
        exact h
       refine ⟨h.blk.ldI hv ⟨by decide,qjc (IndexByte.c ⟨_,rfl,qjc (qjc (fin _ _ h))⟩)⟩,IndexByte.c ⟨_,rfl,qjc (h.blk.ldI hv ⟨by decide,qjc (qjc (fin _ _ h))⟩)⟩⟩
     · unfold qcc.j3
       refine h.lA (b:=ib) lz ⟨lz,?_⟩
       refine h.sA (b:=tb) (l':=ivs .u8 zs) l20 lz qsj fun w h=>?_
       refine h.lA (b:=tb) lz ?_
       have:=hk zs w hz h.drop.drop
       have e:okN s=true:=by unfold okN; rw [hx,decide_eq_true g]; rfl
       rw [e] at this
       exact this
def qvj:ByteArray:={ data:=#[112,97,99,107,45] }
def qzh:ByteArray:={ data:=#[46,105,100,120] }
def qee (s:ByteArray):ByteArray:=if begB s qvj then s.extract qvj.size s.size else s
def cutS1 (s:ByteArray):ByteArray:=if endB s qzh then s.extract 0 (s.size - qzh.size) else s
def qhi (s:ByteArray):Bool:=begB s qvj && (endB (qee s) qzh && okN (cutS1 (qee s)))
theorem ext_le (s:ByteArray) (a b:Nat):(s.extract a b).size≤s.size:=by
 rw [ByteArray.size_extract]; omega
theorem named.c {K:Ending→World→Prop} (h:St F0 w0 w ps) (hs:s.size≤1000000000) (hk:∀ w',St F0 w0 w' ps→K (.returned (.bool (qhi s))) w') :
 Calls Tryz.prog 49 ⟨[.string s]⟩ w K:=by
 have h1:(qee s).size≤s.size:=by
  unfold qee
  split
  · exact ext_le ..
  · exact Nat.le_refl _
 have h2:(cutS1 (qee s)).size≤(qee s).size:=by
  unfold cutS1
  split
  · exact ext_le ..
  · exact Nat.le_refl _
 refine qsb (qbj.ok _ _ _ ?_)
 unfold qbj
 refine CutPrefix.c (s:=s) (p:=qvj) ⟨_,_,rfl,?_⟩
 refine CutSuffix.c (s:=qee s) (p:=qzh) (by omega) ⟨_,_,rfl,?_⟩
 refine Parse.c (s:=cutS1 (qee s)) h (by omega) fun zs w hz h=>⟨_,_,rfl,?_⟩
 rw [zc_idM]
 refine h.new fun tb w h=>?_
 have h:St F0 w0 w (qt tb (ivs .u8 z20) :: ps):=h
 have lz:(ivs .u8 zs).length=20:=by rw [qw,hz]
 refine ⟨lz,?_⟩
 refine h.sA (b:=tb) (l':=ivs .u8 zs) rfl lz qsj fun w h=>?_
 have hk:=hk w h.drop
 unfold qhi at hk
 cases hb:begB s qvj with
 | false =>
   rw [hb] at hk
   exact qmd (fun g=>by cases g) (fun _=>hk)
 | true =>
   refine qmd (fun _=>?_) (fun g=>by cases g)
   cases he:endB (qee s) qzh with
   | false =>
     rw [hb,he] at hk
     exact qmd (fun g=>by cases g) (fun _=>hk)
   | true =>
     refine qmd (fun _=>?_) (fun g=>by cases g)
     rw [hb,he,Bool.true_and,Bool.true_and] at hk
     cases ho:okN (cutS1 (qee s)) with
     | true=>rw [ho] at hk; exact hk
     | false=>rw [ho] at hk; exact hk
end
end Go.Proofs.YtonmgkkkiejicaaGreat
namespace Go.Proofs.YtonmgkkkiejicaaGreat
open Go Go.ChangeShapes Go.WideShapes Go.ChangeAt Go.RowKit
set_option maxRecDepth 100000
set_option linter.unusedSimpArgs false
set_option linter.unusedVariables false
theorem strip_cut (rest : List (List Char)) : stripLifts liftWords ("cut".toList :: rest) = ([], "cut".toList :: rest) := by rfl
theorem make_of (P : Program) (rest : List (List Char)) (h : behindMainWord (wordsSigns P.initOrder.toList) = "cut".toList :: rest) : P.make = some .cut := by
 unfold Program.make
 rw [h]
 rfl
theorem lifts_of (P : Program) (rest : List (List Char)) (h : behindMainWord (wordsSigns P.initOrder.toList) = "cut".toList :: rest) : P.liftsFinal = false := by
 unfold Program.liftsFinal Program.headLifts
 rw [h,strip_cut]
 rfl
theorem enter_of (P : Program) (rest : List (List Char)) (h : behindMainWord (wordsSigns P.initOrder.toList) = "cut".toList :: rest) (h1 : P.laysLater = false) (h2 : P.bearsReflect = false) (h3 : P.doorRows = []) : P.mayEnter = true := by
 unfold Program.mayEnter
 rw [h]
 simp only [strip_cut,h1,h2]
 unfold Program.doorFits
 rw [h3]
 rfl
theorem joined_of {P:Program} {f:FuncId} {fn:Func} {s:ChangeSpec} {c:OpenClaim}
 (k1:c.wf (OpenSpec.ofChange s)=true) (k2:laidOutB P=true) (k3:mapsRowed P=true) (k4:fn.params.all (P.readableRec ·)=true) (k5:namedTie P c.named s.vars=true)
 (k6:(c.stops == [])=true) (k7:(P.stops == [])=true) (k8:(c.knobs == [])=true) (k9:(P.stopKnobs == [])=true)
 (k10:(c.inPlace == P.inPlace f)=true) (k11:(c.unfollowed == P.unfollowed f)=true) (k12:(c.recurses == P.recurses f)=true) (k13:(c.named == P.varsNamed f)=true)
 (k14:(c.maps == (fn.params.toList ++ s.plain.varTypes P).any (P.mapsRec ·))=true) (k15:(c.ifaces == (fn.params.toList ++ s.plain.varTypes P).any (P.ifacesRec ·))=true) (k16:(c.mapsOut == P.mapsAmong fn.resultTypes.toList)=true)
 (k17:(c.loops == (fn.params.toList ++ s.plain.varTypes P).any (P.loopsFrom ·))=true) (k18:(c.wideKeys == (fn.params.toList ++ s.plain.varTypes P ++ fn.resultTypes.toList).any (P.wideKeysFrom ·))=true)
 (k19:s.vars.all (P.varReadable ·)=true) (k20:fn.resultTypes.all (fun t=>P.readableRec t && decide (t < P.types.size))=true) (k21:(c.ifacesOut == fn.resultTypes.toList.any (P.ifacesRec ·))=true) (k22:(c.loopsOut == fn.resultTypes.toList.any (P.loopsFrom ·))=true)
 (k23:(c.plainKeys == P.plainKeys)=true) (k24:c.shortTexts.isNone=true) (k25:P.stopsHeard=true) (k26:P.mayEnter=true) (k27:(c.lifted == P.liftsFinal)=true) (k28:(P.make == some c.make)=true)
 (k29:(c.kinds == (if c.domain.isEmpty then [] else fn.params.toList.map fun t=>match P.underlying t with | some (.int k)=>some k | _=>none))=true) (k30:(c.pinned == c.pinnedBy)=true)
 (k31:(c.veiled == (fn.params.toList ++ s.plain.varTypes P ++ fn.resultTypes.toList).any (P.veiledRec ·))=true) (k32:c.veiledFits P fn.params.toList (fn.params.toList ++ s.plain.varTypes P ++ fn.resultTypes.toList)=true):joinedFacts P f fn s c=true:=by
 unfold joinedFacts
 rw [k1,k2,k3,k4,k5,k6,k7,k8,k9,k10,k11,k12,k13,k14,k15,k16,k17,k18,k19,k20,k21,k22,k23,k24,k25,k26,k27,k28,k30,k31,k32]
 simp only [Bool.true_and,Bool.and_true]
 exact k29
theorem head_ex {α:Type} {a:α} {l:List α} (h:l.head?=some a):∃ r,l=a :: r:=by
 cases l with
 | nil=>cases h
 | cons b r=>simp at h; subst h; exact ⟨r,rfl⟩
theorem init_eq:Tryz.prog.initOrder=String.ofList (List.map Char.ofNat [104,97,114,110,101,115,115,32,102,51,100,53,53,97,98,98,102,97,57,52,101,57,51,55,57,53,101,56,54,54,56,98,53,97,48,100,54,53,99,102,51,99,57,56,99,49,100,48,99,98,99,54,55,53,101,57,50,56,53,56,51,53,49,54,101,53,48,54,57,97,54,97,32,99,117,116,32,97,116,32,116,114,111,118,101,47,116,114,111,118,101,108,97,119,49,56,46,77,105,100,120,79,114,100,101,114,32,116,114,111,118,101,47,116,114,111,118,101,108,97,119,49,56,46,77,105,100,120,76,101,97,115,116,32,116,114,111,118,101,47,116,114,111,118,101,108,97,119,49,56,46,77,105,100,120,66,121,116,101,115]):=by kernel_rfl
theorem qmk : ∃ rest, behindMainWord (wordsSigns Tryz.prog.initOrder.toList) = "cut".toList :: rest := by
 rw [init_eq,String.toList_ofList]
 exact head_ex (by kernel_rfl)
theorem f_make:Tryz.prog.make=some .cut:=by
 obtain ⟨r,h⟩:=qmk
 exact make_of _ r h
theorem f_lifts:Tryz.prog.liftsFinal=false:=by
 obtain ⟨r,h⟩:=qmk
 exact lifts_of _ r h
theorem f_later:Tryz.prog.laysLater=false:=by kernel_rfl
theorem f_refl:Tryz.prog.bearsReflect=false:=by kernel_rfl
theorem f_doors:Tryz.prog.doorRows=[]:=by kernel_rfl
theorem f_enter:Tryz.prog.mayEnter=true:=by
 obtain ⟨r,h⟩:=qmk
 exact enter_of _ r h f_later f_refl f_doors
theorem f_laid:laidOutB Tryz.prog=true:=by kernel_rfl
theorem f_maps:mapsRowed Tryz.prog=true:=by kernel_rfl
theorem f_stops:(Tryz.prog.stops == [])=true:=by kernel_rfl
theorem f_knobs:(Tryz.prog.stopKnobs == [])=true:=by kernel_rfl
theorem f_heard:Tryz.prog.stopsHeard=true:=by kernel_rfl
theorem f_own:ownKnob Tryz.prog.godebug=none:=by kernel_rfl
end Go.Proofs.YtonmgkkkiejicaaGreat
namespace Go.Proofs.YtonmgkkkiejicaaGreat
open Go Go.Proofs Go.ChangeShapes Go.WideShapes Go.MapKept Go.Maps
set_option linter.unusedVariables false
set_option linter.unusedSimpArgs false
theorem keyed_deep {P:Program} (hl:laidOutB P=true) {m:Nat} (hm:m+1≤10000) {k:TypeId} (hrow:k < P.types.size) (hk:P.keyTypeAt m k=true) (hwide:(match P.underlying k with | some (.array _ _) | some (.struct _)=>true | _=>false)=true):Keyed P k :=
 Keyed.of_law (deep_law_laid hl hm hrow hk hwide)
def kvs (es:Array MapEntry):List (Value × Value):=es.toList.map fun e=>(e.key,e.val)
section
variable {P:Program} {w:World} {k e t:TypeId} {b:Nat} {es:Array MapEntry} {clock:Nat}
theorem map_look (K:Keyed P k) (ht:P.underlying t=some (.map k e)) (hb:w.heap[b]?=some (.map es clock)) (hks:∀ p ∈ kvs es,∃ l,keyOf P k p.1=some l) {z key:Value} (c:Bool) (hz:(zeroValue e).run P w=.ok z w) (hkey:∃ l,keyOf P k key=some l) :
 ((Instr.lookup t (.map (some b)) key c).run P w=.ok (if c then .tuple #[z,.bool false] else z) w∧∀ p ∈ kvs es,p.1 ≠ key) ∨
 ∃ (j:Nat) (p:Value × Value),(kvs es)[j]?=some p∧p.1=key∧(Instr.lookup t (.map (some b)) key c).run P w=.ok (if c then .tuple #[p.2,.bool true] else p.2) w:=by
 obtain ⟨l,hkey⟩:=hkey
 have hks':∀ x ∈ es.toList,∃ l,keyOf P k x.key=some l:=fun x hx=>hks (x.key,x.val) (List.mem_map.2 ⟨x,hx,rfl⟩)
 rcases K.find w hkey es.toList hks' with ⟨h1,h2⟩ | ⟨j,e0,h1,h2,h3⟩
 · refine Or.inl ⟨by simp [Instr.lookup,qq ht,MapKept.run_getObj_map hb,K.check w _ hkey,h1,hz,Result.andThen],fun p hp=>?_⟩
   obtain ⟨x,hx,rfl⟩:=List.mem_map.1 hp
   exact h2 x hx
 · refine Or.inr ⟨j,(e0.key,e0.val),?_,h3,by simp [Instr.lookup,qq ht,MapKept.run_getObj_map hb,K.check w _ hkey,h1,Result.andThen]⟩
   unfold kvs
   rw [List.getElem?_map,h2]
   rfl
theorem map_set (K:Keyed P k) (ht:P.underlying t=some (.map k e)) (hb:w.heap[b]?=some (.map es clock)) (hks:∀ p ∈ kvs es,∃ l,keyOf P k p.1=some l) {key val:Value} (hkey:∃ l,keyOf P k key=some l) :
 ∃ es' clock',(Instr.mapUpdate t (.map (some b)) key val).run P w=.ok () { w with heap:=w.heap.setIfInBounds b (.map es' clock') } ∧
  ((kvs es'=kvs es ++ [(key,val)]∧∀ p ∈ kvs es,p.1 ≠ key) ∨ ∃ (j:Nat) (p:Value × Value),(kvs es)[j]?=some p∧p.1=key∧kvs es'=(kvs es).set j (key,val)):=by
 obtain ⟨l,hkey⟩:=hkey
 have hks':∀ x ∈ es.toList,∃ l,keyOf P k x.key=some l:=fun x hx=>hks (x.key,x.val) (List.mem_map.2 ⟨x,hx,rfl⟩)
 rcases K.find w hkey es.toList hks' with ⟨h1,h2⟩ | ⟨j,e0,h1,h2,h3⟩
 · refine ⟨es.push ⟨key,val,clock⟩,clock+1,?_,Or.inl ⟨by simp [kvs],fun p hp=>?_⟩⟩
   · simp [Instr.mapUpdate,qq ht,MapKept.run_getObj_map hb,K.check w false hkey,h1,MapKept.run_setObj_map _ hb,Result.andThen]
   · obtain ⟨x,hx,rfl⟩:=List.mem_map.1 hp
     exact h2 x hx
 · have hj:es[j]?=some e0:=by simpa using h2
   refine ⟨es.modify j fun e=>{ e with key,val },clock,?_,Or.inr ⟨j,(e0.key,e0.val),?_,h3,?_⟩⟩
   · simp [Instr.mapUpdate,qq ht,MapKept.run_getObj_map hb,K.check w false hkey,h1,hj,h3,K.stays w hkey,MapKept.run_setObj_map _ hb,Result.andThen]
   · unfold kvs
     rw [List.getElem?_map,h2]
     rfl
   · unfold kvs
     apply List.ext_getElem?
     intro i
     simp only [List.getElem?_map,Array.getElem?_toList,Array.getElem?_modify,List.getElem?_set,List.length_map,Array.length_toList]
     by_cases hij:j=i
     · subst hij
       have hlt:j < es.size:=(Array.getElem?_eq_some_iff.1 hj).1
       simp [hj,hlt]
     · simp [hij]
theorem map_make (w:World) (ht:True):(Instr.makeMap t none).run P w=.ok (.map (some w.heap.size)) (w.alloc (.map #[] 0)):=by
 simp [Instr.makeMap,newObj,Sem.run,Result.andThen]
end
section
variable {F0:List Nat} {w0 w:World} {ps rest:List As} {P:Program} {k e t:TypeId} {b:Nat} {kv:List (Value × Value)}
end
end Go.Proofs.YtonmgkkkiejicaaGreat
namespace Go.Proofs.YtonmgkkkiejicaaGreat
open Go Go.Proofs Go.ChangeShapes Go.WideShapes Go.MapKept Go.Maps
open Go.ChangeMaps (setBlock)
set_option linter.unusedVariables false
set_option linter.unusedSimpArgs false
attribute [local irreducible] apK cpK mkK br
section
variable {α:Type}
abbrev Rws (α:Type):=List (List Int × α)
def lkE (E:Rws α) (k:List Int):Option α:=(E.find? fun e=>e.1 == k).map (·.2)
def uRow (E:Rws α) (k:List Int) (x:α):Rws α:=if (lkE E k).isSome then E.map (fun e=>if e.1 == k then (k,x) else e) else E ++ [(k,x)]
def kys (E:Rws α):List (List Int):=E.map (·.1)
theorem lk_nil (k:List Int):lkE ([]:Rws α) k=none:=rfl
theorem qli (e:List Int × α) (E:Rws α) (k:List Int):lkE (e :: E) k=if e.1=k then some e.2 else lkE E k:=by
 unfold lkE
 rw [List.find?_cons]
 by_cases h:e.1=k
 · simp [h]
 · have:(e.1 == k)=false:=by simp [h]
   simp [this,h]
theorem lk_none {E:Rws α} {k:List Int}:lkE E k=none ↔ k ∉ kys E:=by
 induction E with
 | nil=>simp [lk_nil,kys]
 | cons e E ih =>
   rw [qli]
   by_cases h:e.1=k
   · simp [h,kys]
   · rw [if_neg h,ih]
     unfold kys
     rw [List.map_cons,List.mem_cons]
     constructor
     · intro h1 h2
       rcases h2 with h2 | h2
       · exact h h2.symm
       · exact h1 h2
     · exact fun h1 h2=>h1 (Or.inr h2)
theorem lk_some {E:Rws α} {k:List Int} {x:α} (h:lkE E k=some x):(k,x) ∈ E:=by
 induction E with
 | nil=>cases h
 | cons e E ih =>
   rw [qli] at h
   by_cases g:e.1=k
   · rw [if_pos g] at h
     injection h with h
     subst h
     subst g
     exact List.mem_cons_self
   · rw [if_neg g] at h
     exact List.mem_cons_of_mem _ (ih h)
theorem lk_mem {E:Rws α} {e:List Int × α} (hn:(kys E).Nodup) (h:e ∈ E):lkE E e.1=some e.2:=by
 induction E with
 | nil=>cases h
 | cons f E ih =>
   rw [qli]
   have hn':f.1 ∉ kys E∧(kys E).Nodup:=List.nodup_cons.1 hn
   rcases List.mem_cons.1 h with rfl | h
   · rw [if_pos rfl]
   · rw [if_neg (fun g=>hn'.1 (by rw [g]; exact List.mem_map.2 ⟨e,h,rfl⟩)),ih hn'.2 h]
theorem kys_upd (E:Rws α) (k:List Int) (x:α):kys (uRow E k x)=if k ∈ kys E then kys E else kys E ++ [k]:=by
 unfold uRow
 cases h:lkE E k with
 | none =>
   rw [if_neg (lk_none.1 h)]
   simp [kys]
 | some y =>
   have:k ∈ kys E:=List.mem_map.2 ⟨_,lk_some h,rfl⟩
   rw [if_pos this]
   unfold kys
   simp only [Option.isSome_some,if_true,List.map_map]
   apply List.map_congr_left
   intro e _
   by_cases g:e.1=k
   · simp [g]
   · simp [g]
theorem nd_upd {E:Rws α} {k:List Int} {x:α} (h:(kys E).Nodup):(kys (uRow E k x)).Nodup:=by
 rw [kys_upd]
 split
 · exact h
 · rename_i g
   rw [List.nodup_append]
   refine ⟨h,by simp,fun a ha b hb=>?_⟩
   have:b=k:=by simpa using hb
   subst this
   intro e
   subst e
   exact g ha
theorem lk_app (E F:Rws α) (k:List Int):lkE (E ++ F) k=(lkE E k).or (lkE F k):=by
 induction E with
 | nil=>simp [lk_nil]
 | cons e E ih =>
   rw [List.cons_append,qli,qli]
   by_cases h:e.1=k
   · simp [h]
   · simp [h,ih]
theorem lk_upd (E:Rws α) (k:List Int) (x:α) (q:List Int):lkE (uRow E k x) q=if q=k then some x else lkE E q:=by
 unfold uRow
 cases h:lkE E k with
 | none =>
   simp only [Option.isSome_none,Bool.false_eq_true,if_false]
   rw [lk_app,qli,lk_nil]
   by_cases g:q=k
   · subst g
     rw [h]; simp
   · have:¬ k=q:=fun e=>g e.symm
     simp [g,this]
 | some y =>
   simp only [Option.isSome_some,if_true]
   have aux:∀ (E:Rws α),k ∈ kys E→lkE (E.map fun e=>if e.1 == k then (k,x) else e) q=if q=k then some x else lkE E q:=by
    intro E
    induction E with
    | nil=>intro h; simp [kys] at h
    | cons e E ih =>
      intro hm
      rw [List.map_cons,qli,qli]
      by_cases g:e.1=k
      · subst g
        simp only [BEq.rfl,if_true]
        by_cases g2:q=e.1
        · subst g2; simp
        · have g3:¬ e.1=q:=fun h=>g2 h.symm
          rw [if_neg g3,if_neg g3,if_neg g2]
          by_cases g4:e.1 ∈ kys E
          · rw [ih g4,if_neg g2]
          · congr 1
            have e5:E.map (fun f=>if f.1 == e.1 then (e.1,x) else f)=E.map id:=List.map_congr_left fun f hf=>by
             have:¬ f.1=e.1:=fun h=>g4 (List.mem_map.2 ⟨f,hf,h⟩)
             simp [this]
            rw [e5,List.map_id]
      · have g1:(e.1 == k)=false:=by simp [g]
        have hm':k ∈ kys E:=by
         rcases List.mem_cons.1 hm with h | h
         · exact absurd h.symm g
         · exact h
        simp only [g1,Bool.false_eq_true,if_false]
        by_cases g2:e.1=q
        · rw [if_pos g2,if_pos g2]
          rw [if_neg (fun h=>g (g2.trans h))]
        · rw [if_neg g2,if_neg g2,ih hm']
   exact aux E (List.mem_map.2 ⟨_,lk_some h,rfl⟩)
end
def idOk (k:List Int):Prop:=k.length=20∧∀ x ∈ k,0≤x∧x < 256
abbrev idV (k:List Int):Value:=.agg ⟨ivs .u8 k⟩
theorem idV_inj {a b:List Int} (h:idV a=idV b):a=b:=by
 injection h with h
 injection h with h
 exact ivs_inj h
theorem lits_u8 {P:Program} {e:TypeId} {m:Nat} (h2:P.underlying e=some (.int .u8)) {n:Int} (h0:0≤n) (h1:n < 256):P.keyLits (m+1) e [.int .u8 n]=some [.int .u8 n]:=by
 have wf:(Lit.int .u8 n).wf=true:=by
  simp [Lit.wf,show IntKind.u8.min=0 from rfl,show IntKind.u8.max=255 from rfl]
  omega
 unfold Program.keyLits
 rw [h2]
 simp [wf]
theorem key20 {P:Program} {t e:TypeId} {m:Nat} (h1:P.underlying t=some (.array 20 e)) (h2:P.underlying e=some (.int .u8)) (h3:P.cellsOf t=20) (h4:P.cellsOf e=1) (h5:P.keyType t=true) (h6:P.types.size+1=m+2) {k:List Int} (hk:idOk k):∃ l,keyOf P t (idV k)=some l:=by
 obtain ⟨hl,hb⟩:=hk
 have e2:∃ ls,P.keyLits (m+2) t (ivs .u8 k)=some ls:=by
  unfold Program.keyLits
  rw [h1]
  simp only [h3,h4]
  rw [if_pos (show (ivs .u8 k).length=20 by rw [qw,hl])]
  have aux:∀ j,j < 20→∃ ls,P.keyLits (m+1) e (((ivs .u8 k).drop (j * 1)).take 1)=some ls:=by
   intro j hj
   have hj':j < k.length:=by omega
   have:((ivs .u8 k).drop (j * 1)).take 1=[.int .u8 k[j]]:=by
    rw [Nat.mul_one,ivs_drop,ivs_take,List.drop_eq_getElem_cons hj',List.take_succ_cons,List.take_zero]
    rfl
   rw [this]
   have:=hb _ (List.getElem_mem hj')
   exact ⟨_,lits_u8 h2 this.1 this.2⟩
  have all:∀ L:List Nat,(∀ j ∈ L,j < 20)→∃ ls,(L.mapM fun j=>P.keyLits (m+1) e (((ivs .u8 k).drop (j * 1)).take 1))=some ls:=by
   intro L
   induction L with
   | nil=>intro _; exact ⟨[],rfl⟩
   | cons j L ih =>
     intro h
     obtain ⟨a,ha⟩:=aux j (h j (by simp))
     obtain ⟨b,hb⟩:=ih fun q hq=>h q (by simp [hq])
     exact ⟨a :: b,by rw [List.mapM_cons,ha,hb]; rfl⟩
  obtain ⟨ls,hls⟩:=all (List.range 20) fun j hj=>List.mem_range.1 hj
  rw [hls]
  exact ⟨_,rfl⟩
 obtain ⟨ls,e2⟩:=e2
 unfold keyOf
 rw [h1]
 have e3:(idV k).formed P t=true:=by simp [Value.formed,h1,h3,hl]
 have e4:(idV k).cells.toList=ivs .u8 k:=rfl
 simp only [h5,e3,e4,h6,e2]
 exact ⟨_,rfl⟩
theorem qzj:Keyed Tryz.prog 39:=keyed_deep f_laid (m:=2) (by omega) (of_decide_eq_true (by kernel_rfl)) (by kernel_rfl) (by kernel_rfl)
theorem id_lit {k:List Int} (hk:idOk k):∃ l,keyOf Tryz.prog 39 (idV k)=some l :=
 key20 (e:=5) (m:=Tryz.prog.types.size - 1) (by kernel_rfl) (by kernel_rfl) (by kernel_rfl) (by kernel_rfl) (by kernel_rfl) (by kernel_rfl) hk
class MapT (t:TypeId) (e:outParam TypeId) (z:outParam Value):Prop where
 ht:Tryz.prog.underlying t=some (.map 39 e)
 hz:∀ w,(zeroValue e).run Tryz.prog w=.ok z w
def mwf (es:Array MapEntry) (clock:Nat):Prop:=(∀ e ∈ es.toList,e.born < clock)∧(es.toList.map (·.born)).Nodup
section
variable {α:Type}
abbrev rwV (g:α→Value) (E:Rws α):List (Value × Value):=E.map fun e=>(idV e.1,g e.2)
def okE (E:Rws α):Prop:=(kys E).Nodup∧∀ e ∈ E,idOk e.1
def tmP (g:α→Value) (w:World) (b:Nat) (E:Rws α) (es:Array MapEntry) (clock:Nat):Prop:=w.heap[b]?=some (.map es clock)∧kvs es=rwV g E∧mwf es clock∧okE E
def tmA (g:α→Value) (b:Nat) (E:Rws α):As where
 hd w F:=(∃ es clock,tmP g w b E es clock)∧F=[b]
 keep:=by
  rintro w w' F G ⟨⟨es,c,h,e⟩,rfl⟩ m hd
  have hl:b < w.heap.size:=(Array.getElem?_eq_some_iff.1 h).1
  exact ⟨⟨es,c,by rw [m.frame b hl (hd b (by simp))]; exact h,e⟩,rfl⟩
 lt:=by
  rintro w F ⟨⟨es,c,h,e⟩,rfl⟩ x hx
  have:x=b:=by simpa using hx
  subst this
  exact (Array.getElem?_eq_some_iff.1 h).1
def trP (g:α→Value) (w:World) (b r:Nat) (E D:Rws α) (es:Array MapEntry) (clock:Nat) (D':List MapEntry):Prop :=
 tmP g w b E es clock∧w.heap[r]?=some (.mapIter (some b) clock (D'.map (·.born)).toArray clock)∧D'.map (fun e=>(e.key,e.val))=rwV g D∧(∀ e ∈ D',e ∈ es.toList)∧(kys D).Nodup∧∀ e ∈ D,e ∈ E
def trA (g:α→Value) (b r:Nat) (E D:Rws α):As where
 hd w F:=(∃ es clock D',trP g w b r E D es clock D')∧F=[b,r]
 keep:=by
  rintro w w' F G ⟨⟨es,c,D',⟨h,e⟩,h2,e2⟩,rfl⟩ m hd
  have hl:b < w.heap.size:=(Array.getElem?_eq_some_iff.1 h).1
  have hl2:r < w.heap.size:=(Array.getElem?_eq_some_iff.1 h2).1
  exact ⟨⟨es,c,D',⟨by rw [m.frame b hl (hd b (by simp))]; exact h,e⟩,by rw [m.frame r hl2 (hd r (by simp))]; exact h2,e2⟩,rfl⟩
 lt:=by
  rintro w F ⟨⟨es,c,D',⟨h,e⟩,h2,e2⟩,rfl⟩ x hx
  have:x=b ∨ x=r:=by simpa using hx
  rcases this with rfl | rfl
  · exact (Array.getElem?_eq_some_iff.1 h).1
  · exact (Array.getElem?_eq_some_iff.1 h2).1
class MpR (α:outParam Type) (g:outParam (α→Value)) (b:Nat) (ps:List As) (E:outParam (Rws α)):Prop where
 rd:∀ {F0:List Nat} {w0 w:World},St F0 w0 w ps→∃ es clock,tmP g w b E es clock
end
section
variable {α:Type} {g:α→Value} {b r:Nat} {E D:Rws α} {F0:List Nat} {w0 w:World} {ps rest:List As} {q:As} {t e:TypeId} {z:Value} {k:List Int}
instance MpR.tl [i:MpR α g b ps E]:MpR α g b (q :: ps) E:=⟨fun h=>i.rd h.drop⟩
instance MpR.hd:MpR α g b (tmA g b E :: ps) E:=⟨fun h=>by
 obtain ⟨F,h,_⟩:=h.get
 exact h⟩
instance MpR.hr:MpR α g b (trA g b r E D :: ps) E:=⟨fun h=>by
 obtain ⟨F,⟨es,c,D',h,_⟩,_⟩:=h.get
 exact ⟨es,c,h⟩⟩
theorem St.okE (h:St F0 w0 w ps) (b:Nat) [i:MpR α g b ps E]:Go.Proofs.YtonmgkkkiejicaaGreat.okE E:=by
 obtain ⟨es,c,h1,h2,h3,h4⟩:=i.rd h
 exact h4
theorem rw_lit (hE:okE E):∀ p ∈ rwV g E,∃ l,keyOf Tryz.prog 39 p.1=some l:=by
 intro p hp
 obtain ⟨e,he,rfl⟩:=List.mem_map.1 hp
 exact id_lit (hE.2 e he)
theorem St.tlook (h:St F0 w0 w ps) (b:Nat) [i:MpR α g b ps E] (t:TypeId) [m:MapT t e z] (c:Bool) (hk:idOk k) :
 lkR Tryz.prog t (.map (some b)) (idV k) c w (if c then .tuple #[(lkE E k).elim z g,.bool (lkE E k).isSome] else (lkE E k).elim z g):=by
 obtain ⟨es,clock,hb,hkv,hwf,hE⟩:=i.rd h
 rcases map_look qzj m.ht hb (by rw [hkv]; exact rw_lit hE) c (m.hz w) (id_lit hk) with ⟨h1,h2⟩ | ⟨j,p,h1,h2,h3⟩
 · have:lkE E k=none:=lk_none.2 fun hm=>by
    obtain ⟨e0,he,rfl⟩:=List.mem_map.1 hm
    exact h2 (idV e0.1,g e0.2) (by rw [hkv]; exact List.mem_map.2 ⟨e0,he,rfl⟩) rfl
   rw [this]
   exact h1
 · rw [hkv] at h1
   obtain ⟨e0,he0,rfl⟩:∃ e0,E[j]?=some e0∧p=(idV e0.1,g e0.2):=by
    rw [List.getElem?_map] at h1
    cases hj:E[j]? with
    | none=>rw [hj] at h1; cases h1
    | some e0=>rw [hj] at h1; injection h1 with h1; exact ⟨e0,rfl,h1.symm⟩
   have hk':=idV_inj h2
   subst hk'
   rw [lk_mem hE.1 (List.mem_of_getElem? he0)]
   exact h3
theorem St.tlook1 (h:St F0 w0 w ps) (b:Nat) [i:MpR α g b ps E] (t:TypeId) [m:MapT t e z] (hk:idOk k):lkR Tryz.prog t (.map (some b)) (idV k) false w ((lkE E k).elim z g):=h.tlook b t false hk
class PkT (α:outParam Type) (g:outParam (α→Value)) (b:Nat) (ps:List As) (E:outParam (Rws α)) (rest:outParam (List As)):Prop where
 pk:∀ {F0:List Nat} {w0 w:World},St F0 w0 w ps→St F0 w0 w (tmA g b E :: rest)
instance PkT.tl [i:PkT α g b ps E rest]:PkT α g b (q :: ps) E (q :: rest):=⟨fun h=>(h.tail fun _ _ _ h=>i.pk h).at1⟩
instance PkT.hd:PkT α g b (tmA g b E :: ps) E ps:=⟨id⟩
theorem St.toT (h:St F0 w0 w ps) (b:Nat) [i:PkT α g b ps E rest]:St F0 w0 w (tmA g b E :: rest):=i.pk h
theorem mwf_push {es:Array MapEntry} {clock:Nat} (h:mwf es clock) (k v:Value):mwf (es.push ⟨k,v,clock⟩) (clock+1):=by
 refine ⟨fun e he=>?_,?_⟩
 · rw [Array.toList_push,List.mem_append] at he
   rcases he with he | he
   · have:=h.1 e he; omega
   · have:e=⟨k,v,clock⟩:=by simpa using he
     subst this
     show clock < clock+1
     omega
 · rw [Array.toList_push,List.map_append,List.nodup_append]
   refine ⟨h.2,by simp,fun a ha c hc=>?_⟩
   obtain ⟨e,he,rfl⟩:=List.mem_map.1 ha
   have:=h.1 e he
   have:c=clock:=by simpa using hc
   omega
theorem born_mod {es:Array MapEntry} (j:Nat) (f:MapEntry→MapEntry) (hf:∀ e,(f e).born=e.born):(es.modify j f).toList.map (·.born)=es.toList.map (·.born):=by
 apply List.ext_getElem?
 intro i
 simp only [List.getElem?_map,Array.getElem?_toList,Array.getElem?_modify]
 by_cases h:j=i
 · subst h
   cases es[j]? with
   | none=>simp
   | some x=>simp [hf]
 · simp [h]
theorem mwf_mod {es:Array MapEntry} {clock:Nat} (h:mwf es clock) (j:Nat) (f:MapEntry→MapEntry) (hf:∀ e,(f e).born=e.born):mwf (es.modify j f) clock:=by
 have hb:=born_mod j f hf (es:=es)
 refine ⟨fun e he=>?_,by rw [hb]; exact h.2⟩
 have:e.born ∈ (es.modify j f).toList.map (·.born):=List.mem_map.2 ⟨e,he,rfl⟩
 rw [hb] at this
 obtain ⟨e',he',h2⟩:=List.mem_map.1 this
 rw [← h2]
 exact h.1 e' he'
theorem kvs_mod {es:Array MapEntry} {j:Nat} {e0:MapEntry} (hj:es[j]?=some e0) (f:MapEntry→MapEntry):kvs (es.modify j f)=(kvs es).set j ((f e0).key,(f e0).val):=by
 have hlt:j < es.size:=(Array.getElem?_eq_some_iff.1 hj).1
 unfold kvs
 apply List.ext_getElem?
 intro i
 simp only [List.getElem?_map,Array.getElem?_toList,Array.getElem?_modify,List.getElem?_set,List.length_map,Array.length_toList]
 by_cases hij:j=i
 · subst hij
   have:es[j]=e0:=(Array.getElem?_eq_some_iff.1 hj).2
   simp [hj,hlt,this]
 · simp [hij]
theorem rw_set (hE:(kys E).Nodup) {j:Nat} {e0:List Int × α} (hj:E[j]?=some e0) (x:α):(rwV g E).set j (idV e0.1,g x)=rwV g (uRow E e0.1 x):=by
 have hl:=lk_mem hE (List.mem_of_getElem? hj)
 unfold uRow
 rw [hl]
 simp only [Option.isSome_some,if_true]
 have hlt:j < E.length:=(List.getElem?_eq_some_iff.1 hj).1
 apply List.ext_getElem?
 intro i
 simp only [List.getElem?_set,List.getElem?_map,List.length_map]
 by_cases hij:j=i
 · subst hij
   have:E[j]=e0:=(List.getElem?_eq_some_iff.1 hj).2
   simp [hj,hlt,this]
 · rw [if_neg hij]
   cases hi:E[i]? with
   | none=>rfl
   | some f =>
     have hne:¬ f.1=e0.1:=by
      intro h
      have hi':i < E.length:=(List.getElem?_eq_some_iff.1 hi).1
      have h1:(kys E)[i]?=(kys E)[j]?:=by unfold kys; rw [List.getElem?_map,List.getElem?_map,hi,hj]; simp [h]
      exact hij ((List.getElem?_inj (by unfold kys; simpa using hi') hE).1 h1).symm
     simp [hne]
theorem okE_upd {x:α} (hE:okE E) (hk:idOk k):okE (uRow E k x):=by
 refine ⟨nd_upd hE.1,fun e he=>?_⟩
 have:e.1 ∈ kys (uRow E k x):=List.mem_map.2 ⟨e,he,rfl⟩
 rw [kys_upd] at this
 have h2:e.1 ∈ kys E ∨ e.1=k:=by
  split at this
  · exact Or.inl this
  · rcases List.mem_append.1 this with h | h
    · exact Or.inl h
    · exact Or.inr (by simpa using h)
 rcases h2 with h2 | h2
 · obtain ⟨e',he',h3⟩:=List.mem_map.1 h2
   rw [← h3]
   exact hE.2 e' he'
 · rw [h2]
   exact hk
theorem mod_set {w:World} {b:Nat} {o:Obj} (hb:b < w.heap.size):Mod [b] w { w with heap:=w.heap.setIfInBounds b o }:=⟨rfl,rfl,rfl,by simp,fun x hx hF=>by
 simp only [Array.getElem?_setIfInBounds]
 rw [if_neg (fun e=>hF (by simp [e]))]⟩
theorem get_set {w:World} {b:Nat} {o:Obj} (hb:b < w.heap.size):({ w with heap:=w.heap.setIfInBounds b o }:World).heap[b]?=some o:=by
 simp [Array.getElem?_setIfInBounds,hb]
theorem at_row {es:Array MapEntry} {j:Nat} {e0:MapEntry} (hkv:kvs es=rwV g E) (hj:es[j]?=some e0):∃ f,E[j]?=some f∧e0.key=idV f.1∧e0.val=g f.2:=by
 have h1:(kvs es)[j]?=some (e0.key,e0.val):=by
  unfold kvs
  rw [List.getElem?_map,Array.getElem?_toList,hj]
  rfl
 rw [hkv,List.getElem?_map] at h1
 cases hi:E[j]? with
 | none=>rw [hi] at h1; cases h1
 | some f =>
   rw [hi] at h1
   injection h1 with h1
   injection h1 with h1 h2
   exact ⟨f,rfl,h1.symm,h2.symm⟩
theorem St.tset {x:α} {X:World→Prop} (h:St F0 w0 w ps) (b:Nat) [i:PkT α g b ps E rest] (t:TypeId) [m:MapT t e z] (hk:idOk k) (hx:∀ w',St F0 w0 w' (tmA g b (uRow E k x) :: rest)→X w') :
 ∃ w',muR Tryz.prog t (.map (some b)) (idV k) (g x) w w'∧X w':=by
 obtain ⟨f,⟨⟨es,clock,hb,hkv,hwf,hE⟩,rfl⟩,hst⟩:=(h.toT b).step
 have hlt:b < w.heap.size:=(Array.getElem?_eq_some_iff.1 hb).1
 obtain ⟨l,hkey⟩:=id_lit hk
 have hks':∀ x ∈ es.toList,∃ l,keyOf Tryz.prog 39 x.key=some l:=fun x hx=>rw_lit (g:=g) hE (x.key,x.val) (by rw [← hkv]; exact List.mem_map.2 ⟨x,hx,rfl⟩)
 rcases qzj.find w hkey es.toList hks' with ⟨h1,h2⟩ | ⟨j,e0,h1,h2,h3⟩
 · refine ⟨_,?_,hx _ (hst _ [b] _ (mod_set hlt) (Gr.refl _ _) ⟨⟨es.push ⟨idV k,g x,clock⟩,clock+1,get_set hlt,?_,mwf_push hwf _ _,okE_upd hE hk⟩,rfl⟩)⟩
   · unfold muR
     simp [Instr.mapUpdate,qq m.ht,MapKept.run_getObj_map hb,qzj.check w false hkey,h1,MapKept.run_setObj_map _ hb,Result.andThen]
   · have hn:lkE E k=none:=lk_none.2 fun hm=>by
      obtain ⟨e0,he,rfl⟩:=List.mem_map.1 hm
      have:(idV e0.1,g e0.2) ∈ kvs es:=by rw [hkv]; exact List.mem_map.2 ⟨e0,he,rfl⟩
      obtain ⟨y,hy,h5⟩:=List.mem_map.1 this
      injection h5 with h5 h6
      exact h2 y hy h5
     unfold uRow
     rw [hn]
     simp only [Option.isSome_none,Bool.false_eq_true,if_false]
     show kvs _=rwV g (E ++ [(k,x)])
     unfold kvs at hkv ⊢
     rw [Array.toList_push,List.map_append,hkv]
     simp [rwV]
 · have hj:es[j]?=some e0:=by simpa using h2
   obtain ⟨f,hf,hf1,hf2⟩:=at_row hkv hj
   have hfk:f.1=k:=idV_inj (hf1.symm.trans h3)
   refine ⟨_,?_,hx _ (hst _ [b] _ (mod_set hlt) (Gr.refl _ _) ⟨⟨es.modify j fun e=>{ e with key:=idV k,val:=g x },clock,get_set hlt,?_,mwf_mod hwf _ _ fun _=>rfl,okE_upd hE hk⟩,rfl⟩)⟩
   · unfold muR
     simp [Instr.mapUpdate,qq m.ht,MapKept.run_getObj_map hb,qzj.check w false hkey,h1,hj,h3,qzj.stays w hkey,MapKept.run_setObj_map _ hb,Result.andThen]
   · rw [kvs_mod hj,hkv]
     subst hfk
     exact rw_set hE.1 hf x
end
end Go.Proofs.YtonmgkkkiejicaaGreat
namespace Go.Proofs.YtonmgkkkiejicaaGreat
open Go Go.Proofs
set_option linter.unusedVariables false
set_option linter.unusedSimpArgs false
attribute [local irreducible] apK cpK mkK br
abbrev Nm:={ k:List Int // idOk k }
instance:Inhabited Nm:=⟨⟨z20,by refine ⟨rfl,?_⟩; decide⟩⟩
def nmC (n:Nm):List Value:=ivs .u8 n.1
instance:Rec nmC 20 where
 len n:=by unfold nmC; rw [qw,n.2.1]
 pos:=by decide
 sto n v hv:=qvd v (by simpa [nmC] using hv)
theorem Nm.ext' {a b:Nm} (h:a.1=b.1):a=b:=Subtype.ext h
def Nd.nm (n:Nd):Nm:=⟨n.id,n.hid,n.bid⟩
def slV (s:Sl):Value:=.slice s.a s.len s.cap
def ndZ:Nd:=⟨z20,z20,rfl,rfl,by decide,by decide,⟨none,0,0⟩,0⟩
theorem zc_id:zc Tryz.prog 39=⟨ivs .u8 z20⟩:=by kernel_rfl
instance elt_id:EltR Tryz.prog 39 20 (ivs .u8 z20):=⟨⟨Tryz.t39,by kernel_rfl,rfl,by decide,by decide⟩,by kernel_rfl,rfl,by decide⟩
section
variable {F0:List Nat} {w0 w:World} {ps rest:List As} {s:Sl} {L:List Nd}
theorem St.mkT {α:Type} (g:α→Value) (t:TypeId) {X:Nat→World→Prop} (h:St F0 w0 w ps) (hk:∀ mb w',St F0 w0 w' (tmA g mb [] :: ps)→X mb w'):∃ n:Nat,∃ w':World,mmR Tryz.prog t none w n w'∧X n w':=by
 refine ⟨_,_,map_make w trivial,hk _ _ (h.add (f':=[w.heap.size]) (Mod.alloc w _) ⟨⟨#[],0,?_,rfl,⟨by simp,by simp⟩,⟨by simp [kys],by simp⟩⟩,rfl⟩ ?_)⟩
 · show (w.heap.push _)[w.heap.size]?=_
   rw [Array.getElem?_push_size]
 · intro x hx
   have:x=w.heap.size:=by simpa using hx
   exact Or.inr (by omega)
end
end Go.Proofs.YtonmgkkkiejicaaGreat
namespace Go.Proofs.YtonmgkkkiejicaaGreat
open Go Go.Proofs Go.ChangeShapes Go.WideShapes Go.MapKept Go.Maps
set_option linter.unusedVariables false
set_option linter.unusedSimpArgs false
attribute [local irreducible] apK cpK mkK br
section
variable {F0:List Nat} {w0 w:World} {p:As} {l l' ps rest:List As}
def qgg (l:List As):As:=allA l
theorem St.bag0 (h:St F0 w0 w ps):St F0 w0 w (qgg [] :: ps):=by
 obtain ⟨m,F,hF,hr⟩:=h
 exact ⟨m,F,⟨[],F,rfl,hF,rfl,by simp⟩,hr⟩
theorem St.bagOut (h:St F0 w0 w (qgg (p :: l) :: ps)):St F0 w0 w (p :: qgg l :: ps):=St.split (q:=allA l) h
theorem St.bagIn (h:St F0 w0 w (p :: qgg l :: ps)):St F0 w0 w (qgg (p :: l) :: ps):=St.join (q:=allA l) h
theorem St.bagP (hp:l.Perm l'):∀ {F0:List Nat} {w0 w:World} {ps:List As},St F0 w0 w (qgg l :: ps)→St F0 w0 w (qgg l' :: ps):=by
 induction hp with
 | nil=>exact fun h=>h
 | cons x _ ih=>exact fun h=>(h.bagOut.tail fun _ _ _ h=>ih h).bagIn
 | swap x y l=>exact fun h=>((h.bagOut.tail fun _ _ _ h=>h.bagOut).at1.tail fun _ _ _ h=>h.bagIn).bagIn
 | trans _ _ ih1 ih2=>exact fun h=>ih2 (ih1 h)
end
section
variable {α:Type} {g:α→Value} {b r:Nat} {E D:Rws α} {F0:List Nat} {w0 w:World} {ps rest:List As} {q:As} {t e:TypeId} {z:Value} {k:List Int}
def teA (g:α→Value) (b:Nat) (E:Rws α) (k:List Int) (n:Int):As where
 hd w F:=(∃ es clock,tmP g w b E es clock∧∃ (j:Nat) (e0:MapEntry),es[j]?=some e0∧e0.key=idV k∧(e0.born:Int)=n)∧F=[b]
 keep:=by
  rintro w w' F G ⟨⟨es,c,⟨h,e⟩,h2⟩,rfl⟩ m hd
  have hl:b < w.heap.size:=(Array.getElem?_eq_some_iff.1 h).1
  exact ⟨⟨es,c,⟨by rw [m.frame b hl (hd b (by simp))]; exact h,e⟩,h2⟩,rfl⟩
 lt:=by
  rintro w F ⟨⟨es,c,⟨h,e⟩,_⟩,rfl⟩ x hx
  have:x=b:=by simpa using hx
  subst this
  exact (Array.getElem?_eq_some_iff.1 h).1
instance MpR.ht {n:Int}:MpR α g b (teA g b E k n :: ps) E:=⟨fun h=>by
 obtain ⟨F,⟨es,c,h,_⟩,_⟩:=h.get
 exact ⟨es,c,h⟩⟩
end
end Go.Proofs.YtonmgkkkiejicaaGreat
namespace Go.Proofs.YtonmgkkkiejicaaGreat
open Go Go.Proofs
set_option linter.unusedVariables false
set_option linter.unusedSimpArgs false
instance:DecidableEq Nm:=inferInstanceAs (DecidableEq { k:List Int // idOk k })
theorem sum_cnt (ps:List Nm):∀ {O:List Nm},O.Nodup→(O.map fun p=>ps.count p).sum=ps.countP (fun p=>decide (p ∈ O)):=by
 intro O
 induction O with
 | nil=>intro _; simp
 | cons o O ih =>
   intro h
   have h':o ∉ O∧O.Nodup:=List.nodup_cons.1 h
   rw [List.map_cons,List.sum_cons,ih h'.2]
   clear ih h
   induction ps with
   | nil=>simp
   | cons p ps ih =>
     rw [List.count_cons,List.countP_cons,List.countP_cons]
     by_cases g:p=o
     · subst g
       have e1:decide (p ∈ p :: O)=true:=by simp
       have e2:decide (p ∈ O)=false:=decide_eq_false h'.1
       simp only [e1,e2,BEq.rfl,if_true,Bool.false_eq_true,if_false]
       omega
     · have g2:(p == o)=false:=beq_eq_false_iff_ne.2 g
       have e1:decide (p ∈ o :: O)=decide (p ∈ O):=by
        by_cases g3:p ∈ O
        · rw [decide_eq_true g3,decide_eq_true (List.mem_cons_of_mem _ g3)]
        · rw [decide_eq_false g3,decide_eq_false]
          intro h
          rcases List.mem_cons.1 h with h | h
          · exact g h
          · exact g3 h
       simp only [e1,g2,Bool.false_eq_true,if_false]
       omega
theorem sum_le' {O:List Nm} {f g:Nm→Nat} (h:∀ p ∈ O,f p≤g p):(O.map f).sum≤(O.map g).sum:=by
 induction O with
 | nil=>simp
 | cons o O ih =>
   rw [List.map_cons,List.map_cons,List.sum_cons,List.sum_cons]
   have:=h o (by simp)
   have:=ih fun p hp=>h p (by simp [hp])
   omega
theorem sum_eq' {O:List Nm} {f g:Nm→Nat} (h:∀ p ∈ O,f p=g p):(O.map f).sum=(O.map g).sum:=by
 rw [List.map_congr_left h]
theorem len_sub {α:Type} [DecidableEq α]:∀ {O S:List α},O.Nodup→(∀ x ∈ O,x ∈ S)→O.length≤S.length:=by
 intro O
 induction O with
 | nil=>intro S _ _; simp
 | cons o O ih =>
   intro S hn hs
   have hn':o ∉ O∧O.Nodup:=List.nodup_cons.1 hn
   have h1:=hs o (by simp)
   have h2:=ih (S:=S.erase o) hn'.2 fun x hx=>(List.mem_erase_of_ne (fun e=>hn'.1 (by rw [← e]; exact hx))).2 (hs x (by simp [hx]))
   rw [List.length_erase_of_mem h1] at h2
   have:=List.length_pos_of_mem h1
   simp only [List.length_cons]
   omega
section
variable (M:Rws Nd) (pr:Nd→List Nm) (lost:Bool)
def inM (p:Nm):Bool:=(lkE M p.1).isSome
def fineN (n:Nd):Bool:=lost || (pr n).all (inM M)
def cntM (n:Nd):Nat:=(pr n).countP (inM M)
def w0N (n:Nd):Nat:=if fineN M pr lost n then cntM M pr n else (pr n).length+1
structure KOk (κ:Nm→List Nm):Prop where
 a:∀ p,∀ q ∈ κ p,inM M q=true
 b:∀ (k:Nm) n,lkE M k.1=some n→∀ p,(κ p).count k≤(pr n).count p∧(fineN M pr lost n=true→inM M p=true→(κ p).count k=(pr n).count p)
def sumC (κ:Nm→List Nm) (O:List Nm) (k:Nm):Nat:=(O.map fun p=>(κ p).count k).sum
inductive Enm:List Nm→Prop
 | nil:Enm []
 | snoc {O:List Nm} {c:Nm} {n:Nd}:Enm O→lkE M c.1=some n→fineN M pr lost n=true→(∀ p ∈ pr n,inM M p=true→p ∈ O)→Enm (O ++ [c])
def gD (G:Rws Int) (p:Nm):Int:=(lkE G p.1).getD 0
def mxP (G:Rws Int) (O:List Nm):List Nm→Int
 | []=>0
 | p :: ps=>if p ∈ O then max (gD G p+1) (mxP G O ps) else mxP G O ps
def mx (G:Rws Int) (O:List Nm) (n:Nd):Int:=mxP G O (pr n)
end
theorem mxP_nn (G:Rws Int) (O:List Nm) (ps:List Nm):0≤mxP G O ps:=by
 induction ps with
 | nil=>exact Int.le_refl _
 | cons p ps ih =>
   rw [mxP]
   split
   · omega
   · exact ih
theorem mxP_snoc {G:Rws Int} {O:List Nm} {c:Nm} (hc:c ∉ O) (ps:List Nm):mxP G (O ++ [c]) ps=max (mxP G O ps) (if c ∈ ps then gD G c+1 else 0):=by
 induction ps with
 | nil=>simp [mxP]
 | cons p ps ih =>
   have hnn:=mxP_nn G O ps
   rw [mxP,mxP,ih]
   by_cases g:p=c
   · subst g
     rw [if_pos (show p ∈ O ++ [p] by simp),if_neg hc]
     simp only [List.mem_cons,true_or,if_true]
     split <;> omega
   · have g2:¬ c=p:=fun e=>g e.symm
     by_cases g3:p ∈ O
     · rw [if_pos (by simp [g3]),if_pos g3]
       by_cases g4:c ∈ ps
       · rw [if_pos g4,if_pos (by simp [g4])]; omega
       · rw [if_neg g4,if_neg (by simp [g4,g2])]; omega
     · rw [if_neg (by simp [g3,g]),if_neg g3]
       by_cases g4:c ∈ ps
       · rw [if_pos g4,if_pos (by simp [g4])]
       · rw [if_neg g4,if_neg (by simp [g4,g2])]
theorem mxP_no {G:Rws Int} {O:List Nm} {c:Nm} (ps:List Nm) (h:c ∉ ps):mxP G (O ++ [c]) ps=mxP G O ps:=by
 induction ps with
 | nil=>rfl
 | cons p ps ih =>
   have h1:¬ c=p:=fun e=>h (by simp [e])
   have h2:c ∉ ps:=fun e=>h (by simp [e])
   rw [mxP,mxP,ih h2]
   by_cases g3:p ∈ O
   · rw [if_pos (by simp [g3]),if_pos g3]
   · rw [if_neg (by simp [g3]; exact fun e=>h1 e.symm),if_neg g3]
theorem mxP_congr {G G':Rws Int} {O:List Nm} (h:∀ p ∈ O,gD G' p=gD G p) (ps:List Nm):mxP G' O ps=mxP G O ps:=by
 induction ps with
 | nil=>rfl
 | cons p ps ih =>
   rw [mxP,mxP,ih]
   split
   · rename_i g; rw [h p g]
   · rfl
section
variable {M:Rws Nd} {pr:Nd→List Nm} {lost:Bool} {κ:Nm→List Nm} {O l H R:List Nm} {W G:Rws Int} {c q:Nm}
theorem Enm.par (h:Enm M pr lost O):∀ q ∈ O,∃ n,lkE M q.1=some n∧fineN M pr lost n=true∧∀ p ∈ pr n,inM M p=true→p ∈ O:=by
 induction h with
 | nil=>intro q hq; cases hq
 | @snoc O c n _ h1 h2 h3 ih =>
   intro q hq
   rcases List.mem_append.1 hq with hq | hq
   · obtain ⟨m,k1,k2,k3⟩:=ih q hq
     exact ⟨m,k1,k2,fun p hp hm=>List.mem_append_left _ (k3 p hp hm)⟩
   · have:q=c:=by simpa using hq
     subst this
     exact ⟨n,h1,h2,fun p hp hm=>List.mem_append_left _ (h3 p hp hm)⟩
theorem sumC_le (hκ:KOk M pr lost κ) {k:Nm} {n:Nd} (hk:lkE M k.1=some n) (hO:O.Nodup) (hm:∀ c ∈ O,inM M c=true):sumC κ O k≤(pr n).countP (fun p=>decide (p ∈ O))∧(fineN M pr lost n=true→sumC κ O k=(pr n).countP (fun p=>decide (p ∈ O)))∧sumC κ O k≤w0N M pr lost n:=by
 rw [← sum_cnt _ hO]
 have h1:sumC κ O k≤(O.map fun p=>(pr n).count p).sum:=sum_le' fun p _=>(hκ.b k n hk p).1
 refine ⟨h1,fun hf=>sum_eq' fun p hp=>(hκ.b k n hk p).2 hf (hm p hp),?_⟩
 unfold w0N
 rw [sum_cnt _ hO] at h1
 split
 · refine Nat.le_trans h1 ?_
   unfold cntM
   exact List.countP_mono_left fun x _ hx=>hm x (of_decide_eq_true hx)
 · have:=List.countP_le_length (p:=fun p=>decide (p ∈ O)) (l:=pr n)
   omega
structure WkO (M:Rws Nd) (pr:Nd→List Nm) (lost:Bool) (κ:Nm→List Nm) (O l:List Nm) (W G:Rws Int):Prop where
 nd:(O ++ l).Nodup
 mem:∀ c ∈ O ++ l,inM M c=true
 wv:∀ (k:Nm) n,lkE M k.1=some n→lkE W k.1=some ((w0N M pr lost n:Int) - sumC κ O k)
 kw:∀ k ∈ kys W,k ∈ kys M
 zero:∀ (k:Nm) n,lkE M k.1=some n→(k ∈ O ++ l ↔ w0N M pr lost n=sumC κ O k)
 en:Enm M pr lost O
 kG:∀ k ∈ kys G,k ∈ kys M
 gO:∀ (c:Nm) n,c ∈ O→lkE M c.1=some n→lkE G c.1=some (max 1 (mx pr G O n))
 gN:∀ (k:Nm) n,lkE M k.1=some n→fineN M pr lost n=true→k ∉ O→gD G k=mx pr G O n
 gB:∀ (k:Nm) v,lkE G k.1=some v→1≤v∧v≤O.length+1
structure WkI (M:Rws Nd) (pr:Nd→List Nm) (lost:Bool) (κ:Nm→List Nm) (O:List Nm) (c:Nm) (H R l:List Nm) (W G:Rws Int):Prop where
 hr:κ c=H ++ R
 nd:(O ++ [c] ++ l).Nodup
 mem:∀ q ∈ O ++ [c] ++ l,inM M q=true
 wv:∀ (k:Nm) n,lkE M k.1=some n→lkE W k.1=some ((w0N M pr lost n:Int) - sumC κ O k - H.count k)
 kw:∀ k ∈ kys W,k ∈ kys M
 zero:∀ (k:Nm) n,lkE M k.1=some n→(k ∈ O ++ [c] ++ l ↔ w0N M pr lost n=sumC κ O k+H.count k)
 en:Enm M pr lost (O ++ [c])
 kG:∀ k ∈ kys G,k ∈ kys M
 gO:∀ (q:Nm) n,q ∈ O ++ [c]→lkE M q.1=some n→lkE G q.1=some (max 1 (mx pr G O n))
 gN:∀ (k:Nm) n,lkE M k.1=some n→fineN M pr lost n=true→k ∉ O ++ [c]→gD G k=max (mx pr G O n) (if k ∈ H then gD G c+1 else 0)
 gB:∀ (k:Nm) v,lkE G k.1=some v→1≤v∧v≤O.length+2
 gC:gD G c≤O.length+1
theorem inM_get {p:Nm} (h:inM M p=true):∃ n,lkE M p.1=some n:=Option.isSome_iff_exists.1 h
theorem gD_upd (G:Rws Int) (k:Nm) (v:Int) (p:Nm):gD (uRow G k.1 v) p=if p=k then v else gD G p:=by
 unfold gD
 rw [lk_upd]
 by_cases g:p=k
 · subst g; simp
 · have:¬ p.1=k.1:=fun e=>g (Nm.ext' e)
   simp [g,this]
end
end Go.Proofs.YtonmgkkkiejicaaGreat
namespace Go.Proofs.YtonmgkkkiejicaaGreat
open Go Go.Proofs
set_option linter.unusedVariables false
set_option linter.unusedSimpArgs false
section
variable {M:Rws Nd} {pr:Nd→List Nm} {lost:Bool} {κ:Nm→List Nm} {O l H R:List Nm} {W G:Rws Int} {c q:Nm}
theorem snoc_nd {A:List Nm} (h:A.Nodup) (hq:q ∉ A):(A ++ [q]).Nodup:=by
 rw [List.nodup_append]
 refine ⟨h,by simp,fun a ha b hb=>?_⟩
 have:b=q:=by simpa using hb
 subst this
 intro e
 subst e
 exact hq ha
theorem WkI.room (h:WkI M pr lost κ O c H (q :: R) l W G) (hκ:KOk M pr lost κ) {n:Nd} (hn:lkE M q.1=some n):sumC κ O q+H.count q+1≤w0N M pr lost n:=by
 have nd1:(O ++ [c]).Nodup:=(List.nodup_append.1 h.nd).1
 have mem1:∀ x ∈ O ++ [c],inM M x=true:=fun x hx=>h.mem x (List.mem_append_left _ hx)
 have h3:=(sumC_le hκ hn nd1 mem1).2.2
 have h4:sumC κ (O ++ [c]) q=sumC κ O q+(κ c).count q:=by simp [sumC]
 have h5:(κ c).count q=H.count q+(R.count q+1):=by rw [h.hr,List.count_append,List.count_cons]; simp
 omega
theorem WkI.step (h:WkI M pr lost κ O c H (q :: R) l W G) (hκ:KOk M pr lost κ):inM M q=true∧q ∉ O ++ [c]∧∃ v:Int,lkE W q.1=some v∧1≤v∧v≤w0N M pr lost ((lkE M q.1).getD ndZ) ∧
 WkI M pr lost κ O c (H ++ [q]) R (if v - 1=0 then l ++ [q] else l) (uRow W q.1 (v - 1)) (uRow G q.1 (max (gD G q) (gD G c+1))):=by
 have hqm:inM M q=true:=hκ.a c q (by rw [h.hr]; simp)
 obtain ⟨n,hn⟩:=inM_get hqm
 have hroom:=h.room hκ hn
 have hz:=h.zero q n hn
 have hqn:q ∉ O ++ [c] ++ l:=fun e=>by have:=hz.1 e; omega
 have hqO:q ∉ O ++ [c]:=fun e=>hqn (List.mem_append_left _ e)
 have hw:=h.wv q n hn
 refine ⟨hqm,hqO,_,hw,by omega,by rw [hn]; simp only [Option.getD_some]; omega,?_⟩
 generalize hv:(w0N M pr lost n:Int) - sumC κ O q - H.count q=v at hw
 have hcq:¬ c=q:=fun e=>hqO (by rw [← e]; simp)
 have hGO:∀ p ∈ O ++ [c],gD (uRow G q.1 (max (gD G q) (gD G c+1))) p=gD G p:=fun p hp=>by rw [gD_upd,if_neg (fun e=>hqO (by rw [← e]; exact hp))]
 have hmx:∀ m,mx pr (uRow G q.1 (max (gD G q) (gD G c+1))) O m=mx pr G O m:=fun m=>mxP_congr (fun p hp=>hGO p (List.mem_append_left _ hp)) _
 have hqM:q.1 ∈ kys M:=List.mem_map.2 ⟨_,lk_some hn,rfl⟩
 refine ⟨by rw [h.hr]; simp,?_,fun x hx=>?_,fun k m hk=>?_,fun k hk=>?_,fun k m hk=>?_,h.en,fun k hk=>?_,fun x m hx hm=>?_,fun k m hk hfk hkO=>?_,fun k x hx=>?_,?_⟩
 · split
   · rw [← List.append_assoc]
     exact snoc_nd h.nd hqn
   · exact h.nd
 · split at hx
   · rw [← List.append_assoc] at hx
     rcases List.mem_append.1 hx with hx | hx
     · exact h.mem x hx
     · have:x=q:=by simpa using hx
       rw [this]; exact hqm
   · exact h.mem x hx
 · rw [lk_upd,List.count_append]
   by_cases g:k=q
   · subst g
     rw [hn] at hk
     injection hk with hk
     subst hk
     rw [if_pos rfl]
     simp
     omega
   · rw [if_neg (fun e=>g (Nm.ext' e)),h.wv k m hk]
     have:[q].count k=0:=by
      rw [List.count_eq_zero]
      simpa using g
     rw [this]
     simp
 · rw [kys_upd] at hk
   split at hk
   · exact h.kw k hk
   · rcases List.mem_append.1 hk with hk | hk
     · exact h.kw k hk
     · have:k=q.1:=by simpa using hk
       rw [this]; exact hqM
 · rw [List.count_append]
   by_cases g:k=q
   · subst g
     rw [hn] at hk
     injection hk with hk
     subst hk
     have e1:[k].count k=1:=by simp
     rw [e1]
     split
     · rename_i g2
       refine ⟨fun _=>by omega,fun _=>by simp⟩
     · rename_i g2
       exact ⟨fun e=>absurd e hqn,fun e=>by exfalso; omega⟩
   · have e1:[q].count k=0:=by
      rw [List.count_eq_zero]
      simpa using g
     rw [e1,Nat.add_zero,← h.zero k m hk]
     split
     · rw [← List.append_assoc]
       constructor
       · intro hx
         rcases List.mem_append.1 hx with hx | hx
         · exact hx
         · exact absurd (by simpa using hx) g
       · exact fun hx=>List.mem_append_left _ hx
     · exact Iff.rfl
 · rw [kys_upd] at hk
   split at hk
   · exact h.kG k hk
   · rcases List.mem_append.1 hk with hk | hk
     · exact h.kG k hk
     · have:k=q.1:=by simpa using hk
       rw [this]; exact hqM
 · rw [hmx,lk_upd,if_neg (fun e=>hqO (by rw [← Nm.ext' e]; exact hx))]
   exact h.gO x m hx hm
 · rw [hmx,gD_upd,hGO c (by simp)]
   have h0:=mxP_nn G O (pr m)
   by_cases g:k=q
   · subst g
     rw [if_pos rfl,h.gN k m hk hfk hkO,if_pos (show k ∈ H ++ [k] by simp)]
     unfold mx
     split <;> omega
   · rw [if_neg g,h.gN k m hk hfk hkO]
     congr 1
     by_cases g2:k ∈ H
     · rw [if_pos g2,if_pos (by simp [g2])]
     · rw [if_neg g2,if_neg (fun e=>by
        rcases List.mem_append.1 e with e | e
        · exact g2 e
        · exact g (by simpa using e))]
 · rw [lk_upd] at hx
   split at hx
   · injection hx with hx
     have h1:1≤gD G c:=by
      obtain ⟨nc,hnc⟩:=inM_get (h.mem c (by simp))
      have:=h.gO c nc (by simp) hnc
      unfold gD
      rw [this]
      simp only [Option.getD_some]
      omega
     have h2:gD G q≤O.length+2:=by
      unfold gD
      cases hg:lkE G q.1 with
      | none=>simp; omega
      | some v=>exact (h.gB q v hg).2
     have:=h.gC
     omega
   · exact h.gB k x hx
 · rw [hGO c (by simp)]
   exact h.gC
theorem Enm.snoc_inv (h:Enm M pr lost (O ++ [c])):Enm M pr lost O∧∃ n,lkE M c.1=some n∧fineN M pr lost n=true∧∀ p ∈ pr n,inM M p=true→p ∈ O:=by
 generalize hX:O ++ [c]=X at h
 cases h with
 | nil=>simp at hX
 | @snoc O' c' n h0 h1 h2 h3 =>
   obtain ⟨e1,e2⟩:=List.append_inj' hX rfl
   subst e1
   injection e2 with e2
   subst e2
   exact ⟨h0,n,h1,h2,h3⟩
theorem Enm.last (h:Enm M pr lost (O ++ [c])) (hc:c ∉ O) (hm:inM M c=true) {q:Nm} {n:Nd} (hq:q ∈ O ++ [c]) (hn:lkE M q.1=some n):c ∉ pr n:=by
 intro hcp
 obtain ⟨h0,m,h1,h2,h3⟩:=h.snoc_inv
 rcases List.mem_append.1 hq with hq | hq
 · obtain ⟨m2,k1,k2,k3⟩:=h0.par q hq
   rw [hn] at k1
   injection k1 with k1
   subst k1
   exact hc (k3 c hcp hm)
 · have:q=c:=by simpa using hq
   subst this
   rw [hn] at h1
   injection h1 with h1
   subst h1
   exact hc (h3 q hcp hm)
theorem WkI.done (h:WkI M pr lost κ O c H [] l W G) (hκ:KOk M pr lost κ):WkO M pr lost κ (O ++ [c]) l W G:=by
 have hH:κ c=H:=by rw [h.hr,List.append_nil]
 have hs:∀ k,sumC κ (O ++ [c]) k=sumC κ O k+H.count k:=fun k=>by simp [sumC,hH]
 have hcO:c ∉ O:=fun hc=>by
  have:=(List.nodup_append.1 (List.nodup_append.1 h.nd).1).2.2 c hc c (by simp)
  exact this rfl
 have hcm:inM M c=true:=h.mem c (by simp)
 refine ⟨h.nd,h.mem,fun k n hk=>?_,h.kw,fun k n hk=>?_,h.en,h.kG,fun q n hq hn=>?_,fun k n hk hf hkO=>?_,fun k v hv=>?_⟩
 · rw [h.wv k n hk,hs]
   congr 1
   omega
 · rw [h.zero k n hk,hs]
 · rw [h.gO q n hq hn]
   have:c ∉ pr n:=h.en.last hcO hcm hq hn
   congr 2
   exact (mxP_no _ this).symm
 · rw [h.gN k n hk hf hkO]
   unfold mx
   rw [mxP_snoc hcO]
   congr 1
   have hb:=(hκ.b k n hk c).2 hf hcm
   by_cases g:c ∈ pr n
   · have:0 < (κ c).count k:=by rw [hb]; exact List.count_pos_iff.2 g
     rw [hH] at this
     rw [if_pos g,if_pos (List.count_pos_iff.1 this)]
   · have:(κ c).count k=0:=by rw [hb]; exact List.count_eq_zero.2 g
     rw [hH] at this
     rw [if_neg g,if_neg (List.count_eq_zero.1 this)]
 · have:=h.gB k v hv
   simp only [List.length_append,List.length_singleton]
   omega
end
end Go.Proofs.YtonmgkkkiejicaaGreat
namespace Go.Proofs.YtonmgkkkiejicaaGreat
open Go Go.Proofs
set_option linter.unusedVariables false
set_option linter.unusedSimpArgs false
section
variable (M:Rws Nd) (pr:Nd→List Nm) (lost:Bool)
end
section
variable {M D:Rws Nd} {pr:Nd→List Nm} {lost:Bool}
structure WkE (M:Rws Nd) (pr:Nd→List Nm) (lost:Bool) (O:List Nm) (G:Rws Int):Prop where
 nd:O.Nodup
 en:Enm M pr lost O
 most:∀ (k:Nm) n,lkE M k.1=some n→fineN M pr lost n=true→(∀ p ∈ pr n,inM M p=true→p ∈ O)→k ∈ O
 keys:∀ k:Nm,k.1 ∈ kys G ↔ k ∈ O
 gens:∀ (c:Nm) n,c ∈ O→lkE M c.1=some n→lkE G c.1=some (max 1 (mx pr G O n))
 mem:∀ k ∈ kys G,k ∈ kys M
end
end Go.Proofs.YtonmgkkkiejicaaGreat
namespace Go.Proofs.YtonmgkkkiejicaaGreat
open Go Go.Proofs
set_option linter.unusedVariables false
set_option linter.unusedSimpArgs false
attribute [local irreducible] apK cpK mkK br
section
variable {F0:List Nat} {w0 w:World} {ps rest:List As} {s:Sl} {sz:Nat}
theorem St.nilO (h:St F0 w0 w ps):St F0 w0 w (qv sz ⟨none,0,0⟩ [] :: ps) :=
 h.add (f':=[]) (Mod.refl _ _) (Or.inl ⟨rfl,rfl,rfl⟩) (by intro x hx; cases hx)
theorem St.popR {α:Type} {f:α→List Value} [i:Rec f sz] {L:List α} {x:α} (h:St F0 w0 w (qv sz s ((L ++ [x]).flatMap f) :: ps)):s.len=L.length+1∧s.len≤s.cap∧St F0 w0 w (qv sz ⟨qfe s.a s.cap 0 sz,L.length - 0,s.cap - 0⟩ (L.flatMap f) :: ps):=by
 have hl:=h.len
 rw [qed,List.length_append] at hl
 have hl2:=Nat.eq_of_mul_eq_mul_right i.pos hl
 simp only [List.length_singleton] at hl2
 have hcap:s.len≤s.cap:=by
  obtain ⟨F,ho,hst⟩:=h.step
  rcases ho with ⟨rfl,hnil,_⟩ | ⟨ob,rs,h1,hb,h2,h3,rfl⟩
  · exact Nat.le_refl _
  · rw [List.length_append,h2] at h3
    exact Nat.le_of_mul_le_mul_right (by omega:s.len * sz≤s.cap * sz) i.pos
 refine ⟨hl2.symm,hcap,h.mp ?_⟩
 rintro F (⟨e,hnil,_⟩ | ⟨ob,rs,h1,hb,h2,h3,rfl⟩)
 · rw [e] at hl2; simp only at hl2; omega
 · refine Or.inr ⟨ob,f x ++ rs,?_,?_,?_,?_,rfl⟩
   · show qfe s.a s.cap 0 sz=_
     unfold qfe
     rw [if_neg (by omega),h1,Nat.zero_mul]
     simp [Addr.add]
   · rw [qef,qci,List.append_assoc] at hb
     exact hb
   · show _=(L.length - 0) * sz
     rw [qed,Nat.sub_zero]
   · show _=(s.cap - 0) * sz
     rw [Nat.sub_zero,← h3,qef,qci,List.append_assoc]
end
section
variable {F0:List Nat} {w0 w:World} {ps rest:List As} {s t8 t93:Sl} {wb gb cb j:Nat} {W G:Rws Int} {l L:List Nm} {c q:Nm} {v:Int} {t6:Option Nat} {t94:Int}
 {Q:VWP} {nx2:(Option Nat)→(Option Nat)→(Option Nat)→Sl→WP} {nx3:(Option Nat)→(Option Nat)→(Option Nat)→Addr→Sl→Int→Sl→Int→WP}
theorem St.newNm {X:Addr→World→Prop} {p:Nm} (h:St F0 w0 w ps) (hk:∀ b w',St F0 w0 w' (qt b (nmC p) :: ps)→X ⟨b,0,none⟩ w'):nw w (zc Tryz.prog 39) 39 fun a w1=>(⟨nmC p⟩:Array Value).size=20∧Go.Proofs.YtonmgkkkiejicaaGreat.stA w1 a ⟨nmC p⟩ fun w2=>X a w2:=by
 rw [zc_id]
 refine h.new fun xb w h=>?_
 have h:St F0 w0 w (qt xb (nmC ⟨z20,by refine ⟨rfl,?_⟩; decide⟩) :: ps):=h
 refine ⟨(inferInstance:Rec nmC 20).len p,?_⟩
 exact h.setR (f:=nmC) ((inferInstance:Rec nmC 20).len _) fun w h=>hk xb w h
attribute [local irreducible] lkR muR meR esR
end
end Go.Proofs.YtonmgkkkiejicaaGreat
namespace Go.Proofs.YtonmgkkkiejicaaGreat
open Go Go.Proofs
set_option linter.unusedVariables false
set_option linter.unusedSimpArgs false
attribute [local irreducible] apK cpK mkK br
abbrev Kid:=Sl × List Nm
section
variable {α:Type}
end
section
variable {F0:List Nat} {w0 w:World} {ps rest:List As} {T:Rws Kid} {kb nb:Nat} {k p:Nm}
attribute [local irreducible] lkR muR meR esR
end
section
variable {M D:Rws Nd} {pr:Nd→List Nm} {lost:Bool}
end
end Go.Proofs.YtonmgkkkiejicaaGreat
namespace Go.Proofs.YtonmgkkkiejicaaGreat
open Go Go.Proofs
set_option linter.unusedVariables false
set_option linter.unusedSimpArgs false
attribute [local irreducible] apK cpK mkK br
theorem one_le_sum {α:Type} {f:α→Nat}:∀ {L:List α} {e:α},e ∈ L→f e≤(L.map f).sum:=by
 intro L
 induction L with
 | nil=>intro e h; cases h
 | cons x L ih =>
   intro e h
   rw [List.map_cons,List.sum_cons]
   rcases List.mem_cons.1 h with rfl | h
   · omega
   · have:=ih h; omega
section
variable {F0:List Nat} {w0 w:World} {ps rest:List As} {s t8:Sl} {mb wb kb gb r ib:Nat} {M D:Rws Nd} {pr:Nd→List Nm} {lost:Bool} {f:List Int × Nd} {T:Rws Kid} {t6 t7:Option Nat} {d_0:Option Nat} {i_1:Bool} {t25:Value}
 {Q:VWP} {nx4:(Option Nat)→Bool→(Option Nat)→(Option Nat)→(Option Nat)→Value→Sl→WP}
end
end Go.Proofs.YtonmgkkkiejicaaGreat
namespace Go.Proofs.YtonmgkkkiejicaaGreat
open Go Go.Proofs
set_option linter.unusedVariables false
set_option linter.unusedSimpArgs false
attribute [local irreducible] apK cpK mkK br
section
variable {F0:List Nat} {w0 w:World} {ps rest:List As} {s:Sl} {L:List Nd} {n:Nd} {P:List Nm} {pr:Nd→List Nm} {K:Ending→World→Prop}
theorem ids_Clone.c (h:St F0 w0 w ps) [Rdb F0 w0 s ps 20 (P.flatMap nmC)] (hP:P.length≤1000000) (hk:∀ t w',t.len=P.length→St F0 w0 w' (qv 20 t (P.flatMap nmC) :: ps)→K (.returned (slV t)) w') :
 Calls Tryz.prog 73 ⟨[sV s]⟩ w K:=by
 refine qsb (qce.ok _ _ _ ?_)
 unfold qce
 refine qmd (fun g=>?_) (fun g=>?_)
 · have:s.a=none:=by simpa using g
   have hP:=h.isnil (s:=s) (f:=nmC) (L:=P) this
   subst hP
   exact hk ⟨none,0,0⟩ w rfl h.nilO
 · refine h.cloneR (s2:=s) (M:=P) (by omega) fun s' w' hs h=>?_
   exact hk s' w' hs h
theorem own_cap {sz:Nat} (hsz:0 < sz) {cs:List Value} (h:St F0 w0 w (qv sz s cs :: ps)):s.len≤s.cap:=by
 obtain ⟨F,ho,hst⟩:=h.step
 rcases ho with ⟨rfl,hnil,_⟩ | ⟨ob,rs,h1,hb,h2,h3,rfl⟩
 · exact Nat.le_refl _
 · rw [List.length_append,h2] at h3
   exact Nat.le_of_mul_le_mul_right (by omega:s.len * sz≤s.cap * sz) hsz
end
end Go.Proofs.YtonmgkkkiejicaaGreat
namespace Go.Proofs.YtonmgkkkiejicaaGreat
open Go Go.Proofs
set_option linter.unusedVariables false
set_option maxRecDepth 100000
def qqh (a_0:(Array Value)) (b_1:(Array Value)) (Q:VWP) (w:World):Prop :=
 nw w a_0 39 fun a1 w2 =>
 nw w2 b_1 39 fun a3 w4 =>
 lt (World.drew w4) fun w5 =>
 lt (⟨cutP a1 20 0 1,20 - 0,20 - 0⟩:Sl) fun s6 =>
 lt (⟨cutP a3 20 0 1,20 - 0,20 - 0⟩:Sl) fun s7 =>
 qri 97 [sV s6,sV s7] w5 fun r10 w9 =>
 Q (.bool (decide (r10 < 0))) w9
theorem qqh.ok (a_0:(Array Value)) (b_1:(Array Value)) (Q:VWP) (w:World) (h:qqh a_0 b_1 Q w):Calls Tryz.prog 68 ⟨[.agg a_0,.agg b_1]⟩ w (Ret Q) :=
 qvb [.tmp 4] qkd Tryz.func68 rfl rfl rfl rfl .lf (by kernel_rfl) h
def qzi (i_0:Int) (p1:Addr) (p2:Addr) (Q:VWP) (w:World):Prop :=
 lt (World.drew w) fun w1 =>
 ldL w1 p1 fun x2 =>
 ixS x2.a x2.len i_0 20 fun a3 =>
 ldA w1 a3 20 fun c4 =>
 ldA w1 p2 20 fun c5 =>
 qxm 68 [.agg c4,.agg c5] w1 fun r8 w7 =>
 Q (.bool (!r8)) w7
theorem qzi.ok (i_0:Int) (p1:Addr) (p2:Addr) (Q:VWP) (w:World) (h:qzi i_0 p1 p2 Q w):Calls Tryz.prog 67 ⟨[.int .i64 i_0,.pointer (some p1),.pointer (some p2)]⟩ w (Ret Q) :=
 qvb [.tmp 4] qkd Tryz.func67 rfl rfl rfl rfl .lf (by kernel_rfl) h
def qgc.j2 (i_5:Int) (Q:VWP) (w:World):Prop :=
 Q (.int .i64 i_5) w
def qgc.b1 (f_1:(Option Addr × Option Addr)) (i_5 j_6:Int) (Q:VWP) (nx1:(Option Addr × Option Addr)→Int→Int→WP) (w:World):Prop :=
 br (decide (i_5 < j_6)) (
 lt (IntKind.i64.wrap (i_5+j_6)) fun x1 =>
 lt (IntKind.u64.wrap x1) fun x2 =>
 (0:Int)≤1 ∧
 lt (shrV .u64 x2 1) fun x3 =>
 lt (IntKind.i64.wrap x3) fun x4 =>
 qxm 67 [.int .i64 x4,.pointer f_1.1,.pointer f_1.2] w fun r7 w6 =>
 br (!r7) (
 lt (IntKind.i64.wrap (x4+1)) fun x8 =>
 nx1 f_1 x8 j_6 w6) (
 nx1 f_1 i_5 x4 w6)) (
 qgc.j2 i_5 Q w)
def qgc.l1 (f_1:(Option Addr × Option Addr)) (i_5 j_6:Int) (Q:VWP) (w:World):Prop :=
 ∃ (I:Int→Int→WP) (μ:Int→Int→World→Nat),I i_5 j_6 w∧∀ i_5:Int,∀ j_6:Int,∀ w:World,I i_5 j_6 w→qgc.b1 f_1 i_5 j_6 Q (fun f_1' i_5' j_6' w'=>(f_1'=f_1)∧I i_5' j_6' w'∧μ i_5' j_6' w' < μ i_5 j_6 w) w
def qgc.j1 (f_1:(Option Addr × Option Addr)) (i_5 j_6:Int) (Q:VWP) (w:World):Prop :=
 qgc.l1 f_1 i_5 j_6 Q w
def qgc (n_0:Int) (cap1:(Option Addr × Option Addr)) (Q:VWP) (w:World):Prop :=
 qgc.j1 cap1 0 n_0 Q w
theorem qgc.ok (n_0:Int) (cap1:(Option Addr × Option Addr)) (Q:VWP) (w:World) (h:qgc n_0 cap1 Q w):Calls Tryz.prog 66 ⟨[.int .i64 n_0,.func (.func 67) ⟨[]⟩ ⟨[.pointer cap1.1,.pointer cap1.2]⟩]⟩ w (Ret Q) :=
 qvb [.tmp 4] qkd Tryz.func66 rfl rfl rfl rfl (.pr 1 [(1,.d2 67),sI 5,sI 6] (fun a b c w=>qgc.j1 a b c Q w) (.sq [sI 5] (fun a w=>qgc.j2 a Q w) (.bk (.lo [(1,.d2 67)] [sI 5,sI 6] (fun a b c w=>qgc.l1 a b c Q w) (fun nx1 a b c w=>qgc.b1 a b c Q nx1 w) fun nx1=>.lf)) .lf)) (by kernel_rfl) h
def qaj (l_0:Sl) (id_1:(Array Value)) (Q:VWP) (w:World):Prop :=
 nw w ⟨[sV l_0]⟩ 73 fun a1 w2 =>
 nw w2 id_1 39 fun a3 w4 =>
 ldL w4 a1 fun x5 =>
 qri 66 [.int .i64 (x5.len:Int),.func (.func 67) ⟨[]⟩ ⟨[.pointer (some a1),.pointer (some a3)]⟩] w4 fun r8 w7 =>
 lt (World.drew w7) fun w9 =>
 ldL w9 a1 fun x10 =>
 br (decide (r8 < (x10.len:Int))) (
 ldL w9 a1 fun x11 =>
 ixS x11.a x11.len r8 20 fun a12 =>
 ldA w9 a12 20 fun c13 =>
 ldA w9 a3 20 fun c14 =>
 eqA .u8 20 c13 c14 fun x15 =>
 Q (.tuple ⟨[.int .i64 r8,.bool x15]⟩) w9) (
 Q (.tuple ⟨[.int .i64 r8,.bool false]⟩) w9)
theorem qaj.ok (l_0:Sl) (id_1:(Array Value)) (Q:VWP) (w:World) (h:qaj l_0 id_1 Q w):Calls Tryz.prog 33 ⟨[sV l_0,.agg id_1]⟩ w (Ret Q) :=
 qvb [.tmp 4,.tmp 5] qkd Tryz.func33 rfl rfl rfl rfl .lf (by kernel_rfl) h
def qjb.j3 (t2 out_3:Addr) (Q:VWP) (w:World):Prop :=
 ldA w out_3 256 fun c1 =>
 (c1).size=256 ∧
 stA w t2 c1 fun w2 =>
 ldA w2 t2 256 fun c3 =>
 Q (.agg c3) w2
def qjb.b1 (t2 out_3:Addr) (i_6:Int) (Q:VWP) (nx1:Addr→Addr→Int→WP) (w:World):Prop :=
 br (decide (i_6 < 256)) (
 lt (World.drew w) fun w4 =>
 ixA out_3 256 i_6 1 fun a5 =>
 ldI .i64 w4 a5 fun x6 =>
 lt (IntKind.i64.wrap (i_6 - 1)) fun x7 =>
 ixA out_3 256 x7 1 fun a8 =>
 ldI .i64 w4 a8 fun x9 =>
 lt (IntKind.i64.wrap (x6+x9)) fun x10 =>
 ixA out_3 256 i_6 1 fun a11 =>
 st w4 a11 (.int .i64 x10) fun w12 =>
 lt (IntKind.i64.wrap (i_6+1)) fun x13 =>
 nx1 t2 out_3 x13 w12) (
 qjb.j3 t2 out_3 Q w)
def qjb.l1 (t2 out_3:Addr) (i_6:Int) (Q:VWP) (w:World):Prop :=
 ∃ (I:Int→WP) (μ:Int→World→Nat),I i_6 w∧∀ i_6:Int,∀ w:World,I i_6 w→qjb.b1 t2 out_3 i_6 Q (fun t2' out_3' i_6' w'=>(t2'=t2∧out_3'=out_3)∧I i_6' w'∧μ i_6' w' < μ i_6 w) w
def qjb.j4 (t2 out_3:Addr) (i_6:Int) (Q:VWP) (w:World):Prop :=
 qjb.l1 t2 out_3 i_6 Q w
def qjb.j2 (t2 out_3:Addr) (Q:VWP) (w:World):Prop :=
 qjb.j4 t2 out_3 1 Q w
def qjb.b2 (t2 out_3:Addr) (t7:Sl) (t8 t9:Int) (Q:VWP) (nx2:Addr→Addr→Sl→Int→Int→WP) (w:World):Prop :=
 br (decide (t9 < t8)) (
 ixS t7.a t7.len t9 20 fun a14 =>
 ldA w a14 20 fun c15 =>
 nw w (zc Tryz.prog 39) 39 fun a16 w17 =>
 (c15).size=20 ∧
 stA w17 a16 c15 fun w18 =>
 ixA a16 20 0 1 fun a19 =>
 ldI .u8 w18 a19 fun x20 =>
 ixA out_3 256 x20 1 fun a21 =>
 ldI .i64 w18 a21 fun x22 =>
 lt (IntKind.i64.wrap (x22+1)) fun x23 =>
 ixA out_3 256 x20 1 fun a24 =>
 st w18 a24 (.int .i64 x23) fun w25 =>
 lt (IntKind.i64.wrap (t9+1)) fun x26 =>
 nx2 t2 out_3 t7 t8 x26 w25) (
 qjb.j2 t2 out_3 Q w)
def qjb.l2 (t2 out_3:Addr) (t7:Sl) (t8 t9:Int) (Q:VWP) (w:World):Prop :=
 ∃ (I:Int→WP) (μ:Int→World→Nat),I t9 w∧∀ t9:Int,∀ w:World,I t9 w→qjb.b2 t2 out_3 t7 t8 t9 Q (fun t2' out_3' t7' t8' t9' w'=>(t2'=t2∧out_3'=out_3∧t7'=t7∧t8'=t8)∧I t9' w'∧μ t9' w' < μ t9 w) w
def qjb.j5 (t2 out_3:Addr) (t7:Sl) (t8 t9:Int) (Q:VWP) (w:World):Prop :=
 qjb.l2 t2 out_3 t7 t8 t9 Q w
def qjb.j1 (l_0:Sl) (t2:Addr) (out_3:Addr) (Q:VWP) (w:World):Prop :=
 qjb.j5 t2 out_3 l_0 (l_0.len:Int) 0 Q w
def qjb (l_0:Sl) (Q:VWP) (w:World):Prop :=
 nw w (zc Tryz.prog 77) 77 fun a27 w28 =>
 nw w28 (zc Tryz.prog 77) 77 fun a29 w30 =>
 qjb.j1 l_0 a27 a29 Q w30
theorem qjb.ok (l_0:Sl) (Q:VWP) (w:World) (h:qjb l_0 Q w):Calls Tryz.prog 24 ⟨[sV l_0]⟩ w (Ret Q) :=
 qvb [.cell 2 77] qkd Tryz.func24 rfl rfl rfl rfl (.pr 1 [sL 0,sA 2,sA 3] (fun a b c w=>qjb.j1 a b c Q w) (.sq [sA 2,sA 3] (fun a b w=>qjb.j2 a b Q w) (.sq [sA 2,sA 3,sL 7,sI 8,sI 9] (fun a b c d e w=>qjb.j5 a b c d e Q w) .lf (.bk (.lo [sA 2,sA 3,sL 7,sI 8] [sI 9] (fun a b c d e w=>qjb.l2 a b c d e Q w) (fun nx2 a b c d e w=>qjb.b2 a b c d e Q nx2 w) fun nx2=>.lf))) (.sq [sA 2,sA 3] (fun a b w=>qjb.j3 a b Q w) (.sq [sA 2,sA 3,sI 6] (fun a b c w=>qjb.j4 a b c Q w) .lf (.bk (.lo [sA 2,sA 3] [sI 6] (fun a b c w=>qjb.l1 a b c Q w) (fun nx1 a b c w=>qjb.b1 a b c Q nx1 w) fun nx1=>.lf))) .lf))) (by kernel_rfl) h
end Go.Proofs.YtonmgkkkiejicaaGreat
namespace Go.Proofs.YtonmgkkkiejicaaGreat
open Go Go.Proofs
set_option linter.unusedVariables false
set_option linter.unusedSimpArgs false
attribute [local irreducible] apK cpK mkK br
def Ris (A:List Nm):Prop:=A.Pairwise fun x y=>ltI x.1 y.1=true
def posN:List Nm→Nm→Nat
 | [],_=>0
 | a :: A,q=>if ltI a.1 q.1 then posN A q+1 else 0
theorem pos_eq:∀ {A:List Nm} {q:Nm} {i:Nat},i≤A.length→(∀ j (h:j < A.length),j < i→ltI A[j].1 q.1=true)→(∀ h:i < A.length,ltI A[i].1 q.1=false)→posN A q=i:=by
 intro A
 induction A with
 | nil=>intro q i h _ _; simp at h; rw [h]; rfl
 | cons a A ih =>
   intro q i hi h1 h2
   rw [posN]
   cases i with
   | zero =>
     have:=h2 (by simp)
     simp only [List.getElem_cons_zero] at this
     rw [this]; rfl
   | succ i =>
     have:=h1 0 (by simp) (by omega)
     simp only [List.getElem_cons_zero] at this
     rw [this]
     simp only [if_true]
     rw [ih (i:=i) (by simpa using hi) (fun j h hj=>by
      have:=h1 (j+1) (by simpa using h) (by omega)
      simpa using this) (fun h=>by
      have:=h2 (by simpa using h)
      simpa using this)]
theorem ris_get {A:List Nm} (h:Ris A) {i j:Nat} (hij:i < j) (hj:j < A.length):ltI (A[i]'(by omega)).1 A[j].1=true:=(List.pairwise_iff_getElem.1 h) i j (by omega) hj hij
theorem pos_at {A:List Nm} (h:Ris A) {i:Nat} (hi:i < A.length):posN A A[i]=i :=
 pos_eq (by omega) (fun j hj hji=>ris_get h hji hi) (fun _=>qzd _)
section
variable {F0:List Nat} {w0 w:World} {ps rest rest2:List As} {s:Sl} {A P:List Nm} {p q:Nm} {lb ib:Nat} {K:Ending→World→Prop}
theorem qqh.c (h:St F0 w0 w ps) (hk:∀ w',St F0 w0 w' ps→K (.returned (.bool (ltI p.1 q.1))) w'):Calls Tryz.prog 68 ⟨[.agg ⟨nmC p⟩,.agg ⟨nmC q⟩]⟩ w K:=by
 have lenC:∀ p:Nm,(nmC p).length=20:=fun p=>(inferInstance:Rec nmC 20).len p
 refine qsb (qqh.ok _ _ _ _ ?_)
 unfold qqh
 refine h.new fun xb w h=>?_
 refine h.new fun yb w h=>?_
 have h:St F0 w0 w (qt yb (nmC q) :: qt xb (nmC p) :: ps):=h
 refine h.drewK fun w h=>?_
 refine qjc (qjc ?_)
 haveI:Rdb F0 w0 ⟨some ⟨xb,0,none⟩,20,20⟩ (qt yb (nmC q) :: qt xb (nmC p) :: ps) 1 (u8s p.1):=⟨fun h=>by
  have:=(h.toB xb).blk.rdAt (o:=0) (n:=20) (c:=20) (by rw [lenC]; decide)
  rw [List.drop_zero,List.take_of_length_le (by rw [lenC]; decide)] at this
  exact this⟩
 haveI:Rdb F0 w0 ⟨some ⟨yb,0,none⟩,20,20⟩ (qt yb (nmC q) :: qt xb (nmC p) :: ps) 1 (u8s q.1):=⟨fun h=>by
  have:=(h.toB yb).blk.rdAt (o:=0) (n:=20) (c:=20) (by rw [lenC]; decide)
  rw [List.drop_zero,List.take_of_length_le (by rw [lenC]; decide)] at this
  exact this⟩
 refine qye.c (s:=⟨some ⟨xb,0,none⟩,20,20⟩) (t:=⟨some ⟨yb,0,none⟩,20,20⟩) h p.2.2 q.2.2 ⟨_,rfl,?_⟩
 exact hk w h.drop.drop
theorem oid_Find1.c (h:St F0 w0 w ps) [PkB lb ps [.slice s.a s.len s.cap] rest] [PkB ib ps (nmC q) rest2] [Rdb F0 w0 s ps 20 (A.flatMap nmC)] {i:Nat} (hi:i < A.length) (hk:∀ w',St F0 w0 w' ps→K (.returned (.bool (!ltI A[i].1 q.1))) w') :
 Calls Tryz.prog 67 ⟨[.int .i64 (i:Int),.pointer (some ⟨lb,0,none⟩),.pointer (some ⟨ib,0,none⟩)]⟩ w K:=by
 refine qsb (qzi.ok _ _ _ _ _ ?_)
 unfold qzi
 refine h.drewK fun w h=>?_
 refine h.fL (b:=lb) ?_
 refine h.lr (s:=s) (L:=A) i rfl hi ?_
 refine h.lA (b:=ib) ((inferInstance:Rec nmC 20).len q) ?_
 refine qqh.c h fun w h=>⟨_,rfl,?_⟩
 exact hk w h
theorem Search.c (h:St F0 w0 w ps) [PkB lb ps [.slice s.a s.len s.cap] rest] [PkB ib ps (nmC q) rest2] [Rdb F0 w0 s ps 20 (A.flatMap nmC)] (hA:Ris A) (hL:A.length≤1000000) (hk:∀ w',St F0 w0 w' ps→K (.returned (.int .i64 (posN A q:Int))) w') :
 Calls Tryz.prog 66 ⟨[.int .i64 (A.length:Int),.func (.func 67) ⟨[]⟩ ⟨[.pointer (some ⟨lb,0,none⟩),.pointer (some ⟨ib,0,none⟩)]⟩]⟩ w K:=by
 refine qsb (qgc.ok _ (some ⟨lb,0,none⟩,some ⟨ib,0,none⟩) _ _ ?_)
 unfold qgc qgc.j1
 refine loop2 (fun (a:Nat × Nat) (i' j':Int) w'=>i'=(a.1:Int)∧j'=(a.2:Int)∧a.1≤a.2∧a.2≤A.length∧(∀ k (h:k < A.length),k < a.1→ltI A[k].1 q.1=true)∧(∀ k (h:k < A.length),a.2≤k→ltI A[k].1 q.1=false)∧St F0 w0 w' ps) (fun a=>a.2 - a.1) (0,A.length)
  ⟨rfl,rfl,Nat.zero_le _,Nat.le_refl _,fun k _ hk=>by simp only at hk; omega,fun k h1 h2=>by simp only at h2; omega,h⟩ ?_
 clear h
 rintro ⟨i,j⟩ _ _ wL I μ ⟨rfl,rfl,hij,hj,h1,h2,h⟩ hin
 simp only at hij hj h1 h2 h hin ⊢
 unfold qgc.b1
 refine qsc (fun g=>?_) (fun g=>?_)
 · have hm:(i+j) / 2 < A.length:=by omega
   refine qx (e':=((i+j:Nat):Int)) (by rw [qh (by omega) (by omega)]; omega) ?_
   refine qx (e':=((i+j:Nat):Int)) (by rw [qle]; omega) ⟨by decide,?_⟩
   refine qx (qoh .u64 ((i+j:Nat):Int) (t:=1) (by decide)) ?_
   refine qx (e':=(((i+j) / 2:Nat):Int)) (by rw [qh (by omega) (by omega)]; omega) ?_
   refine oid_Find1.c (A:=A) (s:=s) (q:=q) (lb:=lb) (ib:=ib) h hm fun w h=>⟨_,rfl,?_⟩
   refine qmd (fun g2=>?_) (fun g2=>?_)
   · have g2:ltI A[(i+j) / 2].1 q.1=true:=by simpa using g2
     refine qx (e':=(((i+j) / 2+1:Nat):Int)) (by rw [qh (by omega) (by omega)]; rfl) ?_
     refine ⟨rfl,hin ((i+j) / 2+1,j) _ _ _ ⟨rfl,rfl,by simp only; omega,hj,fun k hkl hki=>?_,h2,h⟩ (by simp only; omega)⟩
     simp only at hki
     by_cases e:k=(i+j) / 2
     · subst e; exact g2
     · exact qki (ris_get hA (by omega) hm) g2
   · have g2:ltI A[(i+j) / 2].1 q.1=false:=by simpa using g2
     refine ⟨rfl,hin (i,(i+j) / 2) _ _ _ ⟨rfl,rfl,by simp only; omega,by simp only; omega,h1,fun k hkl hki=>?_,h⟩ (by simp only; omega)⟩
     simp only at hki
     by_cases e:k=(i+j) / 2
     · subst e; exact g2
     · cases hc:ltI A[k].1 q.1 with
       | false=>rfl
       | true =>
         have:=qki (ris_get hA (i:=(i+j) / 2) (j:=k) (by omega) hkl) hc
         rw [g2] at this
         cases this
 · have:i=j:=by omega
   subst this
   unfold qgc.j2
   have:=hk wL h
   rw [pos_eq hj h1 (fun hh=>h2 i hh (Nat.le_refl _))] at this
   exact this
theorem qaj.c (h:St F0 w0 w ps) [Rdb F0 w0 s ps 20 (A.flatMap nmC)] (hA:Ris A) (hL:A.length≤1000000) (hk:∀ w',St F0 w0 w' ps→K (.returned (.tuple ⟨[.int .i64 (posN A q:Int),.bool (decide (q ∈ A))]⟩)) w') :
 Calls Tryz.prog 33 ⟨[sV s,.agg ⟨nmC q⟩]⟩ w K:=by
 have lenC:∀ p:Nm,(nmC p).length=20:=fun p=>(inferInstance:Rec nmC 20).len p
 have hl:=h.rlen (s:=s) (f:=nmC) (L:=A)
 refine qsb (qaj.ok _ _ _ _ ?_)
 unfold qaj
 refine h.new fun lb w h=>?_
 refine h.new fun ib w h=>?_
 have h:St F0 w0 w (qt ib (nmC q) :: qt lb [.slice s.a s.len s.cap] :: ps):=h
 refine h.fL (b:=lb) ?_
 rw [← hl]
 refine Search.c (A:=A) (s:=s) (q:=q) (lb:=lb) (ib:=ib) h hA hL fun w h=>⟨_,rfl,?_⟩
 refine h.drewK fun w h=>?_
 refine h.fL (b:=lb) ?_
 have hno:∀ i,i=posN A q→(∀ hh:i < A.length,A[i] ≠ q)→decide (q ∈ A)=false:=by
  intro i hi hh
  refine decide_eq_false fun hm=>?_
  obtain ⟨j,hj,e⟩:=List.getElem_of_mem hm
  have:=pos_at hA hj
  rw [e,← hi] at this
  subst this
  exact hh hj e
 refine qsc (fun g=>?_) (fun g=>?_)
 · have g:(posN A q:Int) < (s.len:Int):=g
   have hlt:posN A q < A.length:=by omega
   refine h.fL (b:=lb) ?_
   refine h.lr (s:=s) (L:=A) (posN A q) rfl hlt ?_
   refine h.lA (b:=ib) (lenC q) ?_
   refine eqA_i (xs:=A[posN A q].1) (ys:=q.1) (by have:=A[posN A q].2.1; exact this) q.2.1 ?_
   have hr:=hk w h.drop.drop
   by_cases e:A[posN A q]=q
   · have:decide (q ∈ A)=true:=decide_eq_true (e ▸ List.getElem_mem hlt)
     rw [this] at hr
     rw [e,beq_self_eq_true]
     exact hr
   · rw [hno _ rfl (fun _=>e)] at hr
     have:(A[posN A q].1 == q.1)=false:=beq_eq_false_iff_ne.2 fun h=>e (Nm.ext' h)
     rw [this]
     exact hr
 · have g:¬ (posN A q:Int) < (s.len:Int):=g
   have hr:=hk w h.drop.drop
   rw [hno _ rfl (fun hh=>by exfalso; omega)] at hr
   exact hr
end
end Go.Proofs.YtonmgkkkiejicaaGreat
namespace Go.Proofs.YtonmgkkkiejicaaGreat
set_option linter.unusedVariables false
set_option linter.unusedSimpArgs false
theorem lext {l m:List Int} (hl:l.length=m.length) (h:∀ j,j < l.length→l.getD j 0=m.getD j 0):l=m:=by
 apply List.ext_getElem hl
 intro j h1 h2
 have:=h j h1
 simpa [List.getD,List.getElem?_eq_getElem h1,List.getElem?_eq_getElem h2] using this
theorem getD_setL {l:List Int} {i j:Nat} {v:Int} (h:i < l.length):(l.set i v).getD j 0=if i=j then v else l.getD j 0:=by
 rw [List.getD_eq_getElem?_getD,List.getElem?_set]
 split
 · rename_i e; subst e; simp [h]
 · rw [List.getD_eq_getElem?_getD]
theorem qkh {xs:List Int} {i:Nat} (h:i < xs.length):xs.take (i+1)=xs.take i ++ [xs.getD i 0]:=by
 rw [List.take_succ_eq_append_getElem h]
 simp [List.getD,List.getElem?_eq_getElem h]
theorem mem_getD {xs:List Int} {i:Nat} (h:i < xs.length):xs.getD i 0 ∈ xs:=by simp [List.getD,List.getElem?_eq_getElem h]
def qcj (n:Nat) (f:Nat→Int):List Int:=(List.range n).map f
theorem qyc (n:Nat) (f:Nat→Int):(qcj n f).length=n:=by simp [qcj]
theorem qcf {n i:Nat} {f:Nat→Int} (h:i < n):(qcj n f).getD i 0=f i:=by
 unfold qcj
 rw [List.getD_eq_getElem?_getD,List.getElem?_map,List.getElem?_range h]
 rfl
theorem qof {n:Nat} {f g:Nat→Int} (h:∀ i,i < n→f i=g i):qcj n f=qcj n g:=by
 unfold qcj
 exact List.map_congr_left fun i hi=>h i (List.mem_range.1 hi)
theorem set_mapR {n i:Nat} {f:Nat→Int} {v:Int}:(qcj n f).set i v=qcj n fun m=>if m=i then v else f m:=by
 apply lext
 · simp [qcj]
 · intro j hj
   rw [List.length_set,qyc] at hj
   rw [qcf hj]
   by_cases hi:i < n
   · rw [getD_setL (by rw [qyc]; exact hi),qcf hj]
     by_cases e:i=j
     · rw [if_pos e,if_pos e.symm]
     · rw [if_neg e,if_neg fun h=>e h.symm]
   · rw [List.set_eq_of_length_le (by rw [qyc]; omega),qcf hj,if_neg (by omega)]
theorem rep_mapR (n:Nat):List.replicate n 0=qcj n fun _=>0:=by
 apply lext
 · simp [qcj]
 · intro j hj
   have hj:j < n:=by simpa using hj
   rw [qcf hj]
   simp [List.getD,List.getElem?_replicate,hj]
end Go.Proofs.YtonmgkkkiejicaaGreat
namespace Go.Proofs.YtonmgkkkiejicaaGreat
open Go Go.Proofs
set_option linter.unusedVariables false
set_option linter.unusedSimpArgs false
attribute [local irreducible] apK cpK mkK br
def hd0 (a:Nm):Int:=a.1.getD 0 0
theorem hd0_b (a:Nm):0≤hd0 a∧hd0 a < 256:=by
 unfold hd0
 have h:0 < a.1.length:=by rw [a.2.1]; decide
 exact a.2.2 _ (mem_getD h)
def cntE (A:List Nm) (m:Nat):Nat:=A.countP fun a=>decide (hd0 a=(m:Int))
def qai (A:List Nm) (m:Nat):Nat:=A.countP fun a=>decide (hd0 a≤(m:Int))
def fanL (A:List Nm):List Int:=qcj 256 fun m=>(qai A m:Int)
theorem cntL_0 (A:List Nm):qai A 0=cntE A 0:=by
 unfold qai cntE
 apply List.countP_congr
 intro a _
 have:=hd0_b a
 simp only [decide_eq_true_eq]
 omega
theorem cntL_s (A:List Nm) (m:Nat):qai A (m+1)=cntE A (m+1)+qai A m:=by
 unfold qai cntE
 induction A with
 | nil=>rfl
 | cons a A ih =>
   rw [List.countP_cons,List.countP_cons,List.countP_cons,ih]
   by_cases h1:hd0 a=((m+1:Nat):Int)
   · have h2:hd0 a≤((m+1:Nat):Int):=by omega
     have h3:¬ hd0 a≤(m:Int):=by omega
     simp only [decide_eq_true h1,decide_eq_true h2,decide_eq_false h3,if_true,Bool.false_eq_true,if_false]
     omega
   · by_cases h3:hd0 a≤(m:Int)
     · have h2:hd0 a≤((m+1:Nat):Int):=by omega
       simp only [decide_eq_false h1,decide_eq_true h2,decide_eq_true h3,if_true,Bool.false_eq_true,if_false]
       omega
     · have h2:¬ hd0 a≤((m+1:Nat):Int):=by omega
       simp only [decide_eq_false h1,decide_eq_false h2,decide_eq_false h3,Bool.false_eq_true,if_false]
       omega
theorem zc_256:zc Tryz.prog 77=⟨ivs .i64 (List.replicate 256 0)⟩:=by kernel_rfl
section
variable {F0:List Nat} {w0 w:World} {ps rest:List As} {s:Sl} {A:List Nm} {K:Ending→World→Prop}
theorem qjb.c (h:St F0 w0 w ps) [Rdb F0 w0 s ps 20 (A.flatMap nmC)] (hL:A.length≤1000000) (hk:∀ w',St F0 w0 w' ps→K (.returned (.agg ⟨ivs .i64 (fanL A)⟩)) w') :
 Calls Tryz.prog 24 ⟨[sV s]⟩ w K:=by
 have hl:=h.rlen (s:=s) (f:=nmC) (L:=A)
 refine qsb (qjb.ok _ _ _ ?_)
 unfold qjb
 rw [zc_256]
 refine h.new fun tb w h=>?_
 refine h.new fun ob w h=>?_
 have h:St F0 w0 w (qt ob (ivs .i64 (List.replicate 256 0)) :: qt tb (ivs .i64 (List.replicate 256 0)) :: ps):=h
 rw [rep_mapR] at h
 unfold qjb.j1 qjb.j5
 refine qud (fun (i:Nat) (i':Int) w'=>i'=(i:Int)∧i≤A.length∧St F0 w0 w' (qt ob (ivs .i64 (qcj 256 fun m=>(cntE (A.take i) m:Int))) :: qt tb (ivs .i64 (qcj 256 fun _=>0)) :: ps)) (fun i=>A.length - i) 0 ⟨rfl,Nat.zero_le _,h⟩ ?_
 clear h
 rintro i _ wL I μ ⟨rfl,hi,h⟩ hin
 unfold qjb.b2
 refine qsc (fun g=>?_) (fun g=>?_)
 · have hix:i < A.length:=by omega
   refine h.lr (s:=s) (L:=A) i rfl hix ?_
   have hsn:∀ m,cntE (A.take (i+1)) m=cntE (A.take i) m+if hd0 A[i]=(m:Int) then 1 else 0:=fun m=>by
    unfold cntE
    rw [List.take_succ_eq_append_getElem hix,List.countP_append,List.countP_singleton]
    simp
   have hle:∀ m,cntE (A.take i) m≤1000000:=fun m=>Nat.le_trans List.countP_le_length (by rw [List.length_take]; omega)
   generalize A[i]=a at hsn ⊢
   obtain ⟨b0,b1⟩:=hd0_b a
   refine h.newNm (p:=a) fun xb w h=>?_
   have h:St F0 w0 w (qt xb (ivs .u8 a.1) :: qt ob (ivs .i64 (qcj 256 fun m=>(cntE (A.take i) m:Int))) :: qt tb (ivs .i64 (qcj 256 fun _=>0)) :: ps):=h
   refine h.la (b:=xb) (k:=.u8) 0 rfl a.2.1 (by decide) ?_
   have hb:a.1.getD 0 0=((hd0 a).toNat:Int):=by unfold hd0 at b0 ⊢; omega
   rw [hb]
   generalize hm:(hd0 a).toNat=m
   have hm2:m < 256:=by omega
   refine h.la (b:=ob) (k:=.i64) m rfl (qyc _ _) hm2 ?_
   rw [qcf hm2]
   have:=hle m
   refine qx (e':=((cntE (A.take i) m+1:Nat):Int)) (by rw [qh (by omega) (by omega)]; rfl) ?_
   refine h.sa (b:=ob) (k:=.i64) m rfl (qyc _ _) hm2 fun w h=>?_
   rw [set_mapR] at h
   have e:(qcj 256 fun q=>if q=m then ((cntE (A.take i) m+1:Nat):Int) else (cntE (A.take i) q:Int))=qcj 256 fun q=>(cntE (A.take (i+1)) q:Int):=qof fun q hq=>by
    rw [hsn q]
    by_cases e:q=m
    · subst e
      rw [if_pos rfl,if_pos (by omega)]
    · rw [if_neg e,if_neg (by omega)]
      omega
   rw [e] at h
   refine qx (e':=((i+1:Nat):Int)) (by rw [qh (by omega) (by omega)]; rfl) ?_
   exact ⟨⟨rfl,rfl,rfl,rfl⟩,hin (i+1) _ _ ⟨rfl,by omega,h.sub⟩ (by omega)⟩
 · have:i=A.length:=by omega
   subst this
   rw [List.take_length] at h
   clear hin
   unfold qjb.j2 qjb.j4
   have hle:∀ m,qai A m≤1000000:=fun m=>Nat.le_trans List.countP_le_length hL
   have e0:(qcj 256 fun m=>(cntE A m:Int))=qcj 256 fun m=>if m < 1 then (qai A m:Int) else (cntE A m:Int):=qof fun m hm=>by
    by_cases e:m < 1
    · have:m=0:=by omega
      subst this
      rw [if_pos e,cntL_0]
    · rw [if_neg e]
   rw [e0] at h
   refine qud (fun (i:Nat) (i':Int) w'=>i'=(i:Int)∧1≤i∧i≤256∧St F0 w0 w' (qt ob (ivs .i64 (qcj 256 fun m=>if m < i then (qai A m:Int) else (cntE A m:Int))) :: qt tb (ivs .i64 (qcj 256 fun _=>0)) :: ps)) (fun i=>256 - i) 1 ⟨rfl,Nat.le_refl _,by omega,h⟩ ?_
   clear h
   rintro i _ wL I μ ⟨rfl,hi0,hi,h⟩ hin
   unfold qjb.b1
   refine qsc (fun g=>?_) (fun g=>?_)
   · have hi2:i < 256:=by omega
     refine h.drewK fun w h=>?_
     refine h.la (b:=ob) (k:=.i64) i rfl (qyc _ _) hi2 ?_
     rw [qcf hi2,if_neg (Nat.lt_irrefl _)]
     refine qx (e':=((i - 1:Nat):Int)) (by rw [qh (by omega) (by omega)]; omega) ?_
     refine h.la (b:=ob) (k:=.i64) (i - 1) rfl (qyc _ _) (by omega) ?_
     rw [qcf (by omega),if_pos (by omega)]
     have e1:=cntL_s A (i - 1)
     rw [show i - 1+1=i by omega] at e1
     have:=hle i
     refine qx (e':=(qai A i:Int)) (by rw [qh (by omega) (by omega)]; omega) ?_
     refine h.sa (b:=ob) (k:=.i64) i rfl (qyc _ _) hi2 fun w h=>?_
     rw [set_mapR] at h
     have e:(qcj 256 fun m=>if m=i then (qai A i:Int) else if m < i then (qai A m:Int) else (cntE A m:Int))=qcj 256 fun m=>if m < i+1 then (qai A m:Int) else (cntE A m:Int):=qof fun m hm=>by
      by_cases e:m=i
      · subst e; rw [if_pos rfl,if_pos (by omega)]
      · rw [if_neg e]
        by_cases e2:m < i
        · rw [if_pos e2,if_pos (by omega)]
        · rw [if_neg e2,if_neg (by omega)]
     rw [e] at h
     refine qx (e':=((i+1:Nat):Int)) (by rw [qh (by omega) (by omega)]; rfl) ?_
     exact ⟨⟨rfl,rfl⟩,hin (i+1) _ _ ⟨rfl,by omega,by omega,h⟩ (by omega)⟩
   · have:i=256:=by omega
     subst this
     have e:(qcj 256 fun m=>if m < 256 then (qai A m:Int) else (cntE A m:Int))=fanL A:=qof fun m hm=>if_pos hm
     rw [e] at h
     have hfl:(ivs .i64 (fanL A)).length=256:=by rw [qw]; exact qyc _ _
     unfold qjb.j3
     refine h.lA (b:=ob) hfl ⟨hfl,?_⟩
     refine h.sA (b:=tb) (l':=ivs .i64 (fanL A)) (by rw [qw]; exact qyc _ _) hfl qvd fun w h=>?_
     refine h.lA (b:=tb) hfl ?_
     exact hk w h.sub
end
end Go.Proofs.YtonmgkkkiejicaaGreat
namespace Go.Proofs.YtonmgkkkiejicaaGreat
open Go Go.Proofs Go.Sort
set_option linter.unusedVariables false
set_option linter.unusedSimpArgs false
attribute [local irreducible] apK cpK mkK br
theorem wr64 {x:Int} {n:Nat} (h:x=n) (hn:n < 9223372036854775808):IntKind.i64.wrap x=(n:Int):=by rw [h,qh (by omega) (by omega)]
section
variable {F0:List Nat} {w0 w:World} {ps rest:List As} {s:Sl} {d:Array Nd}
end
end Go.Proofs.YtonmgkkkiejicaaGreat
namespace Go.Proofs.YtonmgkkkiejicaaGreat
open Go Go.Proofs Go.Sort
set_option linter.unusedVariables false
set_option linter.unusedSimpArgs false
attribute [local irreducible] apK cpK mkK br
theorem permIn_all' {a b:Nat} {d d':Array Nd} (hb:b≤d.size) (h:PermIn a b d d'):d'.toList.Perm d.toList:=by
 have h0:PermIn 0 d.size d d':=permIn_mono _ _ a b 0 d.size (Nat.zero_le _) hb (Nat.le_refl _) h
 have h1:=h0.2.2
 have e1:d.extract 0 d.size=d:=by simp
 have e2:d'.extract 0 d.size=d':=by rw [← h0.1]; simp
 rw [e1,e2] at h1
 exact h1
def Dst (d:Array Nd):Prop:=(d.toList.map (·.id)).Nodup
theorem Dst.perm {a b:Nat} {d d':Array Nd} (hd:Dst d) (hb:b≤d.size) (h:PermIn a b d d'):Dst d' :=
 (List.Perm.nodup_iff ((permIn_all' hb h).map (fun x:Nd=>x.id))).2 hd
section
variable {F0:List Nat} {w0 w:World} {ps rest:List As} {s:Sl} {d:Array Nd}
end
end Go.Proofs.YtonmgkkkiejicaaGreat
namespace Go.Proofs.YtonmgkkkiejicaaGreat
open Go Go.Proofs
set_option linter.unusedVariables false
set_option linter.unusedSimpArgs false
attribute [local irreducible] apK cpK mkK br
def atD:List Nd→Nm→Int
 | [],_=>-1
 | n :: L,q=>if n.id=q.1 then 0 else if atD L q < 0 then -1 else atD L q+1
theorem atD_hit:∀ {L:List Nd} {q:Nm} {i:Nat} (hi:i < L.length),L[i].id=q.1→(∀ j (h:j < L.length),j < i→L[j].id ≠ q.1)→atD L q=i:=by
 intro L
 induction L with
 | nil=>intro q i hi; simp at hi
 | cons n L ih =>
   intro q i hi h1 h2
   rw [atD]
   cases i with
   | zero =>
     simp only [List.getElem_cons_zero] at h1
     rw [if_pos h1]; rfl
   | succ i =>
     have h0:=h2 0 (by simp) (by omega)
     simp only [List.getElem_cons_zero] at h0
     have:=ih (q:=q) (i:=i) (by simpa using hi) (by simpa using h1) (fun j hj hji=>by
      have:=h2 (j+1) (by simpa using hj) (by omega)
      simpa using this)
     rw [if_neg h0,this,if_neg (by omega)]
     rfl
section
variable {F0:List Nat} {w0 w:World} {ps rest:List As} {s:Sl} {L:List Nd} {n:Nd} {P:List Nm} {q:Nm} {pr:Nd→List Nm} {K:Ending→World→Prop}
end
end Go.Proofs.YtonmgkkkiejicaaGreat
namespace Go.Proofs.YtonmgkkkiejicaaGreat
open Go Go.Proofs
set_option linter.unusedVariables false
set_option maxRecDepth 100000
def qlb.j2  (Q:VWP) (w:World):Prop :=
 Q (.bool false) w
def qlb.b1 (a_2 b_3:Addr) (i_5:Int) (Q:VWP) (nx1:Addr→Addr→Int→WP) (w:World):Prop :=
 br (decide (i_5 < 20)) (
 lt (World.drew w) fun w1 =>
 ixA a_2 20 i_5 1 fun a2 =>
 ldI .u8 w1 a2 fun x3 =>
 ixA b_3 20 i_5 1 fun a4 =>
 ldI .u8 w1 a4 fun x5 =>
 br (x3 != x5) (
 lt (World.drew w1) fun w6 =>
 ixA a_2 20 i_5 1 fun a7 =>
 ldI .u8 w6 a7 fun x8 =>
 ixA b_3 20 i_5 1 fun a9 =>
 ldI .u8 w6 a9 fun x10 =>
 Q (.bool (decide (x8 < x10))) w6) (
 lt (IntKind.i64.wrap (i_5+1)) fun x11 =>
 nx1 a_2 b_3 x11 w1)) (
 qlb.j2 Q w)
def qlb.l1 (a_2 b_3:Addr) (i_5:Int) (Q:VWP) (w:World):Prop :=
 ∃ (I:Int→WP) (μ:Int→World→Nat),I i_5 w∧∀ i_5:Int,∀ w:World,I i_5 w→qlb.b1 a_2 b_3 i_5 Q (fun a_2' b_3' i_5' w'=>(a_2'=a_2∧b_3'=b_3)∧I i_5' w'∧μ i_5' w' < μ i_5 w) w
def qlb.j3 (a_2 b_3:Addr) (i_5:Int) (Q:VWP) (w:World):Prop :=
 qlb.l1 a_2 b_3 i_5 Q w
def qlb.j1 (a_2 b_3:Addr) (Q:VWP) (w:World):Prop :=
 qlb.j3 a_2 b_3 0 Q w
def qlb (a_0:(Array Value)) (b_1:(Array Value)) (Q:VWP) (w:World):Prop :=
 nw w a_0 38 fun a12 w13 =>
 nw w13 b_1 38 fun a14 w15 =>
 qlb.j1 a12 a14 Q w15
theorem qlb.ok (a_0:(Array Value)) (b_1:(Array Value)) (Q:VWP) (w:World) (h:qlb a_0 b_1 Q w):Calls Tryz.prog 38 ⟨[.agg a_0,.agg b_1]⟩ w (Ret Q) :=
 qvb [.tmp 4] qkd Tryz.func38 rfl rfl rfl rfl (.sq [sA 2,sA 3] (fun a b w=>qlb.j1 a b Q w) .lf (.sq [] (fun  w=>qlb.j2 Q w) (.sq [sA 2,sA 3,sI 5] (fun a b c w=>qlb.j3 a b c Q w) .lf (.bk (.lo [sA 2,sA 3] [sI 5] (fun a b c w=>qlb.l1 a b c Q w) (fun nx1 a b c w=>qlb.b1 a b c Q nx1 w) fun nx1=>.lf))) .lf)) (by kernel_rfl) h
def qu.j2 (out_3:Sl) (Q:VWP) (w:World):Prop :=
 Q (sV out_3) w
def qu.j5 (l_0 out_3:Sl) (i_4:Int) (Q:VWP) (nx1:Sl→Sl→Int→WP) (w:World):Prop :=
 lt (IntKind.i64.wrap (i_4+1)) fun x1 =>
 nx1 l_0 out_3 x1 w
def qu.b2 (l_0 out_3:Sl) (i_4:Int) (k_5:Int) (Q:VWP) (nx1:Sl→Sl→Int→WP) (nx2:Sl→Sl→Int→Int→WP) (w:World):Prop :=
 br (decide (k_5 < 256)) (
 ixS out_3.a out_3.len k_5 1 fun a2 =>
 ldI .i64 w a2 fun x3 =>
 lt (IntKind.i64.wrap (x3+1)) fun x4 =>
 ixS out_3.a out_3.len k_5 1 fun a5 =>
 st w a5 (.int .i64 x4) fun w6 =>
 lt (IntKind.i64.wrap (k_5+1)) fun x7 =>
 nx2 l_0 out_3 i_4 x7 w6) (
 qu.j5 l_0 out_3 i_4 Q nx1 w)
def qu.l2 (l_0 out_3:Sl) (i_4:Int) (k_5:Int) (Q:VWP) (nx1:Sl→Sl→Int→WP) (w:World):Prop :=
 ∃ (I:Int→WP) (μ:Int→World→Nat),I k_5 w∧∀ k_5:Int,∀ w:World,I k_5 w→qu.b2 l_0 out_3 i_4 k_5 Q nx1 (fun l_0' out_3' i_4' k_5' w'=>(l_0'=l_0∧out_3'=out_3∧i_4'=i_4)∧I k_5' w'∧μ k_5' w' < μ k_5 w) w
def qu.j6 (l_0 out_3:Sl) (i_4:Int) (k_5:Int) (Q:VWP) (nx1:Sl→Sl→Int→WP) (w:World):Prop :=
 qu.l2 l_0 out_3 i_4 k_5 Q nx1 w
def qu.j4 (l_0 out_3:Sl) (i_4:Int) (Q:VWP) (nx1:Sl→Sl→Int→WP) (w:World):Prop :=
 ixS l_0.a l_0.len i_4 20 fun a8 =>
 ixA a8 20 0 1 fun a9 =>
 ldI .u8 w a9 fun x10 =>
 lt (IntKind.i64.wrap x10) fun x11 =>
 qu.j6 l_0 out_3 i_4 x11 Q nx1 w
def qu.b1 (l_0 out_3:Sl) (i_4:Int) (Q:VWP) (nx1:Sl→Sl→Int→WP) (w:World):Prop :=
 br (decide (i_4 < (l_0.len:Int))) (
 qu.j4 l_0 out_3 i_4 Q nx1 w) (
 qu.j2 out_3 Q w)
def qu.l1 (l_0 out_3:Sl) (i_4:Int) (Q:VWP) (w:World):Prop :=
 ∃ (I:Int→WP) (μ:Int→World→Nat),I i_4 w∧∀ i_4:Int,∀ w:World,I i_4 w→qu.b1 l_0 out_3 i_4 Q (fun l_0' out_3' i_4' w'=>(l_0'=l_0∧out_3'=out_3)∧I i_4' w'∧μ i_4' w' < μ i_4 w) w
def qu.j3 (l_0 out_3:Sl) (i_4:Int) (Q:VWP) (w:World):Prop :=
 qu.l1 l_0 out_3 i_4 Q w
def qu.j1 (l_0 out_3:Sl) (Q:VWP) (w:World):Prop :=
 qu.j3 l_0 out_3 0 Q w
def qu (l_0:Sl) (Q:VWP) (w:World):Prop :=
 mkK Tryz.prog 3 w 256 256 fun s12 w13 =>
 qu.j1 l_0 s12 Q w13
theorem qu.ok (l_0:Sl) (Q:VWP) (w:World) (h:qu l_0 Q w):Calls Tryz.prog 72 ⟨[sV l_0]⟩ w (Ret Q) :=
 qvb [.tmp 2] qkd Tryz.func72 rfl rfl rfl rfl (.pr 1 [sL 0,sL 3] (fun a b w=>qu.j1 a b Q w) (.sq [sL 3] (fun a w=>qu.j2 a Q w) (.sq [sL 0,sL 3,sI 4] (fun a b c w=>qu.j3 a b c Q w) .lf (.bk (.lo [sL 0,sL 3] [sI 4] (fun a b c w=>qu.l1 a b c Q w) (fun nx1 a b c w=>qu.b1 a b c Q nx1 w) fun nx1=>(.sq [sL 0,sL 3,sI 4] (fun a b c w=>qu.j4 a b c Q nx1 w) .lf (.sq [sL 0,sL 3,sI 4] (fun a b c w=>qu.j5 a b c Q nx1 w) (.bk (.sq [sL 0,sL 3,sI 4,sI 5] (fun a b c d w=>qu.j6 a b c d Q nx1 w) .lf (.bk (.lo [sL 0,sL 3,sI 4] [sI 5] (fun a b c d w=>qu.l2 a b c d Q nx1 w) (fun nx2 a b c d w=>qu.b2 a b c d Q nx1 nx2 w) fun nx2=>.lf)))) .lf))))) .lf)) (by kernel_rfl) h
def qib.j2  (Q:VWP) (w:World):Prop :=
 Q (.bool true) w
def qib.b1 (a_0 b_1:Sl) (i_5:Int) (Q:VWP) (nx1:Sl→Sl→Int→WP) (w:World):Prop :=
 br (decide (i_5 < (a_0.len:Int))) (
 lt (World.drew w) fun w1 =>
 ixS a_0.a a_0.len i_5 20 fun a2 =>
 ldA w1 a2 20 fun c3 =>
 ixS b_1.a b_1.len i_5 20 fun a4 =>
 ldA w1 a4 20 fun c5 =>
 eqA .u8 20 c3 c5 fun x6 =>
 br (!x6) (
 Q (.bool false) w1) (
 lt (IntKind.i64.wrap (i_5+1)) fun x7 =>
 nx1 a_0 b_1 x7 w1)) (
 qib.j2 Q w)
def qib.l1 (a_0 b_1:Sl) (i_5:Int) (Q:VWP) (w:World):Prop :=
 ∃ (I:Int→WP) (μ:Int→World→Nat),I i_5 w∧∀ i_5:Int,∀ w:World,I i_5 w→qib.b1 a_0 b_1 i_5 Q (fun a_0' b_1' i_5' w'=>(a_0'=a_0∧b_1'=b_1)∧I i_5' w'∧μ i_5' w' < μ i_5 w) w
def qib.j3 (a_0 b_1:Sl) (i_5:Int) (Q:VWP) (w:World):Prop :=
 qib.l1 a_0 b_1 i_5 Q w
def qib.j1 (a_0 b_1:Sl) (Q:VWP) (w:World):Prop :=
 qib.j3 a_0 b_1 0 Q w
def qib (a_0 b_1:Sl) (Q:VWP) (w:World):Prop :=
 br ((a_0.len:Int) != (b_1.len:Int)) (
 Q (.bool false) w) (
 qib.j1 a_0 b_1 Q w)
theorem qib.ok (a_0:Sl) (b_1:Sl) (Q:VWP) (w:World) (h:qib a_0 b_1 Q w):Calls Tryz.prog 41 ⟨[sV a_0,sV b_1]⟩ w (Ret Q) :=
 qvb [.tmp 4] qkd Tryz.func41 rfl rfl rfl rfl (.pr 1 [sL 0,sL 1] (fun a b w=>qib.j1 a b Q w) (.sq [] (fun  w=>qib.j2 Q w) (.sq [sL 0,sL 1,sI 5] (fun a b c w=>qib.j3 a b c Q w) .lf (.bk (.lo [sL 0,sL 1] [sI 5] (fun a b c w=>qib.l1 a b c Q w) (fun nx1 a b c w=>qib.b1 a b c Q nx1 w) fun nx1=>.lf))) .lf)) (by kernel_rfl) h
end Go.Proofs.YtonmgkkkiejicaaGreat
namespace Go.Proofs.YtonmgkkkiejicaaGreat
open Go Go.Proofs
set_option linter.unusedVariables false
set_option linter.unusedSimpArgs false
attribute [local irreducible] apK cpK mkK br
theorem ltI_at:∀ {i:Nat} {a b:List Int},i < a.length→i < b.length→a.take i=b.take i→a.getD i 0 ≠ b.getD i 0→ltI a b=decide (a.getD i 0 < b.getD i 0):=by
 intro i
 induction i with
 | zero =>
   intro a b ha hb _ hne
   cases a with
   | nil=>simp at ha
   | cons x a =>
     cases b with
     | nil=>simp at hb
     | cons y b =>
       have hne:x ≠ y:=by simpa using hne
       show ltI (x :: a) (y :: b)=decide (x < y)
       unfold ltI
       rw [cmpI]
       by_cases h:x < y
       · rw [if_pos h,decide_eq_true h]; rfl
       · rw [if_neg h,if_pos (by omega),decide_eq_false h]; rfl
 | succ i ih =>
   intro a b ha hb ht hne
   cases a with
   | nil=>simp at ha
   | cons x a =>
     cases b with
     | nil=>simp at hb
     | cons y b =>
       rw [List.take_succ_cons,List.take_succ_cons] at ht
       injection ht with h1 h2
       subst h1
       have:=ih (a:=a) (b:=b) (by simpa using ha) (by simpa using hb) h2 (by simpa using hne)
       have e:ltI (x :: a) (x :: b)=ltI a b:=by
        unfold ltI
        rw [cmpI,if_neg (by omega),if_neg (by omega)]
       rw [e,this]
       simp
section
variable {F0:List Nat} {w0 w:World} {ps rest:List As} {p q:Nm} {K:Ending→World→Prop}
theorem ref_Less.c (h:St F0 w0 w ps) (hk:∀ w',St F0 w0 w' ps→K (.returned (.bool (ltI p.1 q.1))) w'):Calls Tryz.prog 38 ⟨[.agg ⟨nmC p⟩,.agg ⟨nmC q⟩]⟩ w K:=by
 refine qsb (qlb.ok _ _ _ _ ?_)
 unfold qlb
 refine h.new fun xb w h=>?_
 refine h.new fun yb w h=>?_
 have h:St F0 w0 w (qt yb (ivs .u8 q.1) :: qt xb (ivs .u8 p.1) :: ps):=h
 unfold qlb.j1 qlb.j3
 refine qud (fun (i:Nat) (i':Int) w'=>i'=(i:Int)∧i≤20∧p.1.take i=q.1.take i∧St F0 w0 w' (qt yb (ivs .u8 q.1) :: qt xb (ivs .u8 p.1) :: ps)) (fun i=>20 - i) 0 ⟨rfl,Nat.zero_le _,by simp,h⟩ ?_
 clear h
 rintro i _ wL I μ ⟨rfl,hi,ht,h⟩ hin
 have hp:=p.2.1
 have hq:=q.2.1
 unfold qlb.b1
 refine qsc (fun g=>?_) (fun g=>?_)
 · have hi2:i < 20:=by omega
   refine h.drewK fun w h=>?_
   refine h.la (b:=xb) (k:=.u8) i rfl hp hi2 ?_
   refine h.la (b:=yb) (k:=.u8) i rfl hq hi2 ?_
   refine qmd (fun g2=>?_) (fun g2=>?_)
   · refine h.drewK fun w h=>?_
     refine h.la (b:=xb) (k:=.u8) i rfl hp hi2 ?_
     refine h.la (b:=yb) (k:=.u8) i rfl hq hi2 ?_
     have:=hk w h.drop.drop
     rw [ltI_at (i:=i) (by omega) (by omega) ht (by simpa using g2)] at this
     exact this
   · have g2:p.1.getD i 0=q.1.getD i 0:=by simpa using g2
     refine qx (e':=((i+1:Nat):Int)) (by rw [qh (by omega) (by omega)]; rfl) ?_
     exact ⟨⟨rfl,rfl⟩,hin (i+1) _ _ ⟨rfl,by omega,by rw [qkh (by omega),qkh (by omega),ht,g2],h⟩ (by omega)⟩
 · have:i=20:=by omega
   subst this
   rw [List.take_of_length_le (by omega),List.take_of_length_le (by omega)] at ht
   have:=hk wL h.drop.drop
   rw [ht,qzd] at this
   exact this
end
end Go.Proofs.YtonmgkkkiejicaaGreat
namespace Go.Proofs.YtonmgkkkiejicaaGreat
open Go Go.Proofs
set_option linter.unusedVariables false
set_option linter.unusedSimpArgs false
attribute [local irreducible] apK cpK mkK br
instance elt_20:EltR Tryz.prog 38 20 (ivs .u8 z20):=⟨⟨Tryz.t38,by kernel_rfl,rfl,by decide,by decide⟩,by kernel_rfl,rfl,by decide⟩
section
variable {F0:List Nat} {w0 w:World} {ps rest:List As} {s:Sl} {P:List Nm} {K:Ending→World→Prop}
end
end Go.Proofs.YtonmgkkkiejicaaGreat
namespace Go.Proofs.YtonmgkkkiejicaaGreat
open Go Go.Proofs
set_option linter.unusedVariables false
set_option linter.unusedSimpArgs false
attribute [local irreducible] apK cpK mkK br
section
variable {F0:List Nat} {w0 w:World} {ps rest:List As} {s:Sl} {A:List Nm} {K:Ending→World→Prop}
theorem ref_Fanout.c (h:St F0 w0 w ps) [Rdb F0 w0 s ps 20 (A.flatMap nmC)] (hL:A.length≤1000000) (hk:∀ t w',t.len=256→St F0 w0 w' (qv 1 t (ivs .i64 (fanL A)) :: ps)→K (.returned (sV t)) w') :
 Calls Tryz.prog 72 ⟨[sV s]⟩ w K:=by
 have hl:=h.rlen (s:=s) (f:=nmC) (L:=A)
 refine qsb (qu.ok _ _ _ ?_)
 unfold qu
 refine h.makeI (n:=256) (k:=.i64) rfl rfl (by decide) fun o w ho _ h=>?_
 rw [rep_mapR] at h
 unfold qu.j1 qu.j3
 refine qud (fun (i:Nat) (i':Int) w'=>i'=(i:Int)∧i≤A.length∧St F0 w0 w' (qv 1 o (ivs .i64 (qcj 256 fun m=>(qai (A.take i) m:Int))) :: ps)) (fun i=>A.length - i) 0 ⟨rfl,Nat.zero_le _,h⟩ ?_
 clear h
 rintro i _ wL I μ ⟨rfl,hi,h⟩ hin
 unfold qu.b1
 refine qsc (fun g=>?_) (fun g=>?_)
 · have hix:i < A.length:=by omega
   unfold qu.j4
   have hsn:∀ m:Nat,qai (A.take (i+1)) m=qai (A.take i) m+if hd0 A[i]≤(m:Int) then 1 else 0:=fun m=>by
    unfold qai
    rw [List.take_succ_eq_append_getElem hix,List.countP_append,List.countP_singleton]
    simp
   have hle:∀ m,qai (A.take i) m≤1000000:=fun m=>Nat.le_trans List.countP_le_length (by rw [List.length_take]; omega)
   refine h.rix (s:=s) (f:=nmC) (L:=A) i rfl hix fun a0 ha=>?_
   obtain ⟨b0,b1⟩:=hd0_b A[i]
   refine ⟨⟨by decide,by decide⟩,?_⟩
   have hv:(nmC A[i])[0]?=some (.int .u8 (hd0 A[i])):=qmi (by rw [A[i].2.1]; decide)
   refine (h.rdb s).rI (f:=nmC) (L:=A) (o:=0) ha hix (by decide) hv ?_
   generalize hd0 A[i]=m at hsn b0 b1
   obtain ⟨m,rfl⟩:∃ k:Nat,m=(k:Int):=⟨m.toNat,by omega⟩
   refine qx (wr64 (n:=m) rfl (by omega)) ?_
   unfold qu.j6
   have e0:(qcj 256 fun q=>(qai (A.take i) q:Int))=qcj 256 fun q=>if m≤q∧q < m then (qai (A.take (i+1)) q:Int) else (qai (A.take i) q:Int):=qof fun q hq=>by
    rw [if_neg (by omega)]
   rw [e0] at h
   refine qud (fun (k:Nat) (k':Int) w'=>k'=(k:Int)∧m≤k∧k≤256∧St F0 w0 w' (qv 1 o (ivs .i64 (qcj 256 fun q=>if m≤q∧q < k then (qai (A.take (i+1)) q:Int) else (qai (A.take i) q:Int))) :: ps)) (fun k=>256 - k) m ⟨rfl,Nat.le_refl _,by omega,h⟩ ?_
   clear h
   rintro k _ wL2 I2 μ2 ⟨rfl,hk0,hk1,h⟩ hnx
   unfold qu.b2
   refine qsc (fun g2=>?_) (fun g2=>?_)
   · have hk2:k < 256:=by omega
     refine h.lx (s:=o) k rfl (by rw [qyc]; exact hk2) ?_
     rw [qcf hk2,if_neg (by omega)]
     have h6:=hle k
     have h7:=hsn k
     rw [if_pos (by omega)] at h7
     refine qx (e':=(qai (A.take (i+1)) k:Int)) (by rw [qh (by omega) (by omega)]; omega) ?_
     refine h.sx (s:=o) k rfl (by rw [qyc]; exact hk2) fun w h=>?_
     rw [set_mapR] at h
     have e:(qcj 256 fun q=>if q=k then (qai (A.take (i+1)) k:Int) else if m≤q∧q < k then (qai (A.take (i+1)) q:Int) else (qai (A.take i) q:Int))=qcj 256 fun q=>if m≤q∧q < k+1 then (qai (A.take (i+1)) q:Int) else (qai (A.take i) q:Int):=qof fun q hq=>by
      by_cases e:q=k
      · subst e; rw [if_pos rfl,if_pos (by omega)]
      · rw [if_neg e]
        by_cases e2:m≤q∧q < k
        · rw [if_pos e2,if_pos (by omega)]
        · rw [if_neg e2,if_neg (by omega)]
     rw [e] at h
     refine qx (e':=((k+1:Nat):Int)) (by rw [qh (by omega) (by omega)]; rfl) ?_
     exact ⟨⟨rfl,rfl,rfl⟩,hnx (k+1) _ _ ⟨rfl,by omega,by omega,h⟩ (by omega)⟩
   · have:k=256:=by omega
     subst this
     have e:(qcj 256 fun q=>if m≤q∧q < 256 then (qai (A.take (i+1)) q:Int) else (qai (A.take i) q:Int))=qcj 256 fun q=>(qai (A.take (i+1)) q:Int):=qof fun q hq=>by
      by_cases e2:m≤q
      · rw [if_pos ⟨e2,hq⟩]
      · rw [if_neg (by omega),hsn q,if_neg (by omega)]
        rfl
     rw [e] at h
     unfold qu.j5
     refine qx (e':=((i+1:Nat):Int)) (by rw [qh (by omega) (by omega)]; rfl) ?_
     exact ⟨⟨rfl,rfl⟩,hin (i+1) _ _ ⟨rfl,by omega,h⟩ (by omega)⟩
 · have:i=A.length:=by omega
   subst this
   rw [List.take_length] at h
   unfold qu.j2
   exact hk o wL ho h
end
end Go.Proofs.YtonmgkkkiejicaaGreat
namespace Go.Proofs.YtonmgkkkiejicaaGreat
open Go Go.Proofs
set_option linter.unusedVariables false
set_option linter.unusedSimpArgs false
attribute [local irreducible] apK cpK mkK br
section
variable {F0:List Nat} {w0 w:World} {ps rest:List As} {s t:Sl} {P:List Nm} {K:Ending→World→Prop}
theorem law_Same.c (h:St F0 w0 w ps) [Rdb F0 w0 s ps 20 (P.flatMap nmC)] [Rdb F0 w0 t ps 20 (P.flatMap nmC)] (hL:P.length≤1000000) (hk:∀ w',St F0 w0 w' ps→K (.returned (.bool true)) w') :
 Calls Tryz.prog 41 ⟨[sV s,sV t]⟩ w K:=by
 have hl:=h.rlen (s:=s) (f:=nmC) (L:=P)
 have hl2:=h.rlen (s:=t) (f:=nmC) (L:=P)
 refine qsb (qib.ok _ _ _ _ ?_)
 unfold qib
 refine qmd (fun g=>?_) (fun _=>?_)
 · exfalso
   have e:s.len=t.len:=hl.symm.trans hl2
   rw [e] at g
   simp at g
 unfold qib.j1 qib.j3
 refine qud (fun (i:Nat) (i':Int) w'=>i'=(i:Int)∧i≤P.length∧St F0 w0 w' ps) (fun i=>P.length - i) 0 ⟨rfl,Nat.zero_le _,h⟩ ?_
 clear h
 rintro i _ wL I μ ⟨rfl,hi,h⟩ hin
 unfold qib.b1
 refine qsc (fun g=>?_) (fun g=>?_)
 · have hix:i < P.length:=by omega
   refine h.drewK fun w h=>?_
   refine h.lr (s:=s) (L:=P) i rfl hix ?_
   refine h.lr (s:=t) (L:=P) i rfl hix ?_
   refine eqA_s (xs:=P[i].1) P[i].2.1 ?_
   refine qmd (fun g2=>by cases g2) (fun _=>?_)
   refine qx (e':=((i+1:Nat):Int)) (by rw [qh (by omega) (by omega)]; rfl) ?_
   exact ⟨⟨rfl,rfl⟩,hin (i+1) _ _ ⟨rfl,by omega,h⟩ (by omega)⟩
 · unfold qib.j2
   exact hk wL h
end
end Go.Proofs.YtonmgkkkiejicaaGreat
namespace Go.Proofs.YtonmgkkkiejicaaGreat
open Go Go.Proofs
set_option linter.unusedVariables false
set_option linter.unusedSimpArgs false
attribute [local irreducible] apK cpK mkK br
abbrev Rw:=Nm × Int × Int
def rwC (r:Rw):List Value:=ivs .u8 r.1.1 ++ [.int .u32 r.2.1,.int .i64 r.2.2]
theorem qwd (r:Rw):(rwC r).length=22:=by
 unfold rwC
 rw [List.length_append,qw,r.1.2.1]
 rfl
instance rec_rw:Rec rwC 22 where
 len:=qwd
 pos:=by decide
 sto r v hv:=by
  have hv:v ∈ rwC r:=by simpa using hv
  unfold rwC at hv
  rcases List.mem_append.1 hv with hv | hv
  · exact qvd v (by simpa using hv)
  · simp at hv
    rcases hv with rfl | rfl <;> trivial
instance mt_bool:MapT 126 4 (.bool false):=⟨by kernel_rfl,fun w=>by kernel_rfl⟩
def boV (b:Bool):Value:=.bool b
theorem Blk.ldAt {w:World} {b:Nat} {r:Rw} {X:Int→Prop} (h:Blk w b (rwC r)) (hk:X r.2.2):Go.Proofs.YtonmgkkkiejicaaGreat.ldI .i64 w (Addr.add ⟨b,0,none⟩ 21) X:=by
 rw [qmb]
 refine h.ldI ?_ hk
 unfold rwC
 rw [List.getElem?_append_right (by rw [qw,r.1.2.1]; decide),qw,r.1.2.1]
 rfl
theorem Blk.ldRid {w:World} {b:Nat} {r:Rw} {X:Array Value→Prop} (h:Blk w b (rwC r)) (hk:X ⟨nmC r.1⟩):Go.Proofs.YtonmgkkkiejicaaGreat.ldA w (Addr.add ⟨b,0,none⟩ 0) 20 X:=by
 rw [qmb]
 refine h.ldA (cs:=⟨nmC r.1⟩) (by unfold nmC; simp [r.1.2.1]) (fun i hi=>?_) hk
 unfold rwC nmC
 rw [List.getElem?_append_left (by rw [qw,r.1.2.1]; omega)]
 simp
def badR (R:List Rw):Prop:=(∃ r ∈ R,r.2.2 < 0 ∨ 2147483647 < r.2.2) ∨ ¬ (R.map (·.1)).Nodup
theorem badR_snoc {R S:List Rw} (h:badR R):badR (R ++ S):=by
 rcases h with ⟨r,hr,h⟩ | h
 · exact Or.inl ⟨r,List.mem_append_left _ hr,h⟩
 · refine Or.inr fun e=>h ?_
   rw [List.map_append] at e
   exact (List.nodup_append.1 e).1
section
variable {F0:List Nat} {w0 w:World} {ps r1:List As} {s t8 t36:Sl} {R:List Rw} {Q:VWP} {t9:Int} {k pb:Nat} {m:Mk}
 {nx1:Sl→Sl→Int→Int→World→Prop}
theorem zc_row:zc Tryz.prog 42=⟨rwC (⟨z20,by refine ⟨rfl,?_⟩; decide⟩,0,0)⟩:=by kernel_rfl
theorem wrong_6 (h:St F0 w0 w ps) [PkB pb ps (mkC m) r1] [Rdb F0 w0 m.2 ps 22 (R.flatMap rwC)] (hR:R.length≤1000000000) (hk1:(k:Int) < 1000000000)
 (hbad:∀ w',badR R→St F0 w0 w' ps→Q (.bool true) w') (hok:∀ w',¬ badR R→St F0 w0 w' ps→nx1 s t8 t9 ((k+1:Nat):Int) w'):qfb.j6 s ⟨pb,0,none⟩ t8 t9 k Q nx1 w:=by
 have lenC:∀ p:Nm,(nmC p).length=20:=fun p=>(inferInstance:Rec nmC 20).len p
 have hl:=h.rlen (s:=m.2) (f:=rwC) (L:=R)
 unfold qfb.j6
 refine h.mkT boV _ fun mb w h=>?_
 have e1:Addr.add ⟨pb,0,none⟩ 1=⟨pb,1,none⟩:=qmb _ _ _
 rw [e1]
 refine (h.toB pb).blk.ldL (n:=m.2) rfl ?_
 unfold qfb.j7
 refine qud (fun (a:Nat × Rws Bool) (i':Int) w'=>i'=(a.1:Int)∧a.1≤R.length∧¬ badR (R.take a.1)∧(∀ q:Nm,lkE a.2 q.1=if q ∈ (R.take a.1).map (·.1) then some true else none)∧St F0 w0 w' (tmA boV mb a.2 :: ps)) (fun a=>R.length - a.1) (0,[]) ⟨rfl,Nat.zero_le _,by rintro (⟨r,hr,_⟩ | h) <;> simp at *,fun q=>by simp [lk_nil],h⟩ ?_
 clear h
 rintro ⟨i,E⟩ _ wL I μ ⟨rfl,hi,hnb,hE,h⟩ hin
 simp only at hi hnb hE h hin ⊢
 unfold qfb.b2
 refine qsc (fun g=>?_) (fun g=>?_)
 · have hix:i < R.length:=by
    have g:(i:Int) < (m.2.len:Int):=g
    omega
   have hsn:R.take (i+1)=R.take i ++ [R[i]]:=List.take_succ_eq_append_getElem hix
   have hall:R=R.take (i+1) ++ R.drop (i+1):=(List.take_append_drop _ _).symm
   refine h.lr (s:=m.2) (f:=rwC) (L:=R) i rfl hix ?_
   rw [zc_row]
   refine h.new fun rb w h=>?_
   have h:St F0 w0 w (qt rb (rwC (⟨z20,by refine ⟨rfl,?_⟩; decide⟩,0,0)) :: tmA boV mb E :: ps):=h
   refine ⟨qwd _,?_⟩
   refine h.setR (f:=rwC) (x:=R[i]) (qwd _) fun w h=>?_
   have out:badR (R.take (i+1))→Q (.bool true) w:=fun hb=>hbad w (by rw [hall]; exact badR_snoc hb) h.drop.drop
   refine (h.toB rb).blk.ldAt ?_
   refine qsc (fun g1=>out (Or.inl ⟨R[i],by rw [hsn]; exact List.mem_append_right _ List.mem_cons_self,Or.inl g1⟩)) (fun g1=>?_)
   refine (h.toB rb).blk.ldAt ?_
   refine qsc (fun g2=>out (Or.inl ⟨R[i],by rw [hsn]; exact List.mem_append_right _ List.mem_cons_self,Or.inr (by omega)⟩)) (fun g2=>?_)
   refine (h.toB rb).blk.ldRid ?_
   have hlk:=h.tlook1 mb 126 (k:=R[i].1.1) R[i].1.2
   rw [hE R[i].1] at hlk
   by_cases hm:R[i].1 ∈ (R.take i).map (·.1)
   · rw [if_pos hm] at hlk
     refine ⟨true,hlk,?_⟩
     refine qmd (fun _=>out (Or.inr fun e=>?_)) (fun g=>by cases g)
     rw [hsn,List.map_append,List.nodup_append] at e
     exact e.2.2 _ hm _ (by simp) rfl
   · rw [if_neg hm] at hlk
     refine ⟨false,hlk,?_⟩
     refine qmd (fun g=>by cases g) (fun _=>?_)
     refine (h.toB rb).blk.ldRid ?_
     refine h.tset (x:=true) mb 126 (k:=R[i].1.1) R[i].1.2 fun w h=>?_
     refine qx (e':=((i+1:Nat):Int)) (by rw [qh (by omega) (by omega)]; rfl) ?_
     refine ⟨⟨rfl,rfl,rfl,rfl,rfl,rfl,rfl⟩,hin (i+1,uRow E R[i].1.1 true) _ _ ⟨rfl,by simp only; omega,?_,?_,?_⟩ (by simp only; omega)⟩
     · simp only
       rw [hsn]
       rintro (⟨r,hr,hb⟩ | hb)
       · rcases List.mem_append.1 hr with hr | hr
         · exact hnb (Or.inl ⟨r,hr,hb⟩)
         · have:r=R[i]:=by simpa using hr
           subst this
           omega
       · refine hb ?_
         rw [List.map_append,List.nodup_append]
         refine ⟨Classical.byContradiction fun e=>hnb (Or.inr e),by simp,fun a ha b hb e=>?_⟩
         have:b=R[i].1:=by simpa using hb
         subst this
         subst e
         exact hm ha
     · intro q
       simp only
       rw [lk_upd,hE q,hsn,List.map_append]
       by_cases hq:q.1=R[i].1.1
       · have:q=R[i].1:=Nm.ext' hq
         rw [if_pos hq,if_pos (by rw [this]; simp)]
       · have:q ≠ R[i].1:=fun e=>hq (congrArg Subtype.val e)
         rw [if_neg hq]
         simp [this]
     · exact h.sub
 · have:i=R.length:=by
    have g:¬ (i:Int) < (m.2.len:Int):=g
    omega
   subst this
   rw [List.take_length] at hnb
   unfold qfb.j5
   refine qx (e':=((k+1:Nat):Int)) (by rw [qh (by omega) (by omega)]; rfl) ?_
   exact hok _ hnb h.drop
end
end Go.Proofs.YtonmgkkkiejicaaGreat
namespace Go.Proofs.YtonmgkkkiejicaaGreat
open Go Go.Proofs
set_option linter.unusedVariables false
set_option linter.unusedSimpArgs false
attribute [local irreducible] apK cpK mkK br
def badA (rw:Mk→List Rw) (L:List Mk) (i:Nat):Prop:=∃ hi:i < L.length,qhi L[i].1=false ∨ (∃ h:0 < i,L[i - 1].1=L[i].1) ∨ badR (rw L[i])
def badM (rw:Mk→List Rw) (L:List Mk):Prop:=∃ i,badA rw L i
section
variable {F0:List Nat} {w0 w:World} {ps r1:List As} {s:Sl} {L:List Mk} {rw:Mk→List Rw}
theorem zc_pack:zc Tryz.prog 46=⟨mkC (⟨⟨[]⟩⟩,⟨none,0,0⟩)⟩:=by kernel_rfl
theorem wrong.c {K:Ending→World→Prop} (h:St F0 w0 w ps) [iR:Rdb F0 w0 s ps 2 (mks L)] (hL:L.length≤1000000) (hN:∀ m ∈ L,m.1.size≤1000000000) (hRl:∀ m ∈ L,(rw m).length≤1000000000) (hP:∀ m ∈ L,Rdb F0 w0 m.2 ps 22 ((rw m).flatMap rwC))
 (hbad:∀ w',badM rw L→St F0 w0 w' ps→K (.returned (.bool true)) w') (hok:∀ w',¬ badM rw L→St F0 w0 w' ps→K (.returned (.bool false)) w') :
 Calls Tryz.prog 21 ⟨[sV s]⟩ w K:=by
 haveI iR2:Rdb F0 w0 s ps 2 (L.flatMap mkC):=iR
 have hl:=h.rlen (s:=s) (f:=mkC) (L:=L)
 refine qsb (qfb.ok _ _ _ ?_)
 unfold qfb qfb.j1 qfb.j3
 refine qud (fun (i:Nat) (i':Int) w'=>i'=(i:Int)∧i≤L.length∧(∀ j,j < i→¬ badA rw L j)∧St F0 w0 w' ps) (fun i=>L.length - i) 0 ⟨rfl,Nat.zero_le _,fun j hj=>by omega,h⟩ ?_
 clear h
 rintro i _ wL I μ ⟨rfl,hi,hno,h⟩ hin
 unfold qfb.b1
 refine qsc (fun g=>?_) (fun g=>?_)
 · have hix:i < L.length:=by omega
   have hm:=List.getElem_mem hix
   unfold qfb.j4
   refine h.lr (s:=s) (f:=mkC) (L:=L) i rfl hix ?_
   rw [zc_pack]
   refine h.new fun pb w h=>?_
   have h:St F0 w0 w (qt pb (mkC (⟨⟨[]⟩⟩,⟨none,0,0⟩)) :: ps):=h
   refine ⟨rfl,?_⟩
   refine h.setR (f:=mkC) (x:=L[i]) rfl fun w h=>?_
   refine h.drewK fun w h=>?_
   have hname:∀ {w:World} {Z:ByteArray→Prop},St F0 w0 w (qt pb (mkC L[i]) :: ps)→Z L[i].1→ldS w (Addr.add ⟨pb,0,none⟩ 0) Z:=fun h hz=>by
    rw [qmb]
    exact (h.toB pb).blk.ldS (n:=L[i].1) rfl hz
   refine hname h ?_
   refine named.c (s:=L[i].1) h (hN _ hm) fun w h=>⟨_,rfl,?_⟩
   haveI iP:=hP _ hm
   have next:∀ w,qhi L[i].1=true→(∀ h:0 < i,L[i - 1].1 ≠ L[i].1)→St F0 w0 w (qt pb (mkC L[i]) :: ps)→qfb.j6 s ⟨pb,0,none⟩ s (s.len:Int) (i:Int) (fun v w'=>K (.returned v) w') (fun l_0' t8' t9' t10' w'=>(l_0'=s∧t8'=s∧t9'=(s.len:Int))∧I t10' w'∧μ t10' w' < μ (i:Int) wL) w:=by
    intro w h1 h2 h
    refine wrong_6 (m:=L[i]) (R:=rw L[i]) h (hRl _ hm) (by omega) (fun w hb h=>hbad w ⟨i,hix,Or.inr (Or.inr hb)⟩ h.drop) fun w hb h=>?_
    refine ⟨⟨rfl,rfl,rfl⟩,hin (i+1) _ _ ⟨rfl,by omega,fun j hj=>?_,h.drop⟩ (by omega)⟩
    by_cases e:j < i
    · exact hno j e
    · have:j=i:=by omega
      subst this
      rintro ⟨_,hx | ⟨h0,hx⟩ | hx⟩
      · rw [h1] at hx; cases hx
      · exact h2 h0 hx
      · exact hb hx
   cases hn:qhi L[i].1 with
   | false=>exact qmd (fun _=>hbad w ⟨i,hix,Or.inl hn⟩ h.drop) (fun g=>by cases g)
   | true =>
     refine qmd (fun g=>by cases g) (fun _=>?_)
     refine qsc (fun g0=>?_) (fun g0=>next w hn (fun h0=>by exfalso; omega) h)
     have h0:0 < i:=by omega
     refine qx (e':=((i - 1:Nat):Int)) (by rw [qh (by omega) (by omega)]; omega) ?_
     refine h.rix (s:=s) (f:=mkC) (L:=L) (i - 1) rfl (by omega) fun a0 ha=>⟨L[i - 1].1,?_,?_⟩
     · have:=(h.rdb s).rcell (f:=mkC) (L:=L) (j:=i - 1) (o:=0) ha (by omega) (by decide)
       rw [this]
       rfl
     · refine hname h ?_
       refine qmd (fun g1=>?_) (fun g1=>?_)
       · have g1:L[i - 1].1.toList=L[i].1.toList:=by simpa using g1
         exact hbad w ⟨i,hix,Or.inr (Or.inl ⟨h0,qoj g1⟩)⟩ h.drop
       · have g1:¬ L[i - 1].1.toList=L[i].1.toList:=by simpa using g1
         exact next w hn (fun _ e=>g1 (by rw [e])) h
 · have:i=L.length:=by omega
   subst this
   unfold qfb.j2
   refine hok _ ?_ h
   rintro ⟨j,hj,hb⟩
   exact hno j hj ⟨hj,hb⟩
end
end Go.Proofs.YtonmgkkkiejicaaGreat
namespace Go.Proofs.YtonmgkkkiejicaaGreat
open Go Go.Proofs
set_option linter.unusedVariables false
set_option maxRecDepth 100000
def qvf (q_0:Sl) (Q:VWP) (w:World):Prop :=
 Q (.int .i64 (q_0.len:Int)) w
theorem qvf.ok (q_0:Sl) (Q:VWP) (w:World) (h:qvf q_0 Q w):Calls Tryz.prog 51 ⟨[sV q_0]⟩ w (Ret Q) :=
 qvb [.tmp 2] qkd Tryz.func51 rfl rfl rfl rfl .lf (by kernel_rfl) h
def qjf (q_0:Sl) (i_1:Int) (k_2:Int) (Q:VWP) (w:World):Prop :=
 lt (World.drew w) fun w1 =>
 ixS q_0.a q_0.len i_1 22 fun a2 =>
 ldA w1 (Addr.add a2 0) 20 fun c3 =>
 ixS q_0.a q_0.len k_2 22 fun a4 =>
 ldA w1 (Addr.add a4 0) 20 fun c5 =>
 eqA .u8 20 c3 c5 fun x6 =>
 br (!x6) (
 lt (World.drew w1) fun w7 =>
 ixS q_0.a q_0.len i_1 22 fun a8 =>
 ldA w7 (Addr.add a8 0) 20 fun c9 =>
 ixS q_0.a q_0.len k_2 22 fun a10 =>
 ldA w7 (Addr.add a10 0) 20 fun c11 =>
 qxm 68 [.agg c9,.agg c11] w7 fun r14 w13 =>
 Q (.bool r14) w13) (
 lt (World.drew w1) fun w15 =>
 ixS q_0.a q_0.len i_1 22 fun a16 =>
 ldI .i64 w15 (Addr.add a16 20) fun x17 =>
 ixS q_0.a q_0.len k_2 22 fun a18 =>
 ldI .i64 w15 (Addr.add a18 20) fun x19 =>
 Q (.bool (decide (x17 < x19))) w15)
theorem qjf.ok (q_0:Sl) (i_1:Int) (k_2:Int) (Q:VWP) (w:World) (h:qjf q_0 i_1 k_2 Q w):Calls Tryz.prog 137 ⟨[sV q_0,.int .i64 i_1,.int .i64 k_2]⟩ w (Ret Q) :=
 qvb [.tmp 6] qkd Tryz.func137 rfl rfl rfl rfl .lf (by kernel_rfl) h
def quf (q_0:OAd) (Q:VWP) (w:World):Prop :=
 nz q_0 fun a1 =>
 ldL w a1 fun x2 =>
 lt (IntKind.i64.wrap ((x2.len:Int) - 1)) fun x3 =>
 nz q_0 fun a4 =>
 ldL w a4 fun x5 =>
 ixS x5.a x5.len x3 22 fun a6 =>
 ldA w a6 22 fun c7 =>
 nw w (zc Tryz.prog 75) 75 fun a8 w9 =>
 (c7).size=22 ∧
 stA w9 a8 c7 fun w10 =>
 nz q_0 fun a11 =>
 ldL w10 a11 fun x12 =>
 bd x3 x12.cap fun n13 =>
 lt (⟨qfe x12.a x12.cap 0 22,n13 - 0,x12.cap - 0⟩:Sl) fun s14 =>
 nz q_0 fun a15 =>
 st w10 a15 (sV s14) fun w16 =>
 ldA w16 a8 22 fun c17 =>
 Q (.iface 75 (.agg c17)) w16
theorem quf.ok (q_0:OAd) (Q:VWP) (w:World) (h:quf q_0 Q w):Calls Tryz.prog 138 ⟨[.pointer q_0]⟩ w (Ret Q) :=
 qvb [.tmp 2] qkd Tryz.func138 rfl rfl rfl rfl .lf (by kernel_rfl) h
def qif (q_0:OAd) (x_1:(Nat × Value)) (Q:VWP) (w:World):Prop :=
 eqT x_1.1 75 (
 asG x_1.2 fun x1 =>
 nw w (zc Tryz.prog 75) 75 fun a2 w3 =>
 (x1).size=22 ∧
 stA w3 a2 x1 fun w4 =>
 lt (World.drew w4) fun w5 =>
 nz q_0 fun a6 =>
 ldL w5 a6 fun x7 =>
 ldA w5 a2 22 fun c8 =>
 (c8).size=22 ∧
 nw w5 ⟨(spl [.int .u8 0,.int .u8 0,.int .u8 0,.int .u8 0,.int .u8 0,.int .u8 0,.int .u8 0,.int .u8 0,.int .u8 0,.int .u8 0,.int .u8 0,.int .u8 0,.int .u8 0,.int .u8 0,.int .u8 0,.int .u8 0,.int .u8 0,.int .u8 0,.int .u8 0,.int .u8 0,.int .i64 0,.int .i64 0] 0 c8)⟩ 75 fun a9 w10 =>
 rdO w10 (some a9) (1 * 22) fun c11 =>
 apK Tryz.prog 75 w10 x7.a x7.len x7.cap 1 c11 fun s12 w13 =>
 nz q_0 fun a14 =>
 st w13 a14 (sV s12) fun w15 =>
 Q (.tuple ⟨[]⟩) w15)
theorem qif.ok (q_0:OAd) (x_1:(Nat × Value)) (Q:VWP) (w:World) (h:qif q_0 x_1 Q w):Calls Tryz.prog 139 ⟨[.pointer q_0,.iface x_1.1 x_1.2]⟩ w (Ret Q) :=
 qvb [] qkd Tryz.func139 rfl rfl rfl rfl .lf (by kernel_rfl) h
def qhf (q_0:Sl) (i_1:Int) (k_2:Int) (Q:VWP) (w:World):Prop :=
 lt (World.drew w) fun w1 =>
 ixS q_0.a q_0.len k_2 22 fun a2 =>
 ldA w1 a2 22 fun c3 =>
 ixS q_0.a q_0.len i_1 22 fun a4 =>
 ldA w1 a4 22 fun c5 =>
 ixS q_0.a q_0.len i_1 22 fun a6 =>
 (c3).size=22 ∧
 stA w1 a6 c3 fun w7 =>
 ixS q_0.a q_0.len k_2 22 fun a8 =>
 (c5).size=22 ∧
 stA w7 a8 c5 fun w9 =>
 Q (.tuple ⟨[]⟩) w9
theorem qhf.ok (q_0:Sl) (i_1:Int) (k_2:Int) (Q:VWP) (w:World) (h:qhf q_0 i_1 k_2 Q w):Calls Tryz.prog 140 ⟨[sV q_0,.int .i64 i_1,.int .i64 k_2]⟩ w (Ret Q) :=
 qvb [] qkd Tryz.func140 rfl rfl rfl rfl .lf (by kernel_rfl) h
def qpf.b1 (h_0:Addr) (j_1:Int) (Q:VWP) (nx1:Addr→Int→WP) (w:World):Prop :=
 lt (IntKind.i64.wrap (j_1 - 1)) fun x1 =>
 (2:Int) ≠ 0 ∧
 lt (IntKind.i64.wrap (Int.tdiv x1 2)) fun x2 =>
 br (x2 == j_1) (
 Q (.tuple ⟨[]⟩) w) (
 ldL w h_0 fun x3 =>
 qxm 137 [sV x3,.int .i64 j_1,.int .i64 x2] w fun r6 w5 =>
 br (!r6) (
 Q (.tuple ⟨[]⟩) w5) (
 ldL w5 h_0 fun x7 =>
 ct_ 140 [sV x7,.int .i64 x2,.int .i64 j_1] w5 fun w9 =>
 nx1 h_0 x2 w9))
def qpf.l1 (h_0:Addr) (j_1:Int) (Q:VWP) (w:World):Prop :=
 ∃ (I:Int→WP) (μ:Int→World→Nat),I j_1 w∧∀ j_1:Int,∀ w:World,I j_1 w→qpf.b1 h_0 j_1 Q (fun h_0' j_1' w'=>(h_0'=h_0)∧I j_1' w'∧μ j_1' w' < μ j_1 w) w
def qpf (h_0:Addr) (j_1:Int) (Q:VWP) (w:World):Prop :=
 qpf.l1 h_0 j_1 Q w
theorem qpf.ok (h_0:Addr) (j_1:Int) (Q:VWP) (w:World) (h:qpf h_0 j_1 Q w):Calls Tryz.prog 88 ⟨[.iface 127 (.pointer (some h_0)),.int .i64 j_1]⟩ w (Ret Q) :=
 qvb [] qkd Tryz.func88 rfl rfl rfl rfl (.bk (.lo [(0,.Q 127)] [sI 1] (fun a b w=>qpf.l1 a b Q w) (fun nx1 a b w=>qpf.b1 a b Q nx1 w) fun nx1=>.lf)) (by kernel_rfl) h
def qrb.j2 (i0_1 i_7:Int) (Q:VWP) (w:World):Prop :=
 Q (.bool (decide (i_7 > i0_1))) w
def qrb.j4 (h_0:Addr) (i0_1:Int) (n_2 i_7 j_9:Int) (Q:VWP) (nx1:Addr→Int→Int→Int→WP) (w:World):Prop :=
 ldL w h_0 fun x1 =>
 qxm 137 [sV x1,.int .i64 j_9,.int .i64 i_7] w fun r4 w3 =>
 br (!r4) (
 qrb.j2 i0_1 i_7 Q w3) (
 ldL w3 h_0 fun x5 =>
 ct_ 140 [sV x5,.int .i64 i_7,.int .i64 j_9] w3 fun w7 =>
 nx1 h_0 i0_1 n_2 j_9 w7)
def qrb.j3 (h_0:Addr) (i0_1:Int) (n_2 i_7 j1_8:Int) (Q:VWP) (nx1:Addr→Int→Int→Int→WP) (w:World):Prop :=
 lt (IntKind.i64.wrap (j1_8+1)) fun x8 =>
 br (decide (x8 < n_2)) (
 ldL w h_0 fun x9 =>
 qxm 137 [sV x9,.int .i64 x8,.int .i64 j1_8] w fun r12 w11 =>
 br r12 (
 qrb.j4 h_0 i0_1 n_2 i_7 x8 Q nx1 w11) (
 qrb.j4 h_0 i0_1 n_2 i_7 j1_8 Q nx1 w11)) (
 qrb.j4 h_0 i0_1 n_2 i_7 j1_8 Q nx1 w)
def qrb.b1 (h_0:Addr) (i0_1:Int) (n_2 i_7:Int) (Q:VWP) (nx1:Addr→Int→Int→Int→WP) (w:World):Prop :=
 lt (IntKind.i64.wrap (2 * i_7)) fun x13 =>
 lt (IntKind.i64.wrap (x13+1)) fun x14 =>
 br (decide (x14 ≥ n_2)) (
 qrb.j2 i0_1 i_7 Q w) (
 br (decide (x14 < 0)) (
 qrb.j2 i0_1 i_7 Q w) (
 qrb.j3 h_0 i0_1 n_2 i_7 x14 Q nx1 w))
def qrb.l1 (h_0:Addr) (i0_1:Int) (n_2 i_7:Int) (Q:VWP) (w:World):Prop :=
 ∃ (I:Int→WP) (μ:Int→World→Nat),I i_7 w∧∀ i_7:Int,∀ w:World,I i_7 w→qrb.b1 h_0 i0_1 n_2 i_7 Q (fun h_0' i0_1' n_2' i_7' w'=>(h_0'=h_0∧i0_1'=i0_1∧n_2'=n_2)∧I i_7' w'∧μ i_7' w' < μ i_7 w) w
def qrb.j1 (h_0:Addr) (i0_1:Int) (n_2 i_7:Int) (Q:VWP) (w:World):Prop :=
 qrb.l1 h_0 i0_1 n_2 i_7 Q w
def qrb (h_0:Addr) (i0_1:Int) (n_2:Int) (Q:VWP) (w:World):Prop :=
 qrb.j1 h_0 i0_1 n_2 i0_1 Q w
theorem qrb.ok (h_0:Addr) (i0_1:Int) (n_2:Int) (Q:VWP) (w:World) (h:qrb h_0 i0_1 n_2 Q w):Calls Tryz.prog 89 ⟨[.iface 127 (.pointer (some h_0)),.int .i64 i0_1,.int .i64 n_2]⟩ w (Ret Q) :=
 qvb [.tmp 6] qkd Tryz.func89 rfl rfl rfl rfl (.pr 1 [(0,.Q 127),sI 1,sI 2,sI 7] (fun a b c d w=>qrb.j1 a b c d Q w) (.sq [sI 1,sI 7] (fun a b w=>qrb.j2 a b Q w) (.bk (.lo [(0,.Q 127),sI 1,sI 2] [sI 7] (fun a b c d w=>qrb.l1 a b c d Q w) (fun nx1 a b c d w=>qrb.b1 a b c d Q nx1 w) fun nx1=>(.bk (.pr 1 [(0,.Q 127),sI 1,sI 2,sI 7,sI 8] (fun a b c d e w=>qrb.j3 a b c d e Q nx1 w) (.pr 1 [(0,.Q 127),sI 1,sI 2,sI 7,sI 9] (fun a b c d e w=>qrb.j4 a b c d e Q nx1 w) .lf))))) .lf)) (by kernel_rfl) h
def qgh (h_0:Addr) (x_1:(Nat × Value)) (Q:VWP) (w:World):Prop :=
 ct_ 139 [.pointer (some h_0),.iface x_1.1 x_1.2] w fun w2 =>
 ldL w2 h_0 fun x3 =>
 qri 51 [sV x3] w2 fun r6 w5 =>
 lt (IntKind.i64.wrap (r6 - 1)) fun x7 =>
 ct_ 88 [.iface 127 (.pointer (some h_0)),.int .i64 x7] w5 fun w9 =>
 Q (.tuple ⟨[]⟩) w9
theorem qgh.ok (h_0:Addr) (x_1:(Nat × Value)) (Q:VWP) (w:World) (h:qgh h_0 x_1 Q w):Calls Tryz.prog 50 ⟨[.iface 127 (.pointer (some h_0)),.iface x_1.1 x_1.2]⟩ w (Ret Q) :=
 qvb [] qkd Tryz.func50 rfl rfl rfl rfl .lf (by kernel_rfl) h
def qdj (h_0:Addr) (Q:VWP) (w:World):Prop :=
 ldL w h_0 fun x1 =>
 qri 51 [sV x1] w fun r4 w3 =>
 lt (IntKind.i64.wrap (r4 - 1)) fun x5 =>
 ldL w3 h_0 fun x6 =>
 ct_ 140 [sV x6,.int .i64 0,.int .i64 x5] w3 fun w8 =>
 qxm 89 [.iface 127 (.pointer (some h_0)),.int .i64 0,.int .i64 x5] w8 fun r11 w10 =>
 Calls Tryz.prog 138 ⟨[.pointer (some h_0)]⟩ w10 fun e12 w13 =>
 ∃ r14:(Nat × Value),e12=.returned (.iface r14.1 r14.2) ∧
 Q (.iface r14.1 r14.2) w13
theorem qdj.ok (h_0:Addr) (Q:VWP) (w:World) (h:qdj h_0 Q w):Calls Tryz.prog 52 ⟨[.iface 127 (.pointer (some h_0))]⟩ w (Ret Q) :=
 qvb [.tmp 2] qkd Tryz.func52 rfl rfl rfl rfl .lf (by kernel_rfl) h
end Go.Proofs.YtonmgkkkiejicaaGreat
namespace Go.Proofs.YtonmgkkkiejicaaGreat
open Go Go.Proofs
set_option linter.unusedVariables false
set_option linter.unusedSimpArgs false
attribute [local irreducible] apK cpK mkK br
abbrev Sp:=Nm × Int × Int
def spC (r:Sp):List Value:=ivs .u8 r.1.1 ++ [.int .i64 r.2.1,.int .i64 r.2.2]
theorem qxc (r:Sp):(spC r).length=22:=by
 unfold spC
 rw [List.length_append,qw,r.1.2.1]
 rfl
instance rec_sp:Rec spC 22 where
 len:=qxc
 pos:=by decide
 sto r v hv:=by
  have hv:v ∈ spC r:=by simpa using hv
  unfold spC at hv
  rcases List.mem_append.1 hv with hv | hv
  · exact qvd v (by simpa using hv)
  · simp at hv
    rcases hv with rfl | rfl <;> trivial
def spL (x y:Sp):Bool:=if x.1=y.1 then decide (x.2.1 < y.2.1) else ltI x.1.1 y.1.1
section
variable {F0:List Nat} {w0 w:World} {ps r1:List As} {s:Sl} {D:List Sp}
theorem St.spId {n:Int} {X:Array Value→Prop} (h:St F0 w0 w ps) [Rdb F0 w0 s ps 22 (D.flatMap spC)] (j:Nat) (hi:n=j) (hj:j < D.length) (hk:X ⟨nmC D[j].1⟩):ixS s.a s.len n 22 fun a=>Go.Proofs.YtonmgkkkiejicaaGreat.ldA w (Addr.add a 0) 20 X:=by
 refine h.rix (f:=spC) (L:=D) j hi hj fun a0 ha=>?_
 refine ⟨⟨nmC D[j].1⟩,by unfold nmC; simp [D[j].1.2.1],fun o ho=>?_,hk⟩
 have hr:=h.rdb s
 rw [qke,qke,show j * 22+(0+o)=j * 22+o by omega,← qke,hr.rcell ha hj (by omega)]
 unfold spC nmC
 rw [List.getElem?_append_left (by rw [qw,D[j].1.2.1]; exact ho)]
 simp
theorem St.spPk {n:Int} {X:Int→Prop} (h:St F0 w0 w ps) [Rdb F0 w0 s ps 22 (D.flatMap spC)] (j:Nat) (hi:n=j) (hj:j < D.length) (hk:X D[j].2.1):ixS s.a s.len n 22 fun a=>Go.Proofs.YtonmgkkkiejicaaGreat.ldI .i64 w (Addr.add a 20) X:=by
 refine h.rix (f:=spC) (L:=D) j hi hj fun a0 ha=>⟨D[j].2.1,?_,hk⟩
 have hr:=h.rdb s
 rw [hr.rcell (f:=spC) (L:=D) (o:=20) ha hj (by decide)]
 unfold spC
 rw [List.getElem?_append_right (by rw [qw,D[j].1.2.1]; decide),qw,D[j].1.2.1]
 rfl
theorem q_Less.c {i k:Nat} {K:Ending→World→Prop} (h:St F0 w0 w ps) [Rdb F0 w0 s ps 22 (D.flatMap spC)] (hi:i < D.length) (hk0:k < D.length) (hk:∀ w',St F0 w0 w' ps→K (.returned (.bool (spL D[i] D[k]))) w') :
 Calls Tryz.prog 137 ⟨[sV s,.int .i64 i,.int .i64 k]⟩ w K:=by
 refine qsb (qjf.ok _ _ _ _ _ ?_)
 unfold qjf
 refine h.drewK fun w h=>?_
 refine h.spId i rfl hi ?_
 refine h.spId k rfl hk0 ?_
 refine eqA_i (xs:=D[i].1.1) (ys:=D[k].1.1) D[i].1.2.1 D[k].1.2.1 ?_
 unfold spL at hk
 by_cases e:D[i].1=D[k].1
 · rw [if_pos e] at hk
   rw [e,beq_self_eq_true]
   refine qmd (fun g=>by cases g) (fun _=>?_)
   refine h.drewK fun w h=>?_
   refine h.spPk i rfl hi ?_
   refine h.spPk k rfl hk0 ?_
   exact hk w h
 · rw [if_neg e] at hk
   have e2:(D[i].1.1 == D[k].1.1)=false:=beq_eq_false_iff_ne.2 fun x=>e (Nm.ext' x)
   rw [e2]
   refine qmd (fun _=>?_) (fun g=>by cases g)
   refine h.drewK fun w h=>?_
   refine h.spId i rfl hi ?_
   refine h.spId k rfl hk0 ?_
   exact qqh.c (p:=D[i].1) (q:=D[k].1) h fun w h=>⟨_,rfl,hk w h⟩
theorem q_Swap.c {i k:Nat} {K:Ending→World→Prop} (h:St F0 w0 w (qv 22 s (D.flatMap spC) :: ps)) (hi:i < D.length) (hk0:k < D.length) (hk:∀ w',St F0 w0 w' (qv 22 s (((D.set i D[k]).set k D[i]).flatMap spC) :: ps)→K (.returned (.tuple ⟨[]⟩)) w') :
 Calls Tryz.prog 140 ⟨[sV s,.int .i64 i,.int .i64 k]⟩ w K:=by
 refine qsb (qhf.ok _ _ _ _ _ ?_)
 unfold qhf
 refine h.drewK fun w h=>?_
 refine h.lr (s:=s) (f:=spC) (L:=D) k rfl hk0 ?_
 refine h.lr (s:=s) (f:=spC) (L:=D) i rfl hi ?_
 haveI:Inhabited Sp:=⟨D[i]⟩
 refine h.sE (f:=spC) (x:=D[k]) i rfl hi fun w h=>?_
 refine h.sE (f:=spC) (x:=D[i]) k rfl (by rw [List.length_set]; exact hk0) fun w h=>?_
 exact hk w h
end
end Go.Proofs.YtonmgkkkiejicaaGreat
