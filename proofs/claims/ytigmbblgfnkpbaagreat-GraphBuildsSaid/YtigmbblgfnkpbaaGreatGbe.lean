/- Own texts as one, only what is reached (shake.py). -/
import Derived.Test.YtigmbblgfnkpbaaGreatGbd
import Derived.Test.YtigmbblgfnkpbaaGreatProg
set_option linter.unusedSectionVars false
namespace Go.Proofs.YtigmbblgfnkpbaaGreat
open Go Go.Proofs
set_option linter.unusedVariables false
set_option maxRecDepth 100000
def qbc.j2  (Q:VWP) (w:World):Prop :=
 Q (.int .i64 (-1)) w
def qbc.b1 (l_0:Sl) (id_3:Addr) (i_5:Int) (Q:VWP) (nx1:Sl→Addr→Int→WP) (w:World):Prop :=
 br (decide (i_5 < (l_0.len:Int))) (
 lt (World.drew w) fun w1 =>
 ixS l_0.a l_0.len i_5 42 fun a2 =>
 ldA w1 (Addr.add a2 0) 20 fun c3 =>
 ldA w1 id_3 20 fun c4 =>
 eqA .u8 20 c3 c4 fun x5 =>
 br x5 (
 Q (.int .i64 i_5) w1) (
 lt (IntKind.i64.wrap (i_5+1)) fun x6 =>
 nx1 l_0 id_3 x6 w1)) (
 qbc.j2 Q w)
def qbc.l1 (l_0:Sl) (id_3:Addr) (i_5:Int) (Q:VWP) (w:World):Prop :=
 ∃ (I:Int→WP) (μ:Int→World→Nat),I i_5 w∧∀ i_5:Int,∀ w:World,I i_5 w→qbc.b1 l_0 id_3 i_5 Q (fun l_0' id_3' i_5' w'=>(l_0'=l_0∧id_3'=id_3)∧I i_5' w'∧μ i_5' w' < μ i_5 w) w
def qbc.j3 (l_0:Sl) (id_3:Addr) (i_5:Int) (Q:VWP) (w:World):Prop :=
 qbc.l1 l_0 id_3 i_5 Q w
def qbc.j1 (l_0:Sl) (id_3:Addr) (Q:VWP) (w:World):Prop :=
 qbc.j3 l_0 id_3 0 Q w
def qbc (l_0:Sl) (id_1:(Array Value)) (Q:VWP) (w:World):Prop :=
 nw w id_1 23 fun a7 w8 =>
 qbc.j1 l_0 a7 Q w8
theorem qbc.ok (l_0:Sl) (id_1:(Array Value)) (Q:VWP) (w:World) (h:qbc l_0 id_1 Q w):Calls Tryz.prog 52 ⟨[sV l_0,.agg id_1]⟩ w (Ret Q) :=
 qgc [.tmp 4] qjd Tryz.func52 rfl rfl rfl rfl (.sq [sL 0,sA 3] (fun a b w=>qbc.j1 a b Q w) .lf (.sq [] (fun  w=>qbc.j2 Q w) (.sq [sL 0,sA 3,sI 5] (fun a b c w=>qbc.j3 a b c Q w) .lf (.bk (.lo [sL 0,sA 3] [sI 5] (fun a b c w=>qbc.l1 a b c Q w) (fun nx1 a b c w=>qbc.b1 a b c Q nx1 w) fun nx1=>.lf))) .lf)) (by kernel_rfl) h
def qp.j2 (t3:Sl) (Q:VWP) (w:World):Prop :=
 Q (sV t3) w
def qp.j5 (d_0 t3:Sl) (t4:Int) (Q:VWP) (nx1:Sl→Sl→Int→WP) (w:World):Prop :=
 lt (IntKind.i64.wrap (t4+1)) fun x1 =>
 nx1 d_0 t3 x1 w
def qp.j8 (d_0 t3:Sl) (t4:Int) (t5:Int) (Q:VWP) (nx1:Sl→Sl→Int→WP) (w:World):Prop :=
 lt (World.drew w) fun w2 =>
 bd t5 t3.cap fun n3 =>
 lt (⟨qwd t3.a t3.cap 0 42,n3 - 0,t3.cap - 0⟩:Sl) fun s4 =>
 ixS d_0.a d_0.len t4 42 fun a5 =>
 (nw w2 ⟨(qke 0 (zc Tryz.prog 52).toList)⟩ 52 fun a6 w7 =>
 (rdO w7 s4.a (s4.len * 42) fun c8 =>
 apK Tryz.prog 52 w7 (some a6) 0 0 s4.len c8 fun s9 w10 =>
 ldA w10 a5 42 fun c11 =>
 (c11).size=42 ∧
 nw w10 ⟨(spl (qke 1 (zc Tryz.prog 52).toList) 0 c11)⟩ 52 fun a12 w13 =>
 rdO w13 (some a12) (1 * 42) fun c14 =>
 apK Tryz.prog 52 w13 s9.a s9.len s9.cap 1 c14 fun s15 w16 =>
 bd t5 t3.len fun n17 =>
 lt (⟨qwd t3.a t3.cap n17 42,t3.len - n17,t3.cap - n17⟩:Sl) fun s18 =>
 rdO w16 s18.a (s18.len * 42) fun c19 =>
 apK Tryz.prog 52 w16 s15.a s15.len s15.cap s18.len c19 fun s20 w21 =>
 qp.j5 d_0 s20 t4 Q nx1 w21)∧(
 ldA w7 a5 42 fun c22 =>
 (rdO w7 s4.a (s4.len * 42) fun c23 =>
 apK Tryz.prog 52 w7 (some a6) 0 0 s4.len c23 fun s24 w25 =>
 (c22).size=42 ∧
 nw w25 ⟨(spl (qke 1 (zc Tryz.prog 52).toList) 0 c22)⟩ 52 fun a26 w27 =>
 rdO w27 (some a26) (1 * 42) fun c28 =>
 apK Tryz.prog 52 w27 s24.a s24.len s24.cap 1 c28 fun s29 w30 =>
 bd t5 t3.len fun n31 =>
 lt (⟨qwd t3.a t3.cap n31 42,t3.len - n31,t3.cap - n31⟩:Sl) fun s32 =>
 rdO w30 s32.a (s32.len * 42) fun c33 =>
 apK Tryz.prog 52 w30 s29.a s29.len s29.cap s32.len c33 fun s34 w35 =>
 qp.j5 d_0 s34 t4 Q nx1 w35)∧(
 (c22).size=42 ∧
 nw w7 ⟨(spl (qke 1 (zc Tryz.prog 52).toList) 0 c22)⟩ 52 fun a36 w37 =>
 rdO w37 s4.a (s4.len * 42) fun c38 =>
 apK Tryz.prog 52 w37 (some a6) 0 0 s4.len c38 fun s39 w40 =>
 rdO w40 (some a36) (1 * 42) fun c41 =>
 apK Tryz.prog 52 w40 s39.a s39.len s39.cap 1 c41 fun s42 w43 =>
 bd t5 t3.len fun n44 =>
 lt (⟨qwd t3.a t3.cap n44 42,t3.len - n44,t3.cap - n44⟩:Sl) fun s45 =>
 rdO w43 s45.a (s45.len * 42) fun c46 =>
 apK Tryz.prog 52 w43 s42.a s42.len s42.cap s45.len c46 fun s47 w48 =>
 qp.j5 d_0 s47 t4 Q nx1 w48)))∧(
 ldA w2 a5 42 fun c49 =>
 (nw w2 ⟨(qke 0 (zc Tryz.prog 52).toList)⟩ 52 fun a50 w51 =>
 (rdO w51 s4.a (s4.len * 42) fun c52 =>
 apK Tryz.prog 52 w51 (some a50) 0 0 s4.len c52 fun s53 w54 =>
 (c49).size=42 ∧
 nw w54 ⟨(spl (qke 1 (zc Tryz.prog 52).toList) 0 c49)⟩ 52 fun a55 w56 =>
 rdO w56 (some a55) (1 * 42) fun c57 =>
 apK Tryz.prog 52 w56 s53.a s53.len s53.cap 1 c57 fun s58 w59 =>
 bd t5 t3.len fun n60 =>
 lt (⟨qwd t3.a t3.cap n60 42,t3.len - n60,t3.cap - n60⟩:Sl) fun s61 =>
 rdO w59 s61.a (s61.len * 42) fun c62 =>
 apK Tryz.prog 52 w59 s58.a s58.len s58.cap s61.len c62 fun s63 w64 =>
 qp.j5 d_0 s63 t4 Q nx1 w64)∧(
 (c49).size=42 ∧
 nw w51 ⟨(spl (qke 1 (zc Tryz.prog 52).toList) 0 c49)⟩ 52 fun a65 w66 =>
 rdO w66 s4.a (s4.len * 42) fun c67 =>
 apK Tryz.prog 52 w66 (some a50) 0 0 s4.len c67 fun s68 w69 =>
 rdO w69 (some a65) (1 * 42) fun c70 =>
 apK Tryz.prog 52 w69 s68.a s68.len s68.cap 1 c70 fun s71 w72 =>
 bd t5 t3.len fun n73 =>
 lt (⟨qwd t3.a t3.cap n73 42,t3.len - n73,t3.cap - n73⟩:Sl) fun s74 =>
 rdO w72 s74.a (s74.len * 42) fun c75 =>
 apK Tryz.prog 52 w72 s71.a s71.len s71.cap s74.len c75 fun s76 w77 =>
 qp.j5 d_0 s76 t4 Q nx1 w77))∧(
 (c49).size=42 ∧
 nw w2 ⟨(spl (qke 1 (zc Tryz.prog 52).toList) 0 c49)⟩ 52 fun a78 w79 =>
 nw w79 ⟨(qke 0 (zc Tryz.prog 52).toList)⟩ 52 fun a80 w81 =>
 rdO w81 s4.a (s4.len * 42) fun c82 =>
 apK Tryz.prog 52 w81 (some a80) 0 0 s4.len c82 fun s83 w84 =>
 rdO w84 (some a78) (1 * 42) fun c85 =>
 apK Tryz.prog 52 w84 s83.a s83.len s83.cap 1 c85 fun s86 w87 =>
 bd t5 t3.len fun n88 =>
 lt (⟨qwd t3.a t3.cap n88 42,t3.len - n88,t3.cap - n88⟩:Sl) fun s89 =>
 rdO w87 s89.a (s89.len * 42) fun c90 =>
 apK Tryz.prog 52 w87 s86.a s86.len s86.cap s89.len c90 fun s91 w92 =>
 qp.j5 d_0 s91 t4 Q nx1 w92))
def qp.j7 (d_0 t3:Sl) (t4:Int) (t5:Int) (Q:VWP) (nx1:Sl→Sl→Int→WP) (w:World):Prop :=
 lt (World.drew w) fun w93 =>
 br (decide (t5 < (t3.len:Int))) (
 ixS t3.a t3.len t5 42 fun a94 =>
 ldA w93 (Addr.add a94 0) 20 fun c95 =>
 ixS d_0.a d_0.len t4 42 fun a96 =>
 ldA w93 (Addr.add a96 0) 20 fun c97 =>
 eqA .u8 20 c95 c97 fun x98 =>
 br x98 (
 qp.j5 d_0 t3 t4 Q nx1 w93) (
 qp.j8 d_0 t3 t4 t5 Q nx1 w93)) (
 qp.j8 d_0 t3 t4 t5 Q nx1 w93)
def qp.b2 (d_0 t3:Sl) (t4:Int) (t5:Int) (Q:VWP) (nx1:Sl→Sl→Int→WP) (nx2:Sl→Sl→Int→Int→WP) (w:World):Prop :=
 lt (World.drew w) fun w99 =>
 br (decide (t5 < (t3.len:Int))) (
 ixS t3.a t3.len t5 42 fun a100 =>
 ldA w99 (Addr.add a100 0) 20 fun c101 =>
 ixS d_0.a d_0.len t4 42 fun a102 =>
 ldA w99 (Addr.add a102 0) 20 fun c103 =>
 qwl 83 [.agg c101,.agg c103] w99 fun r106 w105 =>
 br r106 (
 lt (IntKind.i64.wrap (t5+1)) fun x107 =>
 nx2 d_0 t3 t4 x107 w105) (
 qp.j7 d_0 t3 t4 t5 Q nx1 w105)) (
 qp.j7 d_0 t3 t4 t5 Q nx1 w99)
def qp.l2 (d_0 t3:Sl) (t4:Int) (t5:Int) (Q:VWP) (nx1:Sl→Sl→Int→WP) (w:World):Prop :=
 ∃ (I:Int→WP) (μ:Int→World→Nat),I t5 w∧∀ t5:Int,∀ w:World,I t5 w→qp.b2 d_0 t3 t4 t5 Q nx1 (fun d_0' t3' t4' t5' w'=>(d_0'=d_0∧t3'=t3∧t4'=t4)∧I t5' w'∧μ t5' w' < μ t5 w) w
def qp.j6 (d_0 t3:Sl) (t4:Int) (t5:Int) (Q:VWP) (nx1:Sl→Sl→Int→WP) (w:World):Prop :=
 qp.l2 d_0 t3 t4 t5 Q nx1 w
def qp.j4 (d_0 t3:Sl) (t4:Int) (Q:VWP) (nx1:Sl→Sl→Int→WP) (w:World):Prop :=
 qp.j6 d_0 t3 t4 0 Q nx1 w
def qp.b1 (d_0 t3:Sl) (t4:Int) (Q:VWP) (nx1:Sl→Sl→Int→WP) (w:World):Prop :=
 br (decide (t4 < (d_0.len:Int))) (
 qp.j4 d_0 t3 t4 Q nx1 w) (
 qp.j2 t3 Q w)
def qp.l1 (d_0 t3:Sl) (t4:Int) (Q:VWP) (w:World):Prop :=
 ∃ (I:Sl→Int→WP) (μ:Sl→Int→World→Nat),I t3 t4 w∧∀ t3:Sl,∀ t4:Int,∀ w:World,I t3 t4 w→qp.b1 d_0 t3 t4 Q (fun d_0' t3' t4' w'=>(d_0'=d_0)∧I t3' t4' w'∧μ t3' t4' w' < μ t3 t4 w) w
def qp.j3 (d_0 t3:Sl) (t4:Int) (Q:VWP) (w:World):Prop :=
 qp.l1 d_0 t3 t4 Q w
def qp.j1 (d_0 t3:Sl) (Q:VWP) (w:World):Prop :=
 qp.j3 d_0 t3 0 Q w
def qp (d_0:Sl) (Q:VWP) (w:World):Prop :=
 qp.j1 d_0 ⟨none,0,0⟩ Q w
theorem qp.ok (d_0:Sl) (Q:VWP) (w:World) (h:qp d_0 Q w):Calls Tryz.prog 51 ⟨[sV d_0]⟩ w (Ret Q) :=
 qgc [.tmp 2] qjd Tryz.func51 rfl rfl rfl rfl (.pr 1 [sL 0,sL 3] (fun a b w=>qp.j1 a b Q w) (.sq [sL 3] (fun a w=>qp.j2 a Q w) (.sq [sL 0,sL 3,sI 4] (fun a b c w=>qp.j3 a b c Q w) .lf (.bk (.lo [sL 0] [sL 3,sI 4] (fun a b c w=>qp.l1 a b c Q w) (fun nx1 a b c w=>qp.b1 a b c Q nx1 w) fun nx1=>(.sq [sL 0,sL 3,sI 4] (fun a b c w=>qp.j4 a b c Q nx1 w) .lf (.sq [sL 0,sL 3,sI 4] (fun a b c w=>qp.j5 a b c Q nx1 w) (.bk (.sq [sL 0,sL 3,sI 4,sI 5] (fun a b c d w=>qp.j6 a b c d Q nx1 w) .lf (.sq [sL 0,sL 3,sI 4,sI 5] (fun a b c d w=>qp.j7 a b c d Q nx1 w) (.bk (.lo [sL 0,sL 3,sI 4] [sI 5] (fun a b c d w=>qp.l2 a b c d Q nx1 w) (fun nx2 a b c d w=>qp.b2 a b c d Q nx1 nx2 w) fun nx2=>.lf)) (.sq [sL 0,sL 3,sI 4,sI 5] (fun a b c d w=>qp.j8 a b c d Q nx1 w) .lf .lf)))) .lf))))) .lf)) (by kernel_rfl) h
def qyb.j2  (Q:VWP) (w:World):Prop :=
 Q (.bool true) w
def qyb.b1 (l_0:Sl) (n_3:Addr) (i_5:Int) (Q:VWP) (nx1:Sl→Addr→Int→WP) (w:World):Prop :=
 ldL w (Addr.add n_3 40) fun x1 =>
 br (decide (i_5 < (x1.len:Int))) (
 ldL w (Addr.add n_3 40) fun x2 =>
 ixS x2.a x2.len i_5 20 fun a3 =>
 ldA w a3 20 fun c4 =>
 qnf 52 [sV l_0,.agg c4] w fun r7 w6 =>
 br (decide (r7 < 0)) (
 Q (.bool false) w6) (
 lt (IntKind.i64.wrap (i_5+1)) fun x8 =>
 nx1 l_0 n_3 x8 w6)) (
 qyb.j2 Q w)
def qyb.l1 (l_0:Sl) (n_3:Addr) (i_5:Int) (Q:VWP) (w:World):Prop :=
 ∃ (I:Int→WP) (μ:Int→World→Nat),I i_5 w∧∀ i_5:Int,∀ w:World,I i_5 w→qyb.b1 l_0 n_3 i_5 Q (fun l_0' n_3' i_5' w'=>(l_0'=l_0∧n_3'=n_3)∧I i_5' w'∧μ i_5' w' < μ i_5 w) w
def qyb.j3 (l_0:Sl) (n_3:Addr) (i_5:Int) (Q:VWP) (w:World):Prop :=
 qyb.l1 l_0 n_3 i_5 Q w
def qyb.j1 (l_0:Sl) (n_3:Addr) (Q:VWP) (w:World):Prop :=
 qyb.j3 l_0 n_3 0 Q w
def qyb (l_0:Sl) (n_1:(Array Value)) (Q:VWP) (w:World):Prop :=
 nw w n_1 52 fun a9 w10 =>
 qyb.j1 l_0 a9 Q w10
theorem qyb.ok (l_0:Sl) (n_1:(Array Value)) (Q:VWP) (w:World) (h:qyb l_0 n_1 Q w):Calls Tryz.prog 53 ⟨[sV l_0,.agg n_1]⟩ w (Ret Q) :=
 qgc [.tmp 4] qjd Tryz.func53 rfl rfl rfl rfl (.sq [sL 0,sA 3] (fun a b w=>qyb.j1 a b Q w) .lf (.sq [] (fun  w=>qyb.j2 Q w) (.sq [sL 0,sA 3,sI 5] (fun a b c w=>qyb.j3 a b c Q w) .lf (.bk (.lo [sL 0,sA 3] [sI 5] (fun a b c w=>qyb.l1 a b c Q w) (fun nx1 a b c w=>qyb.b1 a b c Q nx1 w) fun nx1=>.lf))) .lf)) (by kernel_rfl) h
def qr.j3 (out_4:Sl) (Q:VWP) (w:World):Prop :=
 qtc 51 [sV out_4] w fun r3 w2 =>
 Q (sV r3) w2
def qr.j8 (s_3 out_4:Sl) (again_5:Bool) (i_6:Int) (Q:VWP) (nx1:Sl→Sl→Bool→WP) (nx2:Sl→Sl→Bool→Int→WP) (w:World):Prop :=
 lt (IntKind.i64.wrap (i_6+1)) fun x4 =>
 nx2 s_3 out_4 again_5 x4 w
def qr.j9 (s_3 out_4:Sl) (again_5:Bool) (i_6:Int) (t31:Bool) (Q:VWP) (nx1:Sl→Sl→Bool→WP) (nx2:Sl→Sl→Bool→Int→WP) (w:World):Prop :=
 br t31 (
 ixS s_3.a s_3.len i_6 42 fun a5 =>
 ldA w a5 42 fun c6 =>
 (c6).size=42 ∧
 nw w ⟨(spl (qke 1 (zc Tryz.prog 52).toList) 0 c6)⟩ 52 fun a7 w8 =>
 rdO w8 (some a7) (1 * 42) fun c9 =>
 apK Tryz.prog 52 w8 out_4.a out_4.len out_4.cap 1 c9 fun s10 w11 =>
 qr.j8 s_3 s10 true i_6 Q nx1 nx2 w11) (
 qr.j8 s_3 out_4 again_5 i_6 Q nx1 nx2 w)
def qr.j7 (s_3 out_4:Sl) (again_5:Bool) (i_6:Int) (Q:VWP) (nx1:Sl→Sl→Bool→WP) (nx2:Sl→Sl→Bool→Int→WP) (w:World):Prop :=
 ixS s_3.a s_3.len i_6 42 fun a12 =>
 ldA w (Addr.add a12 0) 20 fun c13 =>
 qnf 52 [sV out_4,.agg c13] w fun r16 w15 =>
 br (decide (r16 < 0)) (
 ixS s_3.a s_3.len i_6 42 fun a17 =>
 ldA w15 a17 42 fun c18 =>
 qwl 53 [sV out_4,.agg c18] w15 fun r21 w20 =>
 qr.j9 s_3 out_4 again_5 i_6 r21 Q nx1 nx2 w20) (
 qr.j9 s_3 out_4 again_5 i_6 false Q nx1 nx2 w15)
def qr.b2 (s_3 out_4:Sl) (again_5:Bool) (i_6:Int) (Q:VWP) (nx1:Sl→Sl→Bool→WP) (nx2:Sl→Sl→Bool→Int→WP) (w:World):Prop :=
 br (decide (i_6 < (s_3.len:Int))) (
 qr.j7 s_3 out_4 again_5 i_6 Q nx1 nx2 w) (
 nx1 s_3 out_4 again_5 w)
def qr.l2 (s_3 out_4:Sl) (again_5:Bool) (i_6:Int) (Q:VWP) (nx1:Sl→Sl→Bool→WP) (w:World):Prop :=
 ∃ (I:Sl→Bool→Int→WP) (μ:Sl→Bool→Int→World→Nat),I out_4 again_5 i_6 w∧∀ out_4:Sl,∀ again_5:Bool,∀ i_6:Int,∀ w:World,I out_4 again_5 i_6 w→qr.b2 s_3 out_4 again_5 i_6 Q nx1 (fun s_3' out_4' again_5' i_6' w'=>(s_3'=s_3)∧I out_4' again_5' i_6' w'∧μ out_4' again_5' i_6' w' < μ out_4 again_5 i_6 w) w
def qr.j6 (s_3 out_4:Sl) (again_5:Bool) (i_6:Int) (Q:VWP) (nx1:Sl→Sl→Bool→WP) (w:World):Prop :=
 qr.l2 s_3 out_4 again_5 i_6 Q nx1 w
def qr.j5 (s_3 out_4:Sl) (Q:VWP) (nx1:Sl→Sl→Bool→WP) (w:World):Prop :=
 qr.j6 s_3 out_4 false 0 Q nx1 w
def qr.b1 (s_3 out_4:Sl) (again_5:Bool) (Q:VWP) (nx1:Sl→Sl→Bool→WP) (w:World):Prop :=
 br again_5 (
 qr.j5 s_3 out_4 Q nx1 w) (
 qr.j3 out_4 Q w)
def qr.l1 (s_3 out_4:Sl) (again_5:Bool) (Q:VWP) (w:World):Prop :=
 ∃ (I:Sl→Bool→WP) (μ:Sl→Bool→World→Nat),I out_4 again_5 w∧∀ out_4:Sl,∀ again_5:Bool,∀ w:World,I out_4 again_5 w→qr.b1 s_3 out_4 again_5 Q (fun s_3' out_4' again_5' w'=>(s_3'=s_3)∧I out_4' again_5' w'∧μ out_4' again_5' w' < μ out_4 again_5 w) w
def qr.j4 (s_3 out_4:Sl) (again_5:Bool) (Q:VWP) (w:World):Prop :=
 qr.l1 s_3 out_4 again_5 Q w
def qr.j2 (s_3 out_4:Sl) (Q:VWP) (w:World):Prop :=
 qr.j4 s_3 out_4 true Q w
def qr.j1 (l_0:Sl) (Q:VWP) (w:World):Prop :=
 qtc 51 [sV l_0] w fun r24 w23 =>
 qr.j2 r24 ⟨none,0,0⟩ Q w23
def qr (l_0:Sl) (Q:VWP) (w:World):Prop :=
 qr.j1 l_0 Q w
theorem qr.ok (l_0:Sl) (Q:VWP) (w:World) (h:qr l_0 Q w):Calls Tryz.prog 15 ⟨[sV l_0]⟩ w (Ret Q) :=
 qgc [.tmp 2] qjd Tryz.func15 rfl rfl rfl rfl (.sq [sL 0] (fun a w=>qr.j1 a Q w) .lf (.pr 1 [sL 3,sL 4] (fun a b w=>qr.j2 a b Q w) (.sq [sL 4] (fun a w=>qr.j3 a Q w) (.sq [sL 3,sL 4,sB 5] (fun a b c w=>qr.j4 a b c Q w) .lf (.bk (.lo [sL 3] [sL 4,sB 5] (fun a b c w=>qr.l1 a b c Q w) (fun nx1 a b c w=>qr.b1 a b c Q nx1 w) fun nx1=>(.sq [sL 3,sL 4] (fun a b w=>qr.j5 a b Q nx1 w) .lf (.bk (.pr 1 [sL 3,sL 4,sB 5,sI 6] (fun a b c d w=>qr.j6 a b c d Q nx1 w) (.bk (.lo [sL 3] [sL 4,sB 5,sI 6] (fun a b c d w=>qr.l2 a b c d Q nx1 w) (fun nx2 a b c d w=>qr.b2 a b c d Q nx1 nx2 w) fun nx2=>(.sq [sL 3,sL 4,sB 5,sI 6] (fun a b c d w=>qr.j7 a b c d Q nx1 nx2 w) .lf (.sq [sL 3,sL 4,sB 5,sI 6] (fun a b c d w=>qr.j8 a b c d Q nx1 nx2 w) (.bk (.sq [sL 3,sL 4,sB 5,sI 6,sB 31] (fun a b c d e w=>qr.j9 a b c d e Q nx1 nx2 w) .lf .lf)) .lf)))))))))) .lf))) (by kernel_rfl) h
def qe.j4 (d_0 t5:Sl) (t6:Int) (Q:VWP) (w:World):Prop :=
 br (decide (t6 < (d_0.len:Int))) (
 Q (.tuple ⟨[.slice none 0 0,.int .i64 12]⟩) w) (
 Q (.tuple ⟨[sV t5,.int .i64 0]⟩) w)
def qe.j9 (d_0 t5:Sl) (t6:Int) (t7:Bool) (t8:Int) (Q:VWP) (nx1:Sl→Sl→Int→Bool→WP) (nx2:Sl→Sl→Int→Bool→Int→WP) (w:World):Prop :=
 lt (IntKind.i64.wrap (t8+1)) fun x1 =>
 nx2 d_0 t5 t6 t7 x1 w
def qe.j11 (d_0 t5:Sl) (t6:Int) (t7:Bool) (t8:Int) (t9:Int) (Q:VWP) (nx1:Sl→Sl→Int→Bool→WP) (nx2:Sl→Sl→Int→Bool→Int→WP) (w:World):Prop :=
 br (decide (t9 ≥ 0)) (
 lt (IntKind.i64.wrap (t9+1)) fun x2 =>
 ixS t5.a t5.len t8 1 fun a3 =>
 st w a3 (.int .i64 x2) fun w4 =>
 lt (IntKind.i64.wrap (t6+1)) fun x5 =>
 qe.j9 d_0 t5 x5 true t8 Q nx1 nx2 w4) (
 qe.j9 d_0 t5 t6 t7 t8 Q nx1 nx2 w)
def qe.b3 (d_0 t5:Sl) (t6:Int) (t7:Bool) (t8:Int) (t9 t10:Int) (Q:VWP) (nx1:Sl→Sl→Int→Bool→WP) (nx2:Sl→Sl→Int→Bool→Int→WP) (nx3:Sl→Sl→Int→Bool→Int→Int→Int→WP) (w:World):Prop :=
 ixS d_0.a d_0.len t8 42 fun a6 =>
 ldL w (Addr.add a6 40) fun x7 =>
 br (decide (t10 < (x7.len:Int))) (
 br (decide (t9 ≥ 0)) (
 ixS d_0.a d_0.len t8 42 fun a8 =>
 ldL w (Addr.add a8 40) fun x9 =>
 ixS x9.a x9.len t10 20 fun a10 =>
 ldA w a10 20 fun c11 =>
 qnf 52 [sV d_0,.agg c11] w fun r14 w13 =>
 br (decide (r14 < 0)) (
 lt (IntKind.i64.wrap (t10+1)) fun x15 =>
 nx3 d_0 t5 t6 t7 t8 t9 x15 w13) (
 ixS t5.a t5.len r14 1 fun a16 =>
 ldI .i64 w13 a16 fun x17 =>
 br (x17 == 0) (
 lt (IntKind.i64.wrap (t10+1)) fun x18 =>
 nx3 d_0 t5 t6 t7 t8 (-1) x18 w13) (
 ixS t5.a t5.len r14 1 fun a19 =>
 ldI .i64 w13 a19 fun x20 =>
 br (decide (x20 > t9)) (
 ixS t5.a t5.len r14 1 fun a21 =>
 ldI .i64 w13 a21 fun x22 =>
 lt (IntKind.i64.wrap (t10+1)) fun x23 =>
 nx3 d_0 t5 t6 t7 t8 x22 x23 w13) (
 lt (IntKind.i64.wrap (t10+1)) fun x24 =>
 nx3 d_0 t5 t6 t7 t8 t9 x24 w13)))) (
 qe.j11 d_0 t5 t6 t7 t8 t9 Q nx1 nx2 w)) (
 qe.j11 d_0 t5 t6 t7 t8 t9 Q nx1 nx2 w)
def qe.l3 (d_0 t5:Sl) (t6:Int) (t7:Bool) (t8:Int) (t9 t10:Int) (Q:VWP) (nx1:Sl→Sl→Int→Bool→WP) (nx2:Sl→Sl→Int→Bool→Int→WP) (w:World):Prop :=
 ∃ (I:Int→Int→WP) (μ:Int→Int→World→Nat),I t9 t10 w∧∀ t9:Int,∀ t10:Int,∀ w:World,I t9 t10 w→qe.b3 d_0 t5 t6 t7 t8 t9 t10 Q nx1 nx2 (fun d_0' t5' t6' t7' t8' t9' t10' w'=>(d_0'=d_0∧t5'=t5∧t6'=t6∧t7'=t7∧t8'=t8)∧I t9' t10' w'∧μ t9' t10' w' < μ t9 t10 w) w
def qe.j12 (d_0 t5:Sl) (t6:Int) (t7:Bool) (t8:Int) (t9 t10:Int) (Q:VWP) (nx1:Sl→Sl→Int→Bool→WP) (nx2:Sl→Sl→Int→Bool→Int→WP) (w:World):Prop :=
 qe.l3 d_0 t5 t6 t7 t8 t9 t10 Q nx1 nx2 w
def qe.j10 (d_0 t5:Sl) (t6:Int) (t7:Bool) (t8:Int) (t9:Int) (Q:VWP) (nx1:Sl→Sl→Int→Bool→WP) (nx2:Sl→Sl→Int→Bool→Int→WP) (w:World):Prop :=
 qe.j12 d_0 t5 t6 t7 t8 t9 0 Q nx1 nx2 w
def qe.j8 (d_0 t5:Sl) (t6:Int) (t7:Bool) (t8:Int) (Q:VWP) (nx1:Sl→Sl→Int→Bool→WP) (nx2:Sl→Sl→Int→Bool→Int→WP) (w:World):Prop :=
 ixS t5.a t5.len t8 1 fun a25 =>
 ldI .i64 w a25 fun x26 =>
 br (decide (x26 > 0)) (
 qe.j9 d_0 t5 t6 t7 t8 Q nx1 nx2 w) (
 qe.j10 d_0 t5 t6 t7 t8 0 Q nx1 nx2 w)
def qe.b2 (d_0 t5:Sl) (t6:Int) (t7:Bool) (t8:Int) (Q:VWP) (nx1:Sl→Sl→Int→Bool→WP) (nx2:Sl→Sl→Int→Bool→Int→WP) (w:World):Prop :=
 br (decide (t8 < (d_0.len:Int))) (
 qe.j8 d_0 t5 t6 t7 t8 Q nx1 nx2 w) (
 nx1 d_0 t5 t6 t7 w)
def qe.l2 (d_0 t5:Sl) (t6:Int) (t7:Bool) (t8:Int) (Q:VWP) (nx1:Sl→Sl→Int→Bool→WP) (w:World):Prop :=
 ∃ (I:Int→Bool→Int→WP) (μ:Int→Bool→Int→World→Nat),I t6 t7 t8 w∧∀ t6:Int,∀ t7:Bool,∀ t8:Int,∀ w:World,I t6 t7 t8 w→qe.b2 d_0 t5 t6 t7 t8 Q nx1 (fun d_0' t5' t6' t7' t8' w'=>(d_0'=d_0∧t5'=t5)∧I t6' t7' t8' w'∧μ t6' t7' t8' w' < μ t6 t7 t8 w) w
def qe.j7 (d_0 t5:Sl) (t6:Int) (t7:Bool) (t8:Int) (Q:VWP) (nx1:Sl→Sl→Int→Bool→WP) (w:World):Prop :=
 qe.l2 d_0 t5 t6 t7 t8 Q nx1 w
def qe.j6 (d_0 t5:Sl) (t6:Int) (Q:VWP) (nx1:Sl→Sl→Int→Bool→WP) (w:World):Prop :=
 qe.j7 d_0 t5 t6 false 0 Q nx1 w
def qe.b1 (d_0 t5:Sl) (t6:Int) (t7:Bool) (Q:VWP) (nx1:Sl→Sl→Int→Bool→WP) (w:World):Prop :=
 br t7 (
 qe.j6 d_0 t5 t6 Q nx1 w) (
 qe.j4 d_0 t5 t6 Q w)
def qe.l1 (d_0 t5:Sl) (t6:Int) (t7:Bool) (Q:VWP) (w:World):Prop :=
 ∃ (I:Int→Bool→WP) (μ:Int→Bool→World→Nat),I t6 t7 w∧∀ t6:Int,∀ t7:Bool,∀ w:World,I t6 t7 w→qe.b1 d_0 t5 t6 t7 Q (fun d_0' t5' t6' t7' w'=>(d_0'=d_0∧t5'=t5)∧I t6' t7' w'∧μ t6' t7' w' < μ t6 t7 w) w
def qe.j5 (d_0 t5:Sl) (t6:Int) (t7:Bool) (Q:VWP) (w:World):Prop :=
 qe.l1 d_0 t5 t6 t7 Q w
def qe.j3 (d_0 t5:Sl) (t6:Int) (Q:VWP) (w:World):Prop :=
 qe.j5 d_0 t5 t6 true Q w
def qe.j2 (d_0:Sl) (Q:VWP) (w:World):Prop :=
 mkK Tryz.prog 3 w (d_0.len:Int) (d_0.len:Int) fun s27 w28 =>
 qe.j3 d_0 s27 0 Q w28
def qe.b4 (d_0:Sl) (t4:Int) (Q:VWP) (nx4:Sl→Int→WP) (w:World):Prop :=
 br (decide (t4 < (d_0.len:Int))) (
 ixS d_0.a d_0.len t4 42 fun a29 =>
 ldA w (Addr.add a29 0) 20 fun c30 =>
 qnf 52 [sV d_0,.agg c30] w fun r33 w32 =>
 br (r33 != t4) (
 Q (.tuple ⟨[.slice none 0 0,.int .i64 9]⟩) w32) (
 lt (IntKind.i64.wrap (t4+1)) fun x34 =>
 nx4 d_0 x34 w32)) (
 qe.j2 d_0 Q w)
def qe.l4 (d_0:Sl) (t4:Int) (Q:VWP) (w:World):Prop :=
 ∃ (I:Int→WP) (μ:Int→World→Nat),I t4 w∧∀ t4:Int,∀ w:World,I t4 w→qe.b4 d_0 t4 Q (fun d_0' t4' w'=>(d_0'=d_0)∧I t4' w'∧μ t4' w' < μ t4 w) w
def qe.j13 (d_0:Sl) (t4:Int) (Q:VWP) (w:World):Prop :=
 qe.l4 d_0 t4 Q w
def qe.j1 (d_0:Sl) (Q:VWP) (w:World):Prop :=
 qe.j13 d_0 0 Q w
def qe (d_0:Sl) (Q:VWP) (w:World):Prop :=
 qe.j1 d_0 Q w
theorem qe.ok (d_0:Sl) (Q:VWP) (w:World) (h:qe d_0 Q w):Calls Tryz.prog 18 ⟨[sV d_0]⟩ w (Ret Q) :=
 qgc [.tmp 2,.tmp 3] qjd Tryz.func18 rfl rfl rfl rfl (.sq [sL 0] (fun a w=>qe.j1 a Q w) .lf (.sq [sL 0] (fun a w=>qe.j2 a Q w) (.sq [sL 0,sI 4] (fun a b w=>qe.j13 a b Q w) .lf (.bk (.lo [sL 0] [sI 4] (fun a b w=>qe.l4 a b Q w) (fun nx4 a b w=>qe.b4 a b Q nx4 w) fun nx4=>.lf))) (.pr 1 [sL 0,sL 5,sI 6] (fun a b c w=>qe.j3 a b c Q w) (.sq [sL 0,sL 5,sI 6] (fun a b c w=>qe.j4 a b c Q w) (.sq [sL 0,sL 5,sI 6,sB 7] (fun a b c d w=>qe.j5 a b c d Q w) .lf (.bk (.lo [sL 0,sL 5] [sI 6,sB 7] (fun a b c d w=>qe.l1 a b c d Q w) (fun nx1 a b c d w=>qe.b1 a b c d Q nx1 w) fun nx1=>(.sq [sL 0,sL 5,sI 6] (fun a b c w=>qe.j6 a b c Q nx1 w) .lf (.bk (.pr 1 [sL 0,sL 5,sI 6,sB 7,sI 8] (fun a b c d e w=>qe.j7 a b c d e Q nx1 w) (.bk (.lo [sL 0,sL 5] [sI 6,sB 7,sI 8] (fun a b c d e w=>qe.l2 a b c d e Q nx1 w) (fun nx2 a b c d e w=>qe.b2 a b c d e Q nx1 nx2 w) fun nx2=>(.sq [sL 0,sL 5,sI 6,sB 7,sI 8] (fun a b c d e w=>qe.j8 a b c d e Q nx1 nx2 w) .lf (.sq [sL 0,sL 5,sI 6,sB 7,sI 8] (fun a b c d e w=>qe.j9 a b c d e Q nx1 nx2 w) (.bk (.pr 1 [sL 0,sL 5,sI 6,sB 7,sI 8,sI 9] (fun a b c d e f w=>qe.j10 a b c d e f Q nx1 nx2 w) (.sq [sL 0,sL 5,sI 6,sB 7,sI 8,sI 9] (fun a b c d e f w=>qe.j11 a b c d e f Q nx1 nx2 w) (.sq [sL 0,sL 5,sI 6,sB 7,sI 8,sI 9,sI 10] (fun a b c d e f g w=>qe.j12 a b c d e f g Q nx1 nx2 w) .lf (.bk (.lo [sL 0,sL 5,sI 6,sB 7,sI 8] [sI 9,sI 10] (fun a b c d e f g w=>qe.l3 a b c d e f g Q nx1 nx2 w) (fun nx3 a b c d e f g w=>qe.b3 a b c d e f g Q nx1 nx2 nx3 w) fun nx3=>.lf))) .lf))) .lf)))))))))) .lf)))) (by kernel_rfl) h
def qrb.j2 (d_0:Sl) (Q:VWP) (w:World):Prop :=
 qtc 51 [sV d_0] w fun r3 w2 =>
 qzl 18 [sV r3] w2 fun r6 r7 w5 =>
 br (r7 != 0) (
 Q (.tuple ⟨[.pointer none,.int .i64 r7]⟩) w5) (
 br (decide ((r3.len:Int) > 1024)) (
 Q (.tuple ⟨[.pointer none,.int .i64 5]⟩) w5) (
 nw w5 (⟨[sV r3,sV r6]⟩:Array Value) 91 fun a8 w9 =>
 Q (.tuple ⟨[.pointer (some a8),.int .i64 0]⟩) w9))
def qrb.b1 (d_0:Sl) (t4:Int) (Q:VWP) (nx1:Sl→Int→WP) (w:World):Prop :=
 br (decide (t4 < (d_0.len:Int))) (
 ixS d_0.a d_0.len t4 42 fun a10 =>
 ldA w (Addr.add a10 0) 20 fun c11 =>
 qnf 52 [sV d_0,.agg c11] w fun r14 w13 =>
 br (r14 != t4) (
 Q (.tuple ⟨[.pointer none,.int .i64 1]⟩) w13) (
 ixS d_0.a d_0.len t4 42 fun a15 =>
 ldA w13 a15 42 fun c16 =>
 qwl 53 [sV d_0,.agg c16] w13 fun r19 w18 =>
 br (!r19) (
 Q (.tuple ⟨[.pointer none,.int .i64 1]⟩) w18) (
 ixS d_0.a d_0.len t4 42 fun a20 =>
 ldI .i64 w18 (Addr.add a20 41) fun x21 =>
 br (decide (x21 < 0)) (
 Q (.tuple ⟨[.pointer none,.int .i64 1]⟩) w18) (
 ixS d_0.a d_0.len t4 42 fun a22 =>
 ldI .i64 w18 (Addr.add a22 41) fun x23 =>
 br (decide (x23 > 17179869183)) (
 Q (.tuple ⟨[.pointer none,.int .i64 1]⟩) w18) (
 lt (IntKind.i64.wrap (t4+1)) fun x24 =>
 nx1 d_0 x24 w18))))) (
 qrb.j2 d_0 Q w)
def qrb.l1 (d_0:Sl) (t4:Int) (Q:VWP) (w:World):Prop :=
 ∃ (I:Int→WP) (μ:Int→World→Nat),I t4 w∧∀ t4:Int,∀ w:World,I t4 w→qrb.b1 d_0 t4 Q (fun d_0' t4' w'=>(d_0'=d_0)∧I t4' w'∧μ t4' w' < μ t4 w) w
def qrb.j3 (d_0:Sl) (t4:Int) (Q:VWP) (w:World):Prop :=
 qrb.l1 d_0 t4 Q w
def qrb.j1 (d_0:Sl) (Q:VWP) (w:World):Prop :=
 qrb.j3 d_0 0 Q w
def qrb (d_0:Sl) (Q:VWP) (w:World):Prop :=
 qrb.j1 d_0 Q w
theorem qrb.ok (d_0:Sl) (Q:VWP) (w:World) (h:qrb d_0 Q w):Calls Tryz.prog 34 ⟨[sV d_0]⟩ w (Ret Q) :=
 qgc [.tmp 2,.tmp 3] qjd Tryz.func34 rfl rfl rfl rfl (.sq [sL 0] (fun a w=>qrb.j1 a Q w) .lf (.sq [sL 0] (fun a w=>qrb.j2 a Q w) (.sq [sL 0,sI 4] (fun a b w=>qrb.j3 a b Q w) .lf (.bk (.lo [sL 0] [sI 4] (fun a b w=>qrb.l1 a b Q w) (fun nx1 a b w=>qrb.b1 a b Q nx1 w) fun nx1=>.lf))) .lf)) (by kernel_rfl) h
def qc.j10 (t4 t5 t14:Sl) (Q:VWP) (w:World):Prop :=
 rdO w t4.a (t4.len * 1) fun c1 =>
 apK Tryz.prog 5 w t14.a t14.len t14.cap t4.len c1 fun s2 w3 =>
 rdO w3 t5.a (t5.len * 1) fun c4 =>
 apK Tryz.prog 5 w3 s2.a s2.len s2.cap t5.len c4 fun s5 w6 =>
 cr_G 41 [sV s5] w6 fun r9 w8 =>
 nw w8 (zc Tryz.prog 23) 23 fun a10 w11 =>
 (r9).size=20 ∧
 stA w11 a10 r9 fun w12 =>
 lt (⟨cutP a10 20 0 1,20 - 0,20 - 0⟩:Sl) fun s13 =>
 rdO w12 s13.a (s13.len * 1) fun c14 =>
 apK Tryz.prog 5 w12 s5.a s5.len s5.cap s13.len c14 fun s15 w16 =>
 Q (sV s15) w16
def qc.b1 (t3 t4 t5 t14:Sl) (t19:Int) (Q:VWP) (nx1:Sl→Sl→Sl→Sl→Int→WP) (w:World):Prop :=
 br (decide (t19 < (t3.len:Int))) (
 ixS t3.a t3.len t19 20 fun a17 =>
 lt (⟨cutP a17 20 0 1,20 - 0,20 - 0⟩:Sl) fun s18 =>
 rdO w s18.a (s18.len * 1) fun c19 =>
 apK Tryz.prog 5 w t14.a t14.len t14.cap s18.len c19 fun s20 w21 =>
 lt (IntKind.i64.wrap (t19+1)) fun x22 =>
 nx1 t3 t4 t5 s20 x22 w21) (
 qc.j10 t4 t5 t14 Q w)
def qc.l1 (t3 t4 t5 t14:Sl) (t19:Int) (Q:VWP) (w:World):Prop :=
 ∃ (I:Sl→Int→WP) (μ:Sl→Int→World→Nat),I t14 t19 w∧∀ t14:Sl,∀ t19:Int,∀ w:World,I t14 t19 w→qc.b1 t3 t4 t5 t14 t19 Q (fun t3' t4' t5' t14' t19' w'=>(t3'=t3∧t4'=t4∧t5'=t5)∧I t14' t19' w'∧μ t14' t19' w' < μ t14 t19 w) w
def qc.j11 (t3 t4 t5 t14:Sl) (t19:Int) (Q:VWP) (w:World):Prop :=
 qc.l1 t3 t4 t5 t14 t19 Q w
def qc.j9 (t3 t4 t5 t14:Sl) (Q:VWP) (w:World):Prop :=
 qc.j11 t3 t4 t5 t14 0 Q w
def qc.b2 (t3 t4 t5 t17 t14:Sl) (t18:Int) (Q:VWP) (nx2:Sl→Sl→Sl→Sl→Sl→Int→WP) (w:World):Prop :=
 br (decide (t18 < 256)) (
 ixS t17.a t17.len t18 1 fun a23 =>
 ldI .i64 w a23 fun x24 =>
 qtc 67 [sV t14,.int .i64 x24,.int .i64 4] w fun r27 w26 =>
 lt (IntKind.i64.wrap (t18+1)) fun x28 =>
 nx2 t3 t4 t5 t17 r27 x28 w26) (
 qc.j9 t3 t4 t5 t14 Q w)
def qc.l2 (t3 t4 t5 t17 t14:Sl) (t18:Int) (Q:VWP) (w:World):Prop :=
 ∃ (I:Sl→Int→WP) (μ:Sl→Int→World→Nat),I t14 t18 w∧∀ t14:Sl,∀ t18:Int,∀ w:World,I t14 t18 w→qc.b2 t3 t4 t5 t17 t14 t18 Q (fun t3' t4' t5' t17' t14' t18' w'=>(t3'=t3∧t4'=t4∧t5'=t5∧t17'=t17)∧I t14' t18' w'∧μ t14' t18' w' < μ t14 t18 w) w
def qc.j12 (t3 t4 t5 t14 t17:Sl) (t18:Int) (Q:VWP) (w:World):Prop :=
 qc.l2 t3 t4 t5 t17 t14 t18 Q w
def qc.j8 (t3 t4 t5 t14 t17:Sl) (Q:VWP) (w:World):Prop :=
 qc.j12 t3 t4 t5 t14 t17 0 Q w
def qc.j7 (t3 t4 t5 t14:Sl) (t15:Int) (Q:VWP) (w:World):Prop :=
 nw w ⟨[.int .u8 0,.int .u8 0,.int .u8 0,.int .u8 0]⟩ 5 fun a29 w30 =>
 rdO w30 (some a29) (4 * 1) fun c31 =>
 apK Tryz.prog 5 w30 t14.a t14.len t14.cap 4 c31 fun s32 w33 =>
 qtc 67 [sV s32,.int .i64 t15,.int .i64 8] w33 fun r36 w35 =>
 qtc 68 [sV t3] w35 fun r39 w38 =>
 qc.j8 t3 t4 t5 r36 r39 Q w38
def qc.b3 (t3 t4 t5 t12 t13 t14:Sl) (t15:Int) (t16:Int) (Q:VWP) (nx3:Sl→Sl→Sl→Sl→Sl→Sl→Int→Int→WP) (w:World):Prop :=
 br (decide (t16 < (t12.len:Int))) (
 ixS t12.a t12.len t16 1 fun a40 =>
 ldS w a40 fun x41 =>
 (1:Nat)=1 ∧
 lt (strCells x41 (ByteArray.size x41)) fun c42 =>
 apK Tryz.prog 5 w t14.a t14.len t14.cap (ByteArray.size x41) c42 fun s43 w44 =>
 qtc 67 [sV s43,.int .i64 t15,.int .i64 8] w44 fun r47 w46 =>
 ixS t13.a t13.len t16 1 fun a48 =>
 ldI .i64 w46 a48 fun x49 =>
 lt (IntKind.i64.wrap (t15+x49)) fun x50 =>
 lt (IntKind.i64.wrap (t16+1)) fun x51 =>
 nx3 t3 t4 t5 t12 t13 r47 x50 x51 w46) (
 qc.j7 t3 t4 t5 t14 t15 Q w)
def qc.l3 (t3 t4 t5 t12 t13 t14:Sl) (t15:Int) (t16:Int) (Q:VWP) (w:World):Prop :=
 ∃ (I:Sl→Int→Int→WP) (μ:Sl→Int→Int→World→Nat),I t14 t15 t16 w∧∀ t14:Sl,∀ t15:Int,∀ t16:Int,∀ w:World,I t14 t15 t16 w→qc.b3 t3 t4 t5 t12 t13 t14 t15 t16 Q (fun t3' t4' t5' t12' t13' t14' t15' t16' w'=>(t3'=t3∧t4'=t4∧t5'=t5∧t12'=t12∧t13'=t13)∧I t14' t15' t16' w'∧μ t14' t15' t16' w' < μ t14 t15 t16 w) w
def qc.j13 (t3 t4 t5 t12 t13 t14:Sl) (t15:Int) (t16:Int) (Q:VWP) (w:World):Prop :=
 qc.l3 t3 t4 t5 t12 t13 t14 t15 t16 Q w
def qc.j6 (t3 t4 t5 t12 t13 t14:Sl) (t15:Int) (Q:VWP) (w:World):Prop :=
 qc.j13 t3 t4 t5 t12 t13 t14 t15 0 Q w
def qc.j5 (t3 t4 t5 t12 t13:Sl) (Q:VWP) (w:World):Prop :=
 nw w ⟨[.int .u8 67,.int .u8 71,.int .u8 80,.int .u8 72]⟩ 5 fun a52 w53 =>
 mkStr w53 (some a52) fun w54 =>
 lt (IntKind.u8.wrap (t12.len:Int)) fun x55 =>
 nw w54 ⟨[.int .u8 1,.int .u8 1,.int .u8 x55,.int .u8 0]⟩ 5 fun a56 w57 =>
 rdO w57 (some a56) (4 * 1) fun c58 =>
 apK Tryz.prog 5 w57 (some a52) 4 4 4 c58 fun s59 w60 =>
 lt (IntKind.i64.wrap ((t12.len:Int)+1)) fun x61 =>
 lt (IntKind.i64.wrap (12 * x61)) fun x62 =>
 lt (IntKind.i64.wrap (8+x62)) fun x63 =>
 qc.j6 t3 t4 t5 t12 t13 s59 x63 Q w60
def qc.j4 (t3 t4 t5 t12:Sl) (Q:VWP) (w:World):Prop :=
 lt (IntKind.i64.wrap (20 * (t3.len:Int))) fun x64 =>
 nw w ⟨[.int .i64 1024,.int .i64 x64,.int .i64 (t4.len:Int)]⟩ 3 fun a65 w66 =>
 br (decide ((t5.len:Int) > 0)) (
 nw w66 ⟨[.string ({ data:=#[69,68,71,69] })]⟩ 9 fun a67 w68 =>
 rdO w68 (some a67) (1 * 1) fun c69 =>
 apK Tryz.prog 9 w68 t12.a t12.len t12.cap 1 c69 fun s70 w71 =>
 nw w71 ⟨[.int .i64 (t5.len:Int)]⟩ 3 fun a72 w73 =>
 rdO w73 (some a72) (1 * 1) fun c74 =>
 apK Tryz.prog 3 w73 (some a65) 3 3 1 c74 fun s75 w76 =>
 qc.j5 t3 t4 t5 s70 s75 Q w76) (
 qc.j5 t3 t4 t5 t12 ⟨(some a65),3,3⟩ Q w66)
def qc.j3 (t3 t4 t5:Sl) (Q:VWP) (w:World):Prop :=
 nw w ⟨[.string ({ data:=#[79,73,68,70] }),.string ({ data:=#[79,73,68,76] }),.string ({ data:=#[67,68,65,84] })]⟩ 9 fun a77 w78 =>
 qc.j4 t3 t4 t5 ⟨(some a77),3,3⟩ Q w78
def qc.j16 (d_0:OAd) (t3:Sl) (t4 t5:Sl) (t6:Int) (Q:VWP) (nx4:OAd→Sl→Sl→Sl→Int→WP) (w:World):Prop :=
 lt (IntKind.i64.wrap (t6+1)) fun x79 =>
 nx4 d_0 t3 t4 t5 x79 w
def qc.j21 (d_0:OAd) (t3:Sl) (t4 t5:Sl) (t6:Int) (t7:Addr) (t8:Int) (t9:Int) (Q:VWP) (nx4:OAd→Sl→Sl→Sl→Int→WP) (w:World):Prop :=
 qtc 67 [sV t4,.int .i64 t8,.int .i64 4] w fun r82 w81 =>
 qtc 67 [sV r82,.int .i64 t9,.int .i64 4] w81 fun r85 w84 =>
 lt (World.drew w84) fun w86 =>
 nz d_0 fun a87 =>
 ldL w86 (Addr.add a87 1) fun x88 =>
 ixS x88.a x88.len t6 1 fun a89 =>
 ldI .i64 w86 a89 fun x90 =>
 (0:Int)≤34 ∧
 lt (qpf .i64 x90 34) fun x91 =>
 ldI .i64 w86 (Addr.add t7 41) fun x92 =>
 lt (orV .i64 x91 x92) fun x93 =>
 qtc 67 [sV r85,.int .i64 x93,.int .i64 8] w86 fun r96 w95 =>
 qc.j16 d_0 t3 r96 t5 t6 Q nx4 w95
def qc.b5 (d_0:OAd) (t3:Sl) (t4:Sl) (t6:Int) (t7:Addr) (t8:Int) (t9:Int) (t5:Sl) (t10:Int) (Q:VWP) (nx4:OAd→Sl→Sl→Sl→Int→WP) (nx5:OAd→Sl→Sl→Int→Addr→Int→Int→Sl→Int→WP) (w:World):Prop :=
 ldL w (Addr.add t7 40) fun x97 =>
 br (decide (t10 < (x97.len:Int))) (
 lt (World.drew w) fun w98 =>
 nz d_0 fun a99 =>
 ldL w98 (Addr.add a99 0) fun x100 =>
 ldL w98 (Addr.add t7 40) fun x101 =>
 ixS x101.a x101.len t10 20 fun a102 =>
 ldA w98 a102 20 fun c103 =>
 qnf 52 [sV x100,.agg c103] w98 fun r106 w105 =>
 ldL w105 (Addr.add t7 40) fun x107 =>
 lt (IntKind.i64.wrap ((x107.len:Int) - 1)) fun x108 =>
 br (t10 == x108) (
 lt (orV .i64 r106 2147483648) fun x109 =>
 qtc 67 [sV t5,.int .i64 x109,.int .i64 4] w105 fun r112 w111 =>
 lt (IntKind.i64.wrap (t10+1)) fun x113 =>
 nx5 d_0 t3 t4 t6 t7 t8 t9 r112 x113 w111) (
 qtc 67 [sV t5,.int .i64 r106,.int .i64 4] w105 fun r116 w115 =>
 lt (IntKind.i64.wrap (t10+1)) fun x117 =>
 nx5 d_0 t3 t4 t6 t7 t8 t9 r116 x117 w115)) (
 qc.j21 d_0 t3 t4 t5 t6 t7 t8 t9 Q nx4 w)
def qc.l5 (d_0:OAd) (t3:Sl) (t4:Sl) (t6:Int) (t7:Addr) (t8:Int) (t9:Int) (t5:Sl) (t10:Int) (Q:VWP) (nx4:OAd→Sl→Sl→Sl→Int→WP) (w:World):Prop :=
 ∃ (I:Sl→Int→WP) (μ:Sl→Int→World→Nat),I t5 t10 w∧∀ t5:Sl,∀ t10:Int,∀ w:World,I t5 t10 w→qc.b5 d_0 t3 t4 t6 t7 t8 t9 t5 t10 Q nx4 (fun d_0' t3' t4' t6' t7' t8' t9' t5' t10' w'=>(d_0'=d_0∧t3'=t3∧t4'=t4∧t6'=t6∧t7'=t7∧t8'=t8∧t9'=t9)∧I t5' t10' w'∧μ t5' t10' w' < μ t5 t10 w) w
def qc.j23 (d_0:OAd) (t3:Sl) (t4 t5:Sl) (t6:Int) (t7:Addr) (t8:Int) (t9 t10:Int) (Q:VWP) (nx4:OAd→Sl→Sl→Sl→Int→WP) (w:World):Prop :=
 qc.l5 d_0 t3 t4 t6 t7 t8 t9 t5 t10 Q nx4 w
def qc.j22 (d_0:OAd) (t3:Sl) (t4 t5:Sl) (t6:Int) (t7:Addr) (t8:Int) (t9:Int) (t75:Bool) (Q:VWP) (nx4:OAd→Sl→Sl→Sl→Int→WP) (w:World):Prop :=
 br t75 (
 (4:Int) ≠ 0 ∧
 lt (IntKind.i64.wrap (Int.tdiv (t5.len:Int) 4)) fun x118 =>
 lt (orV .i64 2147483648 x118) fun x119 =>
 qc.j23 d_0 t3 t4 t5 t6 t7 t8 x119 1 Q nx4 w) (
 qc.j21 d_0 t3 t4 t5 t6 t7 t8 t9 Q nx4 w)
def qc.j20 (d_0:OAd) (t3:Sl) (t4 t5:Sl) (t6:Int) (t7:Addr) (t8:Int) (t9:Int) (Q:VWP) (nx4:OAd→Sl→Sl→Sl→Int→WP) (w:World):Prop :=
 ldL w (Addr.add t7 40) fun x120 =>
 qc.j22 d_0 t3 t4 t5 t6 t7 t8 t9 (decide ((x120.len:Int) > 2)) Q nx4 w
def qc.j19 (d_0:OAd) (t3:Sl) (t4 t5:Sl) (t6:Int) (t7:Addr) (t8:Int) (t9:Int) (Q:VWP) (nx4:OAd→Sl→Sl→Sl→Int→WP) (w:World):Prop :=
 ldL w (Addr.add t7 40) fun x121 =>
 br ((x121.len:Int) == 2) (
 lt (World.drew w) fun w122 =>
 nz d_0 fun a123 =>
 ldL w122 (Addr.add a123 0) fun x124 =>
 ldL w122 (Addr.add t7 40) fun x125 =>
 ixS x125.a x125.len 1 20 fun a126 =>
 ldA w122 a126 20 fun c127 =>
 qnf 52 [sV x124,.agg c127] w122 fun r130 w129 =>
 qc.j20 d_0 t3 t4 t5 t6 t7 t8 r130 Q nx4 w129) (
 qc.j20 d_0 t3 t4 t5 t6 t7 t8 t9 Q nx4 w)
def qc.j18 (d_0:OAd) (t3:Sl) (t4 t5:Sl) (t6:Int) (t7:Addr) (t8:Int) (Q:VWP) (nx4:OAd→Sl→Sl→Sl→Int→WP) (w:World):Prop :=
 ldL w (Addr.add t7 40) fun x131 =>
 br (decide ((x131.len:Int) > 0)) (
 lt (World.drew w) fun w132 =>
 nz d_0 fun a133 =>
 ldL w132 (Addr.add a133 0) fun x134 =>
 ldL w132 (Addr.add t7 40) fun x135 =>
 ixS x135.a x135.len 0 20 fun a136 =>
 ldA w132 a136 20 fun c137 =>
 qnf 52 [sV x134,.agg c137] w132 fun r140 w139 =>
 qc.j19 d_0 t3 t4 t5 t6 t7 r140 1879048192 Q nx4 w139) (
 qc.j19 d_0 t3 t4 t5 t6 t7 t8 1879048192 Q nx4 w)
def qc.j17 (d_0:OAd) (t3:Sl) (t4 t5:Sl) (t6:Int) (t7:Addr) (Q:VWP) (nx4:OAd→Sl→Sl→Sl→Int→WP) (w:World):Prop :=
 lt (⟨cutP (Addr.add t7 20) 20 0 1,20 - 0,20 - 0⟩:Sl) fun s141 =>
 rdO w s141.a (s141.len * 1) fun c142 =>
 apK Tryz.prog 5 w t4.a t4.len t4.cap s141.len c142 fun s143 w144 =>
 qc.j18 d_0 t3 s143 t5 t6 t7 1879048192 Q nx4 w144
def qc.j15 (d_0:OAd) (t3:Sl) (t4 t5:Sl) (t6:Int) (Q:VWP) (nx4:OAd→Sl→Sl→Sl→Int→WP) (w:World):Prop :=
 nz d_0 fun a145 =>
 ldL w (Addr.add a145 0) fun x146 =>
 ixS x146.a x146.len t6 42 fun a147 =>
 ldA w a147 42 fun c148 =>
 nw w (zc Tryz.prog 52) 52 fun a149 w150 =>
 (c148).size=42 ∧
 stA w150 a149 c148 fun w151 =>
 ldA w151 (Addr.add a149 0) 20 fun c152 =>
 (c152).size=20 ∧
 nw w151 ⟨(spl [.int .u8 0,.int .u8 0,.int .u8 0,.int .u8 0,.int .u8 0,.int .u8 0,.int .u8 0,.int .u8 0,.int .u8 0,.int .u8 0,.int .u8 0,.int .u8 0,.int .u8 0,.int .u8 0,.int .u8 0,.int .u8 0,.int .u8 0,.int .u8 0,.int .u8 0,.int .u8 0] 0 c152)⟩ 23 fun a153 w154 =>
 rdO w154 (some a153) (1 * 20) fun c155 =>
 apK Tryz.prog 23 w154 t3.a t3.len t3.cap 1 c155 fun s156 w157 =>
 qc.j17 d_0 s156 t4 t5 t6 a149 Q nx4 w157
def qc.b4 (d_0:OAd) (t3:Sl) (t4 t5:Sl) (t6:Int) (Q:VWP) (nx4:OAd→Sl→Sl→Sl→Int→WP) (w:World):Prop :=
 nz d_0 fun a158 =>
 ldL w (Addr.add a158 0) fun x159 =>
 br (decide (t6 < (x159.len:Int))) (
 qc.j15 d_0 t3 t4 t5 t6 Q nx4 w) (
 qc.j3 t3 t4 t5 Q w)
def qc.l4 (d_0:OAd) (t3:Sl) (t4 t5:Sl) (t6:Int) (Q:VWP) (w:World):Prop :=
 ∃ (I:Sl→Sl→Sl→Int→WP) (μ:Sl→Sl→Sl→Int→World→Nat),I t3 t4 t5 t6 w∧∀ t3:Sl,∀ t4:Sl,∀ t5:Sl,∀ t6:Int,∀ w:World,I t3 t4 t5 t6 w→qc.b4 d_0 t3 t4 t5 t6 Q (fun d_0' t3' t4' t5' t6' w'=>(d_0'=d_0)∧I t3' t4' t5' t6' w'∧μ t3' t4' t5' t6' w' < μ t3 t4 t5 t6 w) w
def qc.j14 (d_0:OAd) (t3:Sl) (t4 t5:Sl) (t6:Int) (Q:VWP) (w:World):Prop :=
 qc.l4 d_0 t3 t4 t5 t6 Q w
def qc.j2 (d_0:OAd) (t3:Sl) (t4 t5:Sl) (Q:VWP) (w:World):Prop :=
 qc.j14 d_0 t3 t4 t5 0 Q w
def qc.j1 (d_0:OAd) (t3:Sl) (Q:VWP) (w:World):Prop :=
 qc.j2 d_0 t3 ⟨none,0,0⟩ ⟨none,0,0⟩ Q w
def qc (d_0:OAd) (Q:VWP) (w:World):Prop :=
 qc.j1 d_0 ⟨none,0,0⟩ Q w
theorem qc.ok (d_0:OAd) (Q:VWP) (w:World) (h:qc d_0 Q w):Calls Tryz.prog 35 ⟨[.pointer d_0]⟩ w (Ret Q) :=
 qgc [.tmp 2] qjd Tryz.func35 rfl rfl rfl rfl (.pr 1 [sP 0,sL 3] (fun a b w=>qc.j1 a b Q w) (.pr 1 [sP 0,sL 3,sL 4,sL 5] (fun a b c d w=>qc.j2 a b c d Q w) (.sq [sL 3,sL 4,sL 5] (fun a b c w=>qc.j3 a b c Q w) (.sq [sP 0,sL 3,sL 4,sL 5,sI 6] (fun a b c d e w=>qc.j14 a b c d e Q w) .lf (.bk (.lo [sP 0] [sL 3,sL 4,sL 5,sI 6] (fun a b c d e w=>qc.l4 a b c d e Q w) (fun nx4 a b c d e w=>qc.b4 a b c d e Q nx4 w) fun nx4=>(.sq [sP 0,sL 3,sL 4,sL 5,sI 6] (fun a b c d e w=>qc.j15 a b c d e Q nx4 w) .lf (.sq [sP 0,sL 3,sL 4,sL 5,sI 6] (fun a b c d e w=>qc.j16 a b c d e Q nx4 w) (.bk (.pr 1 [sP 0,sL 3,sL 4,sL 5,sI 6,sA 7] (fun a b c d e f w=>qc.j17 a b c d e f Q nx4 w) (.pr 1 [sP 0,sL 3,sL 4,sL 5,sI 6,sA 7,sI 8] (fun a b c d e f g w=>qc.j18 a b c d e f g Q nx4 w) (.pr 1 [sP 0,sL 3,sL 4,sL 5,sI 6,sA 7,sI 8,sI 9] (fun a b c d e f g h w=>qc.j19 a b c d e f g h Q nx4 w) (.sq [sP 0,sL 3,sL 4,sL 5,sI 6,sA 7,sI 8,sI 9] (fun a b c d e f g h w=>qc.j20 a b c d e f g h Q nx4 w) .lf (.sq [sP 0,sL 3,sL 4,sL 5,sI 6,sA 7,sI 8,sI 9] (fun a b c d e f g h w=>qc.j21 a b c d e f g h Q nx4 w) (.sq [sP 0,sL 3,sL 4,sL 5,sI 6,sA 7,sI 8,sI 9,sB 75] (fun a b c d e f g h i w=>qc.j22 a b c d e f g h i Q nx4 w) .lf (.cd (.pr 1 [sP 0,sL 3,sL 4,sL 5,sI 6,sA 7,sI 8,sI 9,sI 10] (fun a b c d e f g h i w=>qc.j23 a b c d e f g h i Q nx4 w) (.bk (.lo [sP 0,sL 3,sL 4,sI 6,sA 7,sI 8,sI 9] [sL 5,sI 10] (fun a b c d e f g h i w=>qc.l5 a b c d e f g h i Q nx4 w) (fun nx5 a b c d e f g h i w=>qc.b5 a b c d e f g h i Q nx4 nx5 w) fun nx5=>.lf))) .lf)) .lf)))))) .lf))))) (.sq [sL 3,sL 4,sL 5,sL 12] (fun a b c d w=>qc.j4 a b c d Q w) .lf (.pr 1 [sL 3,sL 4,sL 5,sL 12,sL 13] (fun a b c d e w=>qc.j5 a b c d e Q w) (.pr 1 [sL 3,sL 4,sL 5,sL 12,sL 13,sL 14,sI 15] (fun a b c d e f g w=>qc.j6 a b c d e f g Q w) (.sq [sL 3,sL 4,sL 5,sL 14,sI 15] (fun a b c d e w=>qc.j7 a b c d e Q w) (.sq [sL 3,sL 4,sL 5,sL 12,sL 13,sL 14,sI 15,sI 16] (fun a b c d e f g h w=>qc.j13 a b c d e f g h Q w) .lf (.bk (.lo [sL 3,sL 4,sL 5,sL 12,sL 13] [sL 14,sI 15,sI 16] (fun a b c d e f g h w=>qc.l3 a b c d e f g h Q w) (fun nx3 a b c d e f g h w=>qc.b3 a b c d e f g h Q nx3 w) fun nx3=>.lf))) (.pr 1 [sL 3,sL 4,sL 5,sL 14,sL 17] (fun a b c d e w=>qc.j8 a b c d e Q w) (.sq [sL 3,sL 4,sL 5,sL 14] (fun a b c d w=>qc.j9 a b c d Q w) (.sq [sL 3,sL 4,sL 5,sL 14,sL 17,sI 18] (fun a b c d e f w=>qc.j12 a b c d e f Q w) .lf (.bk (.lo [sL 3,sL 4,sL 5,sL 17] [sL 14,sI 18] (fun a b c d e f w=>qc.l2 a b c d e f Q w) (fun nx2 a b c d e f w=>qc.b2 a b c d e f Q nx2 w) fun nx2=>.lf))) (.sq [sL 4,sL 5,sL 14] (fun a b c w=>qc.j10 a b c Q w) (.sq [sL 3,sL 4,sL 5,sL 14,sI 19] (fun a b c d e w=>qc.j11 a b c d e Q w) .lf (.bk (.lo [sL 3,sL 4,sL 5] [sL 14,sI 19] (fun a b c d e w=>qc.l1 a b c d e Q w) (fun nx1 a b c d e w=>qc.b1 a b c d e Q nx1 w) fun nx1=>.lf))) .lf)))))))))) (by kernel_rfl) h
def qof (l_0:Sl) (Q:VWP) (w:World):Prop :=
 ct_PI 34 [sV l_0] w fun r3 r4 w2 =>
 br (r4 != 0) (
 Q (.tuple ⟨[.slice none 0 0,.int .i64 r4]⟩) w2) (
 qtc 35 [.pointer r3] w2 fun r7 w6 =>
 Q (.tuple ⟨[sV r7,.int .i64 0]⟩) w6)
theorem qof.ok (l_0:Sl) (Q:VWP) (w:World) (h:qof l_0 Q w):Calls Tryz.prog 9 ⟨[sV l_0]⟩ w (Ret Q) :=
 qgc [.tmp 2,.tmp 3] qjd Tryz.func9 rfl rfl rfl rfl .lf (by kernel_rfl) h
def qng (b_0:Sl) (p_1:Int) (n_2:Int) (Q:VWP) (w:World):Prop :=
 br (decide (p_1 < 0)) (
 Q (.int .i64 (-1)) w) (
 br (decide (p_1 > (b_0.len:Int))) (
 Q (.int .i64 (-1)) w) (
 nw w (⟨[sV b_0,.int .i64 p_1,.int .i64 0]⟩:Array Value) 130 fun a1 w2 =>
 qnf 80 [.pointer (some a1),.int .i64 n_2] w2 fun r5 w4 =>
 ldI .i64 w4 (Addr.add a1 2) fun x6 =>
 br (x6 != 0) (
 Q (.int .i64 (-1)) w4) (
 Q (.int .i64 r5) w4)))
theorem qng.ok (b_0:Sl) (p_1:Int) (n_2:Int) (Q:VWP) (w:World) (h:qng b_0 p_1 n_2 Q w):Calls Tryz.prog 42 ⟨[sV b_0,.int .i64 p_1,.int .i64 n_2]⟩ w (Ret Q) :=
 qgc [.tmp 6] qjd Tryz.func42 rfl rfl rfl rfl .lf (by kernel_rfl) h
def qzb.j2 (t4 x_5:Addr) (Q:VWP) (w:World):Prop :=
 ldA w x_5 20 fun c1 =>
 (c1).size=20 ∧
 stA w t4 c1 fun w2 =>
 ldA w2 t4 20 fun c3 =>
 Q (.agg c3) w2
def qzb.b1 (b_0:Sl) (p_1:Int) (t4 x_5:Addr) (i_6:Int) (Q:VWP) (nx1:Sl→Int→Addr→Addr→Int→WP) (w:World):Prop :=
 br (decide (i_6 < 20)) (
 lt (IntKind.i64.wrap (p_1+i_6)) fun x4 =>
 br (decide (x4 < (b_0.len:Int))) (
 lt (IntKind.i64.wrap (p_1+i_6)) fun x5 =>
 ixS b_0.a b_0.len x5 1 fun a6 =>
 ldI .u8 w a6 fun x7 =>
 ixA x_5 20 i_6 1 fun a8 =>
 st w a8 (.int .u8 x7) fun w9 =>
 lt (IntKind.i64.wrap (i_6+1)) fun x10 =>
 nx1 b_0 p_1 t4 x_5 x10 w9) (
 qzb.j2 t4 x_5 Q w)) (
 qzb.j2 t4 x_5 Q w)
def qzb.l1 (b_0:Sl) (p_1:Int) (t4 x_5:Addr) (i_6:Int) (Q:VWP) (w:World):Prop :=
 ∃ (I:Int→WP) (μ:Int→World→Nat),I i_6 w∧∀ i_6:Int,∀ w:World,I i_6 w→qzb.b1 b_0 p_1 t4 x_5 i_6 Q (fun b_0' p_1' t4' x_5' i_6' w'=>(b_0'=b_0∧p_1'=p_1∧t4'=t4∧x_5'=x_5)∧I i_6' w'∧μ i_6' w' < μ i_6 w) w
def qzb.j3 (b_0:Sl) (p_1:Int) (t4 x_5:Addr) (i_6:Int) (Q:VWP) (w:World):Prop :=
 qzb.l1 b_0 p_1 t4 x_5 i_6 Q w
def qzb.j1 (b_0:Sl) (p_1:Int) (t4 x_5:Addr) (Q:VWP) (w:World):Prop :=
 qzb.j3 b_0 p_1 t4 x_5 0 Q w
def qzb (b_0:Sl) (p_1:Int) (Q:VWP) (w:World):Prop :=
 nw w (zc Tryz.prog 23) 23 fun a11 w12 =>
 nw w12 (zc Tryz.prog 23) 23 fun a13 w14 =>
 qzb.j1 b_0 p_1 a11 a13 Q w14
theorem qzb.ok (b_0:Sl) (p_1:Int) (Q:VWP) (w:World) (h:qzb b_0 p_1 Q w):Calls Tryz.prog 43 ⟨[sV b_0,.int .i64 p_1]⟩ w (Ret Q) :=
 qgc [.cell 4 23] qjd Tryz.func43 rfl rfl rfl rfl (.pr 1 [sL 0,sI 1,sA 4,sA 5] (fun a b c d w=>qzb.j1 a b c d Q w) (.sq [sA 4,sA 5] (fun a b w=>qzb.j2 a b Q w) (.sq [sL 0,sI 1,sA 4,sA 5,sI 6] (fun a b c d e w=>qzb.j3 a b c d e Q w) .lf (.bk (.lo [sL 0,sI 1,sA 4,sA 5] [sI 6] (fun a b c d e w=>qzb.l1 a b c d e Q w) (fun nx1 a b c d e w=>qzb.b1 a b c d e Q nx1 w) fun nx1=>.lf))) .lf)) (by kernel_rfl) h
def qt.j5  (Q:VWP) (w:World):Prop :=
 Q (.tuple ⟨[.slice none 0 0,.bool false]⟩) w
def qt.j8 (d_0:Sl) (t3:Int) (t4 t5 t6:Int) (t16:Sl) (t17:Int) (Q:VWP) (nx1:Sl→Int→Int→Int→Int→Sl→Int→WP) (w:World):Prop :=
 lt (IntKind.i64.wrap (t17+1)) fun x1 =>
 nx1 d_0 t3 t4 t5 t6 t16 x1 w
def qt.j10 (d_0:Sl) (t3:Int) (t4 t5 t6:Int) (t16:Sl) (t17 t18:Int) (t19:Bool) (Q:VWP) (nx1:Sl→Int→Int→Int→Int→Sl→Int→WP) (w:World):Prop :=
 br (decide (t18 < 0)) (
 Q (.tuple ⟨[.slice none 0 0,.bool false]⟩) w) (
 br (decide (t18 ≥ t4)) (
 Q (.tuple ⟨[.slice none 0 0,.bool false]⟩) w) (
 lt (IntKind.i64.wrap (20 * t18)) fun x2 =>
 lt (IntKind.i64.wrap (t3+x2)) fun x3 =>
 cr_G 43 [sV d_0,.int .i64 x3] w fun r6 w5 =>
 (r6).size=20 ∧
 nw w5 ⟨(spl [.int .u8 0,.int .u8 0,.int .u8 0,.int .u8 0,.int .u8 0,.int .u8 0,.int .u8 0,.int .u8 0,.int .u8 0,.int .u8 0,.int .u8 0,.int .u8 0,.int .u8 0,.int .u8 0,.int .u8 0,.int .u8 0,.int .u8 0,.int .u8 0,.int .u8 0,.int .u8 0] 0 r6)⟩ 23 fun a7 w8 =>
 rdO w8 (some a7) (1 * 20) fun c9 =>
 apK Tryz.prog 23 w8 t16.a t16.len t16.cap 1 c9 fun s10 w11 =>
 br t19 (
 Q (.tuple ⟨[sV s10,.bool (decide ((s10.len:Int) > 2))]⟩) w11) (
 qt.j8 d_0 t3 t4 t5 t6 s10 t17 Q nx1 w11)))
def qt.j9 (d_0:Sl) (t3:Int) (t4 t5 t6:Int) (t16:Sl) (t17 t18:Int) (Q:VWP) (nx1:Sl→Int→Int→Int→Int→Sl→Int→WP) (w:World):Prop :=
 br (decide (t18 ≥ 2147483648)) (
 lt (IntKind.i64.wrap (t18 - 2147483648)) fun x12 =>
 qt.j10 d_0 t3 t4 t5 t6 t16 t17 x12 (decide (t18 ≥ 2147483648)) Q nx1 w) (
 qt.j10 d_0 t3 t4 t5 t6 t16 t17 t18 (decide (t18 ≥ 2147483648)) Q nx1 w)
def qt.j7 (d_0:Sl) (t3:Int) (t4 t5 t6:Int) (t16:Sl) (t17:Int) (Q:VWP) (nx1:Sl→Int→Int→Int→Int→Sl→Int→WP) (w:World):Prop :=
 lt (IntKind.i64.wrap (4 * t17)) fun x13 =>
 lt (IntKind.i64.wrap (t5+x13)) fun x14 =>
 qnf 42 [sV d_0,.int .i64 x14,.int .i64 4] w fun r17 w16 =>
 qt.j9 d_0 t3 t4 t5 t6 t16 t17 r17 Q nx1 w16
def qt.b1 (d_0:Sl) (t3:Int) (t4 t5 t6:Int) (t16:Sl) (t17:Int) (Q:VWP) (nx1:Sl→Int→Int→Int→Int→Sl→Int→WP) (w:World):Prop :=
 br (decide (t17 < t6)) (
 qt.j7 d_0 t3 t4 t5 t6 t16 t17 Q nx1 w) (
 qt.j5 Q w)
def qt.l1 (d_0:Sl) (t3:Int) (t4 t5 t6:Int) (t16:Sl) (t17:Int) (Q:VWP) (w:World):Prop :=
 ∃ (I:Sl→Int→WP) (μ:Sl→Int→World→Nat),I t16 t17 w∧∀ t16:Sl,∀ t17:Int,∀ w:World,I t16 t17 w→qt.b1 d_0 t3 t4 t5 t6 t16 t17 Q (fun d_0' t3' t4' t5' t6' t16' t17' w'=>(d_0'=d_0∧t3'=t3∧t4'=t4∧t5'=t5∧t6'=t6)∧I t16' t17' w'∧μ t16' t17' w' < μ t16 t17 w) w
def qt.j6 (d_0:Sl) (t3:Int) (t4 t5 t6:Int) (t16:Sl) (t17:Int) (Q:VWP) (w:World):Prop :=
 qt.l1 d_0 t3 t4 t5 t6 t16 t17 Q w
def qt.j4 (d_0:Sl) (t2:Int) (t3 t4 t5 t6:Int) (t16:Sl) (Q:VWP) (w:World):Prop :=
 lt (IntKind.i64.wrap (t2 - 2147483648)) fun x18 =>
 qt.j6 d_0 t3 t4 t5 t6 t16 x18 Q w
def qt.j3 (d_0:Sl) (t2:Int) (t3 t4 t5 t6:Int) (t16:Sl) (Q:VWP) (w:World):Prop :=
 br (t2 == 1879048192) (
 Q (.tuple ⟨[sV t16,.bool true]⟩) w) (
 br (decide (t2 < 2147483648)) (
 br (decide (t2 < 0)) (
 Q (.tuple ⟨[.slice none 0 0,.bool false]⟩) w) (
 br (decide (t2 ≥ t4)) (
 Q (.tuple ⟨[.slice none 0 0,.bool false]⟩) w) (
 lt (IntKind.i64.wrap (20 * t2)) fun x19 =>
 lt (IntKind.i64.wrap (t3+x19)) fun x20 =>
 cr_G 43 [sV d_0,.int .i64 x20] w fun r23 w22 =>
 (r23).size=20 ∧
 nw w22 ⟨(spl [.int .u8 0,.int .u8 0,.int .u8 0,.int .u8 0,.int .u8 0,.int .u8 0,.int .u8 0,.int .u8 0,.int .u8 0,.int .u8 0,.int .u8 0,.int .u8 0,.int .u8 0,.int .u8 0,.int .u8 0,.int .u8 0,.int .u8 0,.int .u8 0,.int .u8 0,.int .u8 0] 0 r23)⟩ 23 fun a24 w25 =>
 rdO w25 (some a24) (1 * 20) fun c26 =>
 apK Tryz.prog 23 w25 t16.a t16.len t16.cap 1 c26 fun s27 w28 =>
 Q (.tuple ⟨[sV s27,.bool true]⟩) w28))) (
 qt.j4 d_0 t2 t3 t4 t5 t6 t16 Q w))
def qt.j2 (d_0:Sl) (i_1:Int) (t2 t3 t4 t5 t6:Int) (t16:Sl) (Q:VWP) (w:World):Prop :=
 br (decide (i_1 < 0)) (
 Q (.tuple ⟨[.slice none 0 0,.bool false]⟩) w) (
 br (decide (i_1 ≥ t4)) (
 Q (.tuple ⟨[.slice none 0 0,.bool false]⟩) w) (
 lt (IntKind.i64.wrap (20 * i_1)) fun x29 =>
 lt (IntKind.i64.wrap (t3+x29)) fun x30 =>
 cr_G 43 [sV d_0,.int .i64 x30] w fun r33 w32 =>
 (r33).size=20 ∧
 nw w32 ⟨(spl [.int .u8 0,.int .u8 0,.int .u8 0,.int .u8 0,.int .u8 0,.int .u8 0,.int .u8 0,.int .u8 0,.int .u8 0,.int .u8 0,.int .u8 0,.int .u8 0,.int .u8 0,.int .u8 0,.int .u8 0,.int .u8 0,.int .u8 0,.int .u8 0,.int .u8 0,.int .u8 0] 0 r33)⟩ 23 fun a34 w35 =>
 rdO w35 (some a34) (1 * 20) fun c36 =>
 apK Tryz.prog 23 w35 t16.a t16.len t16.cap 1 c36 fun s37 w38 =>
 qt.j3 d_0 t2 t3 t4 t5 t6 s37 Q w38))
def qt.j1 (d_0:Sl) (i_1:Int) (t2 t3 t4 t5 t6:Int) (Q:VWP) (w:World):Prop :=
 br (i_1 == 1879048192) (
 Q (.tuple ⟨[.slice none 0 0,.bool (t2 == 1879048192)]⟩) w) (
 qt.j2 d_0 i_1 t2 t3 t4 t5 t6 ⟨none,0,0⟩ Q w)
def qt (d_0:Sl) (i_1:Int) (t2 t3 t4 t5 t6:Int) (Q:VWP) (w:World):Prop :=
 qt.j1 d_0 i_1 t2 t3 t4 t5 t6 Q w
theorem qt.ok (d_0:Sl) (i_1:Int) (t2:Int) (t3:Int) (t4:Int) (t5:Int) (t6:Int) (Q:VWP) (w:World) (h:qt d_0 i_1 t2 t3 t4 t5 t6 Q w):Calls Tryz.prog 44 ⟨[sV d_0,.int .i64 i_1,.int .i64 t2,.int .i64 t3,.int .i64 t4,.int .i64 t5,.int .i64 t6]⟩ w (Ret Q) :=
 qgc [.tmp 14,.tmp 15] qjd Tryz.func44 rfl rfl rfl rfl (.sq [sL 0,sI 1,sI 2,sI 3,sI 4,sI 5,sI 6] (fun a b c d e f g w=>qt.j1 a b c d e f g Q w) .lf (.pr 1 [sL 0,sI 1,sI 2,sI 3,sI 4,sI 5,sI 6,sL 16] (fun a b c d e f g h w=>qt.j2 a b c d e f g h Q w) (.pr 1 [sL 0,sI 2,sI 3,sI 4,sI 5,sI 6,sL 16] (fun a b c d e f g w=>qt.j3 a b c d e f g Q w) (.pr 1 [sL 0,sI 2,sI 3,sI 4,sI 5,sI 6,sL 16] (fun a b c d e f g w=>qt.j4 a b c d e f g Q w) (.sq [] (fun  w=>qt.j5 Q w) (.sq [sL 0,sI 3,sI 4,sI 5,sI 6,sL 16,sI 17] (fun a b c d e f g w=>qt.j6 a b c d e f g Q w) .lf (.bk (.lo [sL 0,sI 3,sI 4,sI 5,sI 6] [sL 16,sI 17] (fun a b c d e f g w=>qt.l1 a b c d e f g Q w) (fun nx1 a b c d e f g w=>qt.b1 a b c d e f g Q nx1 w) fun nx1=>(.sq [sL 0,sI 3,sI 4,sI 5,sI 6,sL 16,sI 17] (fun a b c d e f g w=>qt.j7 a b c d e f g Q nx1 w) .lf (.sq [sL 0,sI 3,sI 4,sI 5,sI 6,sL 16,sI 17] (fun a b c d e f g w=>qt.j8 a b c d e f g Q nx1 w) (.bk (.sq [sL 0,sI 3,sI 4,sI 5,sI 6,sL 16,sI 17,sI 18] (fun a b c d e f g h w=>qt.j9 a b c d e f g h Q nx1 w) .lf (.pr 1 [sL 0,sI 3,sI 4,sI 5,sI 6,sL 16,sI 17,sI 18,sB 19] (fun a b c d e f g h i w=>qt.j10 a b c d e f g h i Q nx1 w) .lf))) .lf))))) .lf))))) (by kernel_rfl) h
def qo.j9 (d_0 t12:Sl) (Q:VWP) (w:World):Prop :=
 ct_PI 34 [sV t12] w fun r3 r4 w2 =>
 lt (World.drew w2) fun w5 =>
 br (r4 != 0) (
 ((Q (.tuple ⟨[.pointer none,.int .i64 2]⟩) w5)∧(
 Q (.tuple ⟨[.pointer none,.int .i64 2]⟩) w5))∧(
 Q (.tuple ⟨[.pointer none,.int .i64 2]⟩) w5)) (
 (qtc 35 [.pointer r3] w5 fun r8 w7 =>
 (btS w7 r8.a r8.len fun x9 =>
 btS w7 d_0.a d_0.len fun x10 =>
 br (!(ByteArray.toList x9 == ByteArray.toList x10)) (
 Q (.tuple ⟨[.pointer none,.int .i64 2]⟩) w7) (
 Q (.tuple ⟨[.pointer r3,.int .i64 0]⟩) w7))∧(
 btS w7 d_0.a d_0.len fun x11 =>
 btS w7 r8.a r8.len fun x12 =>
 br (!(ByteArray.toList x12 == ByteArray.toList x11)) (
 Q (.tuple ⟨[.pointer none,.int .i64 2]⟩) w7) (
 Q (.tuple ⟨[.pointer r3,.int .i64 0]⟩) w7)))∧(
 btS w5 d_0.a d_0.len fun x13 =>
 qtc 35 [.pointer r3] w5 fun r16 w15 =>
 btS w15 r16.a r16.len fun x17 =>
 br (!(ByteArray.toList x17 == ByteArray.toList x13)) (
 Q (.tuple ⟨[.pointer none,.int .i64 2]⟩) w15) (
 Q (.tuple ⟨[.pointer r3,.int .i64 0]⟩) w15)))
def qo.b1 (d_0:Sl) (t7:Int) (t8 t9 t10 t11:Int) (t12:Sl) (t13:Int) (Q:VWP) (nx1:Sl→Int→Int→Int→Int→Int→Sl→Int→WP) (w:World):Prop :=
 br (decide (t13 < t7)) (
 lt (IntKind.i64.wrap (36 * t13)) fun x18 =>
 lt (IntKind.i64.wrap (t9+x18)) fun x19 =>
 lt (IntKind.i64.wrap (20 * t13)) fun x20 =>
 lt (IntKind.i64.wrap (t8+x20)) fun x21 =>
 cr_G 43 [sV d_0,.int .i64 x21] w fun r24 w23 =>
 cr_G 43 [sV d_0,.int .i64 x19] w23 fun r27 w26 =>
 (r24).size=20 ∧
 (r27).size=20 ∧
 nw w26 (zc Tryz.prog 52) 52 fun a28 w29 =>
 ((⟨(spl (spl (zc Tryz.prog 52).toList 0 r24) 20 r27)⟩:Array Value)).size=42 ∧
 stA w29 a28 (⟨(spl (spl (zc Tryz.prog 52).toList 0 r24) 20 r27)⟩:Array Value) fun w30 =>
 lt (IntKind.i64.wrap (x19+20)) fun x31 =>
 qnf 42 [sV d_0,.int .i64 x31,.int .i64 4] w30 fun r34 w33 =>
 lt (IntKind.i64.wrap (x19+24)) fun x35 =>
 qnf 42 [sV d_0,.int .i64 x35,.int .i64 4] w33 fun r38 w37 =>
 ct_LB 44 [sV d_0,.int .i64 r34,.int .i64 r38,.int .i64 t8,.int .i64 t7,.int .i64 t10,.int .i64 t11] w37 fun r41 r42 w40 =>
 br (!r42) (
 Q (.tuple ⟨[.pointer none,.int .i64 2]⟩) w40) (
 st w40 (Addr.add a28 40) (sV r41) fun w43 =>
 lt (IntKind.i64.wrap (x19+28)) fun x44 =>
 qnf 42 [sV d_0,.int .i64 x44,.int .i64 4] w43 fun r47 w46 =>
 lt (IntKind.i64.wrap (x19+32)) fun x48 =>
 qnf 42 [sV d_0,.int .i64 x48,.int .i64 4] w46 fun r51 w50 =>
 lt (andV .i64 r47 3) fun x52 =>
 (0:Int)≤32 ∧
 lt (qpf .i64 x52 32) fun x53 =>
 lt (orV .i64 x53 r51) fun x54 =>
 st w50 (Addr.add a28 41) (.int .i64 x54) fun w55 =>
 ldA w55 a28 42 fun c56 =>
 (c56).size=42 ∧
 nw w55 ⟨(spl (qke 1 (zc Tryz.prog 52).toList) 0 c56)⟩ 52 fun a57 w58 =>
 rdO w58 (some a57) (1 * 42) fun c59 =>
 apK Tryz.prog 52 w58 t12.a t12.len t12.cap 1 c59 fun s60 w61 =>
 lt (IntKind.i64.wrap (t13+1)) fun x62 =>
 nx1 d_0 t7 t8 t9 t10 t11 s60 x62 w61)) (
 qo.j9 d_0 t12 Q w)
def qo.l1 (d_0:Sl) (t7:Int) (t8 t9 t10 t11:Int) (t12:Sl) (t13:Int) (Q:VWP) (w:World):Prop :=
 ∃ (I:Sl→Int→WP) (μ:Sl→Int→World→Nat),I t12 t13 w∧∀ t12:Sl,∀ t13:Int,∀ w:World,I t12 t13 w→qo.b1 d_0 t7 t8 t9 t10 t11 t12 t13 Q (fun d_0' t7' t8' t9' t10' t11' t12' t13' w'=>(d_0'=d_0∧t7'=t7∧t8'=t8∧t9'=t9∧t10'=t10∧t11'=t11)∧I t12' t13' w'∧μ t12' t13' w' < μ t12 t13 w) w
def qo.j10 (d_0:Sl) (t7:Int) (t8 t9 t10 t11:Int) (t12:Sl) (t13:Int) (Q:VWP) (w:World):Prop :=
 qo.l1 d_0 t7 t8 t9 t10 t11 t12 t13 Q w
def qo.j8 (d_0:Sl) (t7:Int) (t8 t9 t10 t11:Int) (t12:Sl) (Q:VWP) (w:World):Prop :=
 qo.j10 d_0 t7 t8 t9 t10 t11 t12 0 Q w
def qo.j7 (d_0:Sl) (t7:Int) (t8 t9 t10:Int) (Q:VWP) (w:World):Prop :=
 lt (IntKind.i64.wrap ((d_0.len:Int) - 20)) fun x63 =>
 lt (IntKind.i64.wrap (x63 - t10)) fun x64 =>
 (4:Int) ≠ 0 ∧
 lt (IntKind.i64.wrap (Int.tdiv x64 4)) fun x65 =>
 qo.j8 d_0 t7 t8 t9 t10 x65 ⟨none,0,0⟩ Q w
def qo.j6 (d_0:Sl) (t7:Int) (t8 t9:Int) (Q:VWP) (w:World):Prop :=
 lt (IntKind.i64.wrap (36 * t7)) fun x66 =>
 lt (IntKind.i64.wrap (t9+x66)) fun x67 =>
 lt (IntKind.i64.wrap ((d_0.len:Int) - 20)) fun x68 =>
 br (decide (x67 > x68)) (
 Q (.tuple ⟨[.pointer none,.int .i64 2]⟩) w) (
 lt (IntKind.i64.wrap ((d_0.len:Int) - 20)) fun x69 =>
 lt (IntKind.i64.wrap (x69 - x67)) fun x70 =>
 (4:Int) ≠ 0 ∧
 lt (Int.tmod x70 4) fun x71 =>
 br (x71 != 0) (
 Q (.tuple ⟨[.pointer none,.int .i64 2]⟩) w) (
 qo.j7 d_0 t7 t8 t9 x67 Q w))
def qo.j5 (d_0:Sl) (t6:Int) (t7:Int) (Q:VWP) (w:World):Prop :=
 lt (IntKind.i64.wrap (t6+1024)) fun x72 =>
 lt (IntKind.i64.wrap (20 * t7)) fun x73 =>
 lt (IntKind.i64.wrap (x72+x73)) fun x74 =>
 qo.j6 d_0 t7 x72 x74 Q w
def qo.j4 (d_0:Sl) (t6:Int) (Q:VWP) (w:World):Prop :=
 lt (IntKind.i64.wrap (t6+1020)) fun x75 =>
 qnf 42 [sV d_0,.int .i64 x75,.int .i64 4] w fun r78 w77 =>
 br (decide (r78 < 0)) (
 Q (.tuple ⟨[.pointer none,.int .i64 2]⟩) w77) (
 br (decide (r78 > 1024)) (
 Q (.tuple ⟨[.pointer none,.int .i64 2]⟩) w77) (
 qo.j5 d_0 t6 r78 Q w77))
def qo.j3 (d_0:Sl) (t5:Int) (Q:VWP) (w:World):Prop :=
 lt (IntKind.i64.wrap (t5+1)) fun x79 =>
 lt (IntKind.i64.wrap (12 * x79)) fun x80 =>
 lt (IntKind.i64.wrap (8+x80)) fun x81 =>
 qo.j4 d_0 x81 Q w
def qo.j2 (d_0:Sl) (Q:VWP) (w:World):Prop :=
 ixS d_0.a d_0.len 6 1 fun a82 =>
 ldI .u8 w a82 fun x83 =>
 lt (IntKind.i64.wrap x83) fun x84 =>
 br (x84 != 3) (
 br (x84 != 4) (
 Q (.tuple ⟨[.pointer none,.int .i64 2]⟩) w) (
 qo.j3 d_0 x84 Q w)) (
 qo.j3 d_0 x84 Q w)
def qo.j1 (d_0:Sl) (Q:VWP) (w:World):Prop :=
 lt (IntKind.i64.wrap ((d_0.len:Int) - 20)) fun x85 =>
 bd x85 d_0.cap fun n86 =>
 lt (⟨qwd d_0.a d_0.cap 0 1,n86 - 0,d_0.cap - 0⟩:Sl) fun s87 =>
 cr_G 41 [sV s87] w fun r90 w89 =>
 nw w89 (zc Tryz.prog 23) 23 fun a91 w92 =>
 (r90).size=20 ∧
 stA w92 a91 r90 fun w93 =>
 lt (World.drew w93) fun w94 =>
 lt (⟨cutP a91 20 0 1,20 - 0,20 - 0⟩:Sl) fun s95 =>
 lt (IntKind.i64.wrap ((d_0.len:Int) - 20)) fun x96 =>
 bd x96 d_0.len fun n97 =>
 lt (⟨qwd d_0.a d_0.cap n97 1,d_0.len - n97,d_0.cap - n97⟩:Sl) fun s98 =>
 (btS w94 s95.a s95.len fun x99 =>
 btS w94 s98.a s98.len fun x100 =>
 br (!(ByteArray.toList x99 == ByteArray.toList x100)) (
 Q (.tuple ⟨[.pointer none,.int .i64 4]⟩) w94) (
 qo.j2 d_0 Q w94))∧(
 btS w94 s98.a s98.len fun x101 =>
 btS w94 s95.a s95.len fun x102 =>
 br (!(ByteArray.toList x102 == ByteArray.toList x101)) (
 Q (.tuple ⟨[.pointer none,.int .i64 4]⟩) w94) (
 qo.j2 d_0 Q w94))
def qo (d_0:Sl) (Q:VWP) (w:World):Prop :=
 br (decide ((d_0.len:Int) > 262144)) (
 Q (.tuple ⟨[.pointer none,.int .i64 5]⟩) w) (
 br (decide ((d_0.len:Int) < 28)) (
 Q (.tuple ⟨[.pointer none,.int .i64 3]⟩) w) (
 lt (World.drew w) fun w103 =>
 bd 6 d_0.cap fun n104 =>
 lt (⟨qwd d_0.a d_0.cap 0 1,n104 - 0,d_0.cap - 0⟩:Sl) fun s105 =>
 (btS w103 s105.a s105.len fun x106 =>
 (nw w103 ⟨[.int .u8 67,.int .u8 71,.int .u8 80,.int .u8 72]⟩ 5 fun a107 w108 =>
 (mkStr w108 (some a107) fun w109 =>
 nw w109 ⟨[.int .u8 1,.int .u8 1]⟩ 5 fun a110 w111 =>
 rdO w111 (some a110) (2 * 1) fun c112 =>
 apK Tryz.prog 5 w111 (some a107) 4 4 2 c112 fun s113 w114 =>
 btS w114 s113.a s113.len fun x115 =>
 br (!(ByteArray.toList x106 == ByteArray.toList x115)) (
 Q (.tuple ⟨[.pointer none,.int .i64 2]⟩) w114) (
 qo.j1 d_0 Q w114))∧(
 nw w108 ⟨[.int .u8 1,.int .u8 1]⟩ 5 fun a116 w117 =>
 mkStr w117 (some a107) fun w118 =>
 rdO w118 (some a116) (2 * 1) fun c119 =>
 apK Tryz.prog 5 w118 (some a107) 4 4 2 c119 fun s120 w121 =>
 btS w121 s120.a s120.len fun x122 =>
 br (!(ByteArray.toList x106 == ByteArray.toList x122)) (
 Q (.tuple ⟨[.pointer none,.int .i64 2]⟩) w121) (
 qo.j1 d_0 Q w121)))∧(
 nw w103 ⟨[.int .u8 1,.int .u8 1]⟩ 5 fun a123 w124 =>
 nw w124 ⟨[.int .u8 67,.int .u8 71,.int .u8 80,.int .u8 72]⟩ 5 fun a125 w126 =>
 mkStr w126 (some a125) fun w127 =>
 rdO w127 (some a123) (2 * 1) fun c128 =>
 apK Tryz.prog 5 w127 (some a125) 4 4 2 c128 fun s129 w130 =>
 btS w130 s129.a s129.len fun x131 =>
 br (!(ByteArray.toList x106 == ByteArray.toList x131)) (
 Q (.tuple ⟨[.pointer none,.int .i64 2]⟩) w130) (
 qo.j1 d_0 Q w130)))∧(
 nw w103 ⟨[.int .u8 67,.int .u8 71,.int .u8 80,.int .u8 72]⟩ 5 fun a132 w133 =>
 (btS w133 s105.a s105.len fun x134 =>
 (mkStr w133 (some a132) fun w135 =>
 nw w135 ⟨[.int .u8 1,.int .u8 1]⟩ 5 fun a136 w137 =>
 rdO w137 (some a136) (2 * 1) fun c138 =>
 apK Tryz.prog 5 w137 (some a132) 4 4 2 c138 fun s139 w140 =>
 btS w140 s139.a s139.len fun x141 =>
 br (!(ByteArray.toList x134 == ByteArray.toList x141)) (
 Q (.tuple ⟨[.pointer none,.int .i64 2]⟩) w140) (
 qo.j1 d_0 Q w140))∧(
 nw w133 ⟨[.int .u8 1,.int .u8 1]⟩ 5 fun a142 w143 =>
 mkStr w143 (some a132) fun w144 =>
 rdO w144 (some a142) (2 * 1) fun c145 =>
 apK Tryz.prog 5 w144 (some a132) 4 4 2 c145 fun s146 w147 =>
 btS w147 s146.a s146.len fun x148 =>
 br (!(ByteArray.toList x134 == ByteArray.toList x148)) (
 Q (.tuple ⟨[.pointer none,.int .i64 2]⟩) w147) (
 qo.j1 d_0 Q w147)))∧(
 mkStr w133 (some a132) fun w149 =>
 (btS w149 s105.a s105.len fun x150 =>
 nw w149 ⟨[.int .u8 1,.int .u8 1]⟩ 5 fun a151 w152 =>
 rdO w152 (some a151) (2 * 1) fun c153 =>
 apK Tryz.prog 5 w152 (some a132) 4 4 2 c153 fun s154 w155 =>
 btS w155 s154.a s154.len fun x156 =>
 br (!(ByteArray.toList x150 == ByteArray.toList x156)) (
 Q (.tuple ⟨[.pointer none,.int .i64 2]⟩) w155) (
 qo.j1 d_0 Q w155))∧(
 nw w149 ⟨[.int .u8 1,.int .u8 1]⟩ 5 fun a157 w158 =>
 (btS w158 s105.a s105.len fun x159 =>
 rdO w158 (some a157) (2 * 1) fun c160 =>
 apK Tryz.prog 5 w158 (some a132) 4 4 2 c160 fun s161 w162 =>
 btS w162 s161.a s161.len fun x163 =>
 br (!(ByteArray.toList x159 == ByteArray.toList x163)) (
 Q (.tuple ⟨[.pointer none,.int .i64 2]⟩) w162) (
 qo.j1 d_0 Q w162))∧(
 rdO w158 (some a157) (2 * 1) fun c164 =>
 apK Tryz.prog 5 w158 (some a132) 4 4 2 c164 fun s165 w166 =>
 (btS w166 s105.a s105.len fun x167 =>
 btS w166 s165.a s165.len fun x168 =>
 br (!(ByteArray.toList x167 == ByteArray.toList x168)) (
 Q (.tuple ⟨[.pointer none,.int .i64 2]⟩) w166) (
 qo.j1 d_0 Q w166))∧(
 btS w166 s165.a s165.len fun x169 =>
 btS w166 s105.a s105.len fun x170 =>
 br (!(ByteArray.toList x170 == ByteArray.toList x169)) (
 Q (.tuple ⟨[.pointer none,.int .i64 2]⟩) w166) (
 qo.j1 d_0 Q w166)))))∧(
 nw w133 ⟨[.int .u8 1,.int .u8 1]⟩ 5 fun a171 w172 =>
 (btS w172 s105.a s105.len fun x173 =>
 mkStr w172 (some a132) fun w174 =>
 rdO w174 (some a171) (2 * 1) fun c175 =>
 apK Tryz.prog 5 w174 (some a132) 4 4 2 c175 fun s176 w177 =>
 btS w177 s176.a s176.len fun x178 =>
 br (!(ByteArray.toList x173 == ByteArray.toList x178)) (
 Q (.tuple ⟨[.pointer none,.int .i64 2]⟩) w177) (
 qo.j1 d_0 Q w177))∧(
 mkStr w172 (some a132) fun w179 =>
 (btS w179 s105.a s105.len fun x180 =>
 rdO w179 (some a171) (2 * 1) fun c181 =>
 apK Tryz.prog 5 w179 (some a132) 4 4 2 c181 fun s182 w183 =>
 btS w183 s182.a s182.len fun x184 =>
 br (!(ByteArray.toList x180 == ByteArray.toList x184)) (
 Q (.tuple ⟨[.pointer none,.int .i64 2]⟩) w183) (
 qo.j1 d_0 Q w183))∧(
 rdO w179 (some a171) (2 * 1) fun c185 =>
 apK Tryz.prog 5 w179 (some a132) 4 4 2 c185 fun s186 w187 =>
 (btS w187 s105.a s105.len fun x188 =>
 btS w187 s186.a s186.len fun x189 =>
 br (!(ByteArray.toList x188 == ByteArray.toList x189)) (
 Q (.tuple ⟨[.pointer none,.int .i64 2]⟩) w187) (
 qo.j1 d_0 Q w187))∧(
 btS w187 s186.a s186.len fun x190 =>
 btS w187 s105.a s105.len fun x191 =>
 br (!(ByteArray.toList x191 == ByteArray.toList x190)) (
 Q (.tuple ⟨[.pointer none,.int .i64 2]⟩) w187) (
 qo.j1 d_0 Q w187))))))∧(
 nw w103 ⟨[.int .u8 1,.int .u8 1]⟩ 5 fun a192 w193 =>
 (btS w193 s105.a s105.len fun x194 =>
 nw w193 ⟨[.int .u8 67,.int .u8 71,.int .u8 80,.int .u8 72]⟩ 5 fun a195 w196 =>
 mkStr w196 (some a195) fun w197 =>
 rdO w197 (some a192) (2 * 1) fun c198 =>
 apK Tryz.prog 5 w197 (some a195) 4 4 2 c198 fun s199 w200 =>
 btS w200 s199.a s199.len fun x201 =>
 br (!(ByteArray.toList x194 == ByteArray.toList x201)) (
 Q (.tuple ⟨[.pointer none,.int .i64 2]⟩) w200) (
 qo.j1 d_0 Q w200))∧(
 nw w193 ⟨[.int .u8 67,.int .u8 71,.int .u8 80,.int .u8 72]⟩ 5 fun a202 w203 =>
 (btS w203 s105.a s105.len fun x204 =>
 mkStr w203 (some a202) fun w205 =>
 rdO w205 (some a192) (2 * 1) fun c206 =>
 apK Tryz.prog 5 w205 (some a202) 4 4 2 c206 fun s207 w208 =>
 btS w208 s207.a s207.len fun x209 =>
 br (!(ByteArray.toList x204 == ByteArray.toList x209)) (
 Q (.tuple ⟨[.pointer none,.int .i64 2]⟩) w208) (
 qo.j1 d_0 Q w208))∧(
 mkStr w203 (some a202) fun w210 =>
 (btS w210 s105.a s105.len fun x211 =>
 rdO w210 (some a192) (2 * 1) fun c212 =>
 apK Tryz.prog 5 w210 (some a202) 4 4 2 c212 fun s213 w214 =>
 btS w214 s213.a s213.len fun x215 =>
 br (!(ByteArray.toList x211 == ByteArray.toList x215)) (
 Q (.tuple ⟨[.pointer none,.int .i64 2]⟩) w214) (
 qo.j1 d_0 Q w214))∧(
 rdO w210 (some a192) (2 * 1) fun c216 =>
 apK Tryz.prog 5 w210 (some a202) 4 4 2 c216 fun s217 w218 =>
 (btS w218 s105.a s105.len fun x219 =>
 btS w218 s217.a s217.len fun x220 =>
 br (!(ByteArray.toList x219 == ByteArray.toList x220)) (
 Q (.tuple ⟨[.pointer none,.int .i64 2]⟩) w218) (
 qo.j1 d_0 Q w218))∧(
 btS w218 s217.a s217.len fun x221 =>
 btS w218 s105.a s105.len fun x222 =>
 br (!(ByteArray.toList x222 == ByteArray.toList x221)) (
 Q (.tuple ⟨[.pointer none,.int .i64 2]⟩) w218) (
 qo.j1 d_0 Q w218))))))))
theorem qo.ok (d_0:Sl) (Q:VWP) (w:World) (h:qo d_0 Q w):Calls Tryz.prog 12 ⟨[sV d_0]⟩ w (Ret Q) :=
 qgc [.tmp 2,.tmp 3] qjd Tryz.func12 rfl rfl rfl rfl (.pr 1 [sL 0] (fun a w=>qo.j1 a Q w) (.pr 1 [sL 0] (fun a w=>qo.j2 a Q w) (.pr 1 [sL 0,sI 5] (fun a b w=>qo.j3 a b Q w) (.sq [sL 0,sI 6] (fun a b w=>qo.j4 a b Q w) .lf (.pr 1 [sL 0,sI 6,sI 7] (fun a b c w=>qo.j5 a b c Q w) (.pr 1 [sL 0,sI 7,sI 8,sI 9] (fun a b c d w=>qo.j6 a b c d Q w) (.pr 1 [sL 0,sI 7,sI 8,sI 9,sI 10] (fun a b c d e w=>qo.j7 a b c d e Q w) (.pr 1 [sL 0,sI 7,sI 8,sI 9,sI 10,sI 11,sL 12] (fun a b c d e f g w=>qo.j8 a b c d e f g Q w) (.sq [sL 0,sL 12] (fun a b w=>qo.j9 a b Q w) (.sq [sL 0,sI 7,sI 8,sI 9,sI 10,sI 11,sL 12,sI 13] (fun a b c d e f g h w=>qo.j10 a b c d e f g h Q w) .lf (.bk (.lo [sL 0,sI 7,sI 8,sI 9,sI 10,sI 11] [sL 12,sI 13] (fun a b c d e f g h w=>qo.l1 a b c d e f g h Q w) (fun nx1 a b c d e f g h w=>qo.b1 a b c d e f g h Q nx1 w) fun nx1=>.lf))) .lf))))))))) (by kernel_rfl) h
def qfe (x_0:OAd) (w_1:(Array Value)) (Q:VWP) (w:World):Prop :=
 nw w w_1 23 fun a1 w2 =>
 lt (World.drew w2) fun w3 =>
 nz x_0 fun a4 =>
 ldL w3 (Addr.add a4 0) fun x5 =>
 ldA w3 a1 20 fun c6 =>
 qnf 52 [sV x5,.agg c6] w3 fun r9 w8 =>
 br (decide (r9 < 0)) (
 Q (.tuple ⟨[.int .i64 0,.bool false]⟩) w8) (
 Q (.tuple ⟨[.int .i64 r9,.bool true]⟩) w8)
theorem qfe.ok (x_0:OAd) (w_1:(Array Value)) (Q:VWP) (w:World) (h:qfe x_0 w_1 Q w):Calls Tryz.prog 46 ⟨[.pointer x_0,.agg w_1]⟩ w (Ret Q) :=
 qgc [.tmp 4,.tmp 5] qjd Tryz.func46 rfl rfl rfl rfl .lf (by kernel_rfl) h
def qfb.j3 (out_5:Sl) (Q:VWP) (w:World):Prop :=
 Q (sV out_5) w
def qfb.b1 (x_0:OAd) (i_1:Int) (out_5:Sl) (k_6:Int) (Q:VWP) (nx1:OAd→Int→Sl→Int→WP) (w:World):Prop :=
 nz x_0 fun a1 =>
 ldL w (Addr.add a1 0) fun x2 =>
 ixS x2.a x2.len i_1 42 fun a3 =>
 ldL w (Addr.add a3 40) fun x4 =>
 br (decide (k_6 < (x4.len:Int))) (
 lt (World.drew w) fun w5 =>
 nz x_0 fun a6 =>
 ldL w5 (Addr.add a6 0) fun x7 =>
 nz x_0 fun a8 =>
 ldL w5 (Addr.add a8 0) fun x9 =>
 ixS x9.a x9.len i_1 42 fun a10 =>
 ldL w5 (Addr.add a10 40) fun x11 =>
 ixS x11.a x11.len k_6 20 fun a12 =>
 ldA w5 a12 20 fun c13 =>
 qnf 52 [sV x7,.agg c13] w5 fun r16 w15 =>
 nw w15 ⟨[.int .i64 r16]⟩ 3 fun a17 w18 =>
 rdO w18 (some a17) (1 * 1) fun c19 =>
 apK Tryz.prog 3 w18 out_5.a out_5.len out_5.cap 1 c19 fun s20 w21 =>
 lt (IntKind.i64.wrap (k_6+1)) fun x22 =>
 nx1 x_0 i_1 s20 x22 w21) (
 qfb.j3 out_5 Q w)
def qfb.l1 (x_0:OAd) (i_1:Int) (out_5:Sl) (k_6:Int) (Q:VWP) (w:World):Prop :=
 ∃ (I:Sl→Int→WP) (μ:Sl→Int→World→Nat),I out_5 k_6 w∧∀ out_5:Sl,∀ k_6:Int,∀ w:World,I out_5 k_6 w→qfb.b1 x_0 i_1 out_5 k_6 Q (fun x_0' i_1' out_5' k_6' w'=>(x_0'=x_0∧i_1'=i_1)∧I out_5' k_6' w'∧μ out_5' k_6' w' < μ out_5 k_6 w) w
def qfb.j4 (x_0:OAd) (i_1:Int) (out_5:Sl) (k_6:Int) (Q:VWP) (w:World):Prop :=
 qfb.l1 x_0 i_1 out_5 k_6 Q w
def qfb.j2 (x_0:OAd) (i_1:Int) (out_5:Sl) (Q:VWP) (w:World):Prop :=
 qfb.j4 x_0 i_1 out_5 0 Q w
def qfb.j1 (x_0:OAd) (i_1:Int) (Q:VWP) (w:World):Prop :=
 br (decide (i_1 < 0)) (
 Q (.slice none 0 0) w) (
 nz x_0 fun a23 =>
 ldL w (Addr.add a23 0) fun x24 =>
 br (decide (i_1 ≥ (x24.len:Int))) (
 Q (.slice none 0 0) w) (
 qfb.j2 x_0 i_1 ⟨none,0,0⟩ Q w))
def qfb (x_0:OAd) (i_1:Int) (Q:VWP) (w:World):Prop :=
 qfb.j1 x_0 i_1 Q w
theorem qfb.ok (x_0:OAd) (i_1:Int) (Q:VWP) (w:World) (h:qfb x_0 i_1 Q w):Calls Tryz.prog 45 ⟨[.pointer x_0,.int .i64 i_1]⟩ w (Ret Q) :=
 qgc [.tmp 4] qjd Tryz.func45 rfl rfl rfl rfl (.sq [sP 0,sI 1] (fun a b w=>qfb.j1 a b Q w) .lf (.pr 1 [sP 0,sI 1,sL 5] (fun a b c w=>qfb.j2 a b c Q w) (.sq [sL 5] (fun a w=>qfb.j3 a Q w) (.sq [sP 0,sI 1,sL 5,sI 6] (fun a b c d w=>qfb.j4 a b c d Q w) .lf (.bk (.lo [sP 0,sI 1] [sL 5,sI 6] (fun a b c d w=>qfb.l1 a b c d Q w) (fun nx1 a b c d w=>qfb.b1 a b c d Q nx1 w) fun nx1=>.lf))) .lf))) (by kernel_rfl) h
end Go.Proofs.YtigmbblgfnkpbaaGreat
namespace Go.Proofs.YtigmbblgfnkpbaaGreat
open Go Go.Proofs
set_option linter.unusedVariables false
set_option linter.unusedSimpArgs false
attribute [local irreducible] apK cpK mkK br
def atD:List Nd→Nm→Int
 | [],_=>-1
 | n :: L,q=>if n.id=q.1 then 0 else if atD L q < 0 then -1 else atD L q+1
theorem atD_hit:∀ {L:List Nd} {q:Nm} {i:Nat} (hi:i < L.length),L[i].id=q.1→(∀ j (h:j < L.length),j < i→L[j].id ≠ q.1)→atD L q=i:=by
 intro L
 induction L with
 | nil=>intro q i hi; simp at hi
 | cons n L ih =>
   intro q i hi h1 h2
   rw [atD]
   cases i with
   | zero =>
     simp only [List.getElem_cons_zero] at h1
     rw [if_pos h1]; rfl
   | succ i =>
     have h0:=h2 0 (by simp) (by omega)
     simp only [List.getElem_cons_zero] at h0
     have:=ih (q:=q) (i:=i) (by simpa using hi) (by simpa using h1) (fun j hj hji=>by
      have:=h2 (j+1) (by simpa using hj) (by omega)
      simpa using this)
     rw [if_neg h0,this,if_neg (by omega)]
     rfl
theorem atD_no:∀ {L:List Nd} {q:Nm},(∀ n ∈ L,n.id ≠ q.1)→atD L q = -1:=by
 intro L
 induction L with
 | nil=>intro q _; rfl
 | cons n L ih =>
   intro q h
   rw [atD,if_neg (h n (by simp)),ih fun m hm=>h m (by simp [hm])]
   rfl
def allD (L:List Nd) (P:List Nm):Bool:=P.all fun p=>decide (0≤atD L p)
section
variable {F0:List Nat} {w0 w:World} {ps rest:List As} {s:Sl} {L:List Nd} {n:Nd} {P:List Nm} {q:Nm} {pr:Nd→List Nm} {K:Ending→World→Prop}
theorem St.lrId {i:Int} {X:Array Value→Prop} (h:St F0 w0 w ps) [Rdb F0 w0 s ps 42 (L.flatMap ndC)] (j:Nat) (hi:i=j) (hj:j < L.length) (hk:X ⟨ivs .u8 L[j].id⟩):ixS s.a s.len i 42 fun a=>Go.Proofs.YtigmbblgfnkpbaaGreat.ldA w (Addr.add a 0) 20 X:=by
 refine h.rix (f:=ndC) (L:=L) j hi hj fun a0 ha=>?_
 refine ⟨⟨ivs .u8 L[j].id⟩,by simp [L[j].hid],fun o ho=>?_,hk⟩
 have hr:=h.rdb s
 rw [qdg,qdg,show j * 42+(0+o)=j * 42+o by omega,← qdg,hr.rcell ha hj (by omega)]
 have e:=ndC_id L[j]
 rw [List.drop_zero] at e
 have h2:=congrArg (fun l=>l[o]?) e
 simp only [List.getElem?_take,ho,if_true] at h2
 rw [h2]
 simp
theorem quj.c (h:St F0 w0 w ps) [Rdb F0 w0 s ps 42 (L.flatMap ndC)] (hL:L.length≤1000000) (hk:∀ w',St F0 w0 w' ps→K (.returned (.int .i64 (atD L q))) w') :
 Calls Tryz.prog 52 ⟨[sV s,.agg ⟨nmC q⟩]⟩ w K:=by
 have hl:=h.rlen (s:=s) (f:=ndC) (L:=L)
 refine qec (qbc.ok _ _ _ _ ?_)
 unfold qbc
 refine h.new fun xb w h=>?_
 have h:St F0 w0 w (qnb xb (nmC q) :: ps):=h
 unfold qbc.j1 qbc.j3
 refine qud (fun (i:Nat) (i':Int) w'=>i'=(i:Int)∧i≤L.length∧(∀ j (h:j < L.length),j < i→L[j].id ≠ q.1)∧St F0 w0 w' (qnb xb (nmC q) :: ps)) (fun i=>L.length - i) 0 ⟨rfl,Nat.zero_le _,fun j _ hj=>by omega,h⟩ ?_
 clear h
 rintro i _ wL I μ ⟨rfl,hi,ha,h⟩ hin
 unfold qbc.b1
 refine qmc (fun g=>?_) (fun g=>?_)
 · have hix:i < L.length:=by omega
   refine h.drewK fun w h=>?_
   refine h.lrId (s:=s) (L:=L) i rfl hix ?_
   refine h.lA (b:=xb) ((inferInstance:Rec nmC 20).len q) ?_
   refine eqA_i (xs:=L[i].id) (ys:=q.1) L[i].hid q.2.1 ?_
   refine qnc (fun g2=>?_) (fun g2=>?_)
   · have:=hk w h.drop
     rw [atD_hit hix (by simpa using g2) ha] at this
     exact this
   · refine qy (e':=((i+1:Nat):Int)) (by rw [qm (by omega) (by omega)]; rfl) ?_
     refine ⟨⟨rfl,rfl⟩,hin (i+1) _ _ ⟨rfl,by omega,fun j hj hji=>?_,h⟩ (by omega)⟩
     by_cases e:j=i
     · subst e; simpa using g2
     · exact ha j hj (by omega)
 · unfold qbc.j2
   have:=hk wL h.drop
   rw [atD_no fun m hm=>by
    obtain ⟨j,hj,rfl⟩:=List.getElem_of_mem hm
    exact ha j hj (by omega)] at this
   exact this
theorem ref_all.c (h:St F0 w0 w ps) [Rdb F0 w0 s ps 42 (L.flatMap ndC)] [Rdb F0 w0 n.par ps 20 (P.flatMap nmC)] (hL:L.length≤1000000) (hP:P.length≤1000000) (hk:∀ w',St F0 w0 w' ps→K (.returned (.bool (allD L P))) w') :
 Calls Tryz.prog 53 ⟨[sV s,.agg ⟨ndC n⟩]⟩ w K:=by
 have hl:=h.rlen (s:=n.par) (f:=nmC) (L:=P)
 refine qec (qyb.ok _ _ _ _ ?_)
 unfold qyb
 refine h.new fun xb w h=>?_
 have h:St F0 w0 w (qnb xb (ndC n) :: ps):=h
 unfold qyb.j1 qyb.j3
 refine qud (fun (i:Nat) (i':Int) w'=>i'=(i:Int)∧i≤P.length∧allD L (P.take i)=true∧St F0 w0 w' (qnb xb (ndC n) :: ps)) (fun i=>P.length - i) 0 ⟨rfl,Nat.zero_le _,rfl,h⟩ ?_
 clear h
 rintro i _ wL I μ ⟨rfl,hi,ha,h⟩ hin
 unfold qyb.b1
 refine h.blk.ldPar ?_
 refine qmc (fun g=>?_) (fun g=>?_)
 · have hix:i < P.length:=by omega
   refine h.blk.ldPar ?_
   refine h.lr (s:=n.par) (L:=P) i rfl hix ?_
   refine quj.c (L:=L) h hL fun w h=>⟨_,rfl,?_⟩
   refine qmc (fun g2=>?_) (fun g2=>?_)
   · have:=hk w h.drop
     have e:allD L P=false:=by
      cases hc:allD L P with
      | false=>rfl
      | true =>
        have:=List.all_eq_true.1 hc P[i] (List.getElem_mem hix)
        simp only [decide_eq_true_eq] at this
        omega
     rw [e] at this
     exact this
   · refine qy (e':=((i+1:Nat):Int)) (by rw [qm (by omega) (by omega)]; rfl) ?_
     refine ⟨⟨rfl,rfl⟩,hin (i+1) _ _ ⟨rfl,by omega,?_,h⟩ (by omega)⟩
     unfold allD at ha ⊢
     rw [List.take_succ_eq_append_getElem hix,List.all_append,ha]
     simp
     omega
 · have:i=P.length:=by omega
   subst this
   rw [List.take_length] at ha
   unfold qyb.j2
   have:=hk wL h.drop
   rw [ha] at this
   exact this
end
end Go.Proofs.YtigmbblgfnkpbaaGreat
namespace Go.Proofs.YtigmbblgfnkpbaaGreat
open Go Go.Proofs
set_option linter.unusedVariables false
set_option linter.unusedSimpArgs false
attribute [local irreducible] apK cpK mkK br
theorem qyj (n:Nd):(ndC n)[40]?=some (.slice n.par.a n.par.len n.par.cap):=by
 unfold ndC
 rw [List.getElem?_append_right (by rw [qw,n.hid]; decide),qw,n.hid,List.getElem?_append_right (by rw [qw,n.htr]; decide),qw,n.htr]
 rfl
section
variable {F0:List Nat} {w0 w:World} {ps rest:List As} {sa sn sg:Sl} {L:List Nd} {gl:List Int} {q:Nm} {pr:Nd→List Nm} {gb:Nat} {i:Int} {K:Ending→World→Prop}
abbrev grL (sa sn sg:Sl):List Value:=[.slice sa.a sa.len sa.cap,.slice sn.a sn.len sn.cap,.slice sg.a sg.len sg.cap]
theorem Graph_Len.c (h:St F0 w0 w ps) [PkB gb ps (grL sa sn sg) rest] (hk:K (.returned (.int .i64 (sa.len:Int))) w):Calls Tryz.prog 23 ⟨[.pointer (some ⟨gb,0,none⟩)]⟩ w K:=by
 refine qec (qbg.ok _ _ _ ?_)
 unfold qbg
 exact qde (h.gL (b:=gb) hk)
theorem Graph_is.c (h:St F0 w0 w ps) [PkB gb ps (grL sa sn sg) rest] (hk:K (.returned (.bool (decide (0≤i∧i < (sn.len:Int))))) w):Calls Tryz.prog 56 ⟨[.pointer (some ⟨gb,0,none⟩),.int .i64 i]⟩ w K:=by
 refine qec (qpg.ok _ _ _ _ ?_)
 unfold qpg
 refine qmc (fun g=>?_) (fun g=>?_)
 · refine qde (h.gL (b:=gb) ?_)
   have e:decide (0≤i∧i < (sn.len:Int))=decide (i < (sn.len:Int)):=by
    by_cases g2:i < (sn.len:Int)
    · rw [decide_eq_true g2,decide_eq_true ⟨g,g2⟩]
    · rw [decide_eq_false g2,decide_eq_false fun e=>g2 e.2]
   rw [e] at hk
   exact hk
 · rw [decide_eq_false fun e=>g e.1] at hk
   exact hk
theorem Graph_Generation.c (h:St F0 w0 w ps) [PkB gb ps (grL sa sn sg) rest] [Rdb F0 w0 sg ps 1 (ivs .i64 gl)] (hl:gl.length=sn.len) (hk:∀ w',St F0 w0 w' ps→K (.returned (.int .i64 (if 0≤i∧i < (sn.len:Int) then gl.getD i.toNat 0 else 0))) w'):Calls Tryz.prog 22 ⟨[.pointer (some ⟨gb,0,none⟩),.int .i64 i]⟩ w K:=by
 refine qec (qae.ok _ _ _ _ ?_)
 unfold qae
 refine Graph_is.c h ⟨_,rfl,?_⟩
 by_cases g:0≤i∧i < (sn.len:Int)
 · rw [decide_eq_true g]
   refine qnc (fun g2=>by cases g2) (fun _=>?_)
   refine qde (h.gL (b:=gb) ?_)
   refine h.lx (s:=sg) (zs:=gl) i.toNat (by omega) (by omega) ?_
   have:=hk w h
   rw [if_pos g] at this
   exact this
 · rw [decide_eq_false g]
   refine qnc (fun _=>?_) (fun g2=>by cases g2)
   have:=hk w h
   rw [if_neg g] at this
   exact this
theorem Graph_Find.c (h:St F0 w0 w ps) [PkB gb ps (grL sa sn sg) rest] [Rdb F0 w0 sa ps 20 ((L.map Nd.nm).flatMap nmC)] (hA:Ris (L.map Nd.nm)) (hL:L.length≤1000000)
 (hk:∀ w',St F0 w0 w' ps→K (.returned (.tuple ⟨[.int .i64 (if q ∈ L.map Nd.nm then (qgh (L.map Nd.nm) q:Int) else 0),.bool (decide (q ∈ L.map Nd.nm))]⟩)) w'):Calls Tryz.prog 19 ⟨[.pointer (some ⟨gb,0,none⟩),.agg ⟨nmC q⟩]⟩ w K:=by
 refine qec (qsf.ok _ _ _ _ ?_)
 unfold qsf
 refine h.new fun xb w h=>?_
 have h:St F0 w0 w (qnb xb (nmC q) :: ps):=h
 refine h.drewK fun w h=>?_
 refine qde (h.gL (b:=gb) ?_)
 refine h.lA (b:=xb) ((inferInstance:Rec nmC 20).len q) ?_
 refine qyh.c (A:=L.map Nd.nm) (s:=sa) (q:=q) h hA (by rw [List.length_map]; exact hL) fun w h=>⟨_,_,rfl,?_⟩
 have:=hk w h.drop
 by_cases g:q ∈ L.map Nd.nm
 · rw [decide_eq_true g]
   rw [if_pos g,decide_eq_true g] at this
   exact qnc (fun g2=>by cases g2) (fun _=>this)
 · rw [decide_eq_false g]
   rw [if_neg g,decide_eq_false g] at this
   exact qnc (fun _=>this) (fun g2=>by cases g2)
theorem Graph_Parents.c (h:St F0 w0 w ps) [PkB gb ps (grL sa sn sg) rest] [Rdb F0 w0 sa ps 20 ((L.map Nd.nm).flatMap nmC)] [Rdb F0 w0 sn ps 42 (L.flatMap ndC)] (hA:Ris (L.map Nd.nm)) (hL:L.length≤1000000) (hpr:∀ n ∈ L,(pr n).length≤1000000) (hP:∀ n ∈ L,Rdb F0 w0 n.par ps 20 ((pr n).flatMap nmC))
 (hk1:¬ (0≤i∧i < (L.length:Int))→∀ w',St F0 w0 w' ps→K (.returned (slV ⟨none,0,0⟩)) w')
 (hk2:∀ (hi:i.toNat < L.length),0≤i→∀ u w',u.len=(pr L[i.toNat]).length→St F0 w0 w' (qjb 1 u (ivs .i64 ((pr L[i.toNat]).map fun p=>(qgh (L.map Nd.nm) p:Int))) :: ps)→K (.returned (slV u)) w') :
 Calls Tryz.prog 21 ⟨[.pointer (some ⟨gb,0,none⟩),.int .i64 i]⟩ w K:=by
 have hl:=h.rlen (s:=sn) (f:=ndC) (L:=L)
 refine qec (qse.ok _ _ _ _ ?_)
 unfold qse
 refine Graph_is.c h ⟨_,rfl,?_⟩
 by_cases g:0≤i∧i < (sn.len:Int)
 · rw [decide_eq_true g]
   refine qnc (fun g2=>by cases g2) (fun _=>?_)
   have hi:i.toNat < L.length:=by omega
   refine h.drewK fun w h=>?_
   refine qde (h.gL (b:=gb) (qde (h.gL (b:=gb) ?_)))
   refine h.lrL (s:=sn) (L:=L) (o:=40) i.toNat (by omega) hi (by decide) (qyj _) ?_
   haveI:=hP _ (List.getElem_mem hi)
   refine numbers.c (A:=L.map Nd.nm) (P:=pr L[i.toNat]) (s:=sa) (t:=L[i.toNat].par) h hA (by rw [List.length_map]; exact hL) (hpr _ (List.getElem_mem hi)) fun u w hu h=>⟨u,rfl,?_⟩
   exact hk2 hi g.1 u w hu h
 · rw [decide_eq_false g]
   refine qnc (fun _=>?_) (fun g2=>by cases g2)
   exact hk1 (by rw [hl]; exact g) w h
theorem Graph_Node.c (h:St F0 w0 w ps) [PkB gb ps (grL sa sn sg) rest] [Rdb F0 w0 sn ps 42 (L.flatMap ndC)] (hpr:∀ n ∈ L,(pr n).length≤1000000) (hP:∀ n ∈ L,Rdb F0 w0 n.par ps 20 ((pr n).flatMap nmC))
 (hk1:¬ (0≤i∧i < (L.length:Int))→∀ w',St F0 w0 w' ps→K (.returned (.tuple ⟨[.agg ⟨ndC ndZ⟩,.bool false]⟩)) w')
 (hk2:∀ (hi:i.toNat < L.length),0≤i→∀ t w',t.len=(pr L[i.toNat]).length→St F0 w0 w' (rdA 20 t ((pr L[i.toNat]).flatMap nmC) :: ps)→K (.returned (.tuple ⟨[.agg ⟨ndC (L[i.toNat].setP t)⟩,.bool true]⟩)) w') :
 Calls Tryz.prog 20 ⟨[.pointer (some ⟨gb,0,none⟩),.int .i64 i]⟩ w K:=by
 have hl:=h.rlen (s:=sn) (f:=ndC) (L:=L)
 refine qec (qrf.ok _ _ _ _ ?_)
 unfold qrf
 rw [qeg]
 refine h.new fun xb w h=>?_
 have h:St F0 w0 w (qnb xb (ndC ndZ) :: ps):=h
 refine Graph_is.c (gb:=gb) (sn:=sn) (sa:=sa) (sg:=sg) h ⟨_,rfl,?_⟩
 by_cases g:0≤i∧i < (sn.len:Int)
 · rw [decide_eq_true g]
   refine qnc (fun g2=>by cases g2) (fun _=>?_)
   have hi:i.toNat < L.length:=by omega
   refine qde (h.gL (b:=gb) ?_)
   refine h.lr (s:=sn) (L:=L) i.toNat (by omega) hi ?_
   haveI:=hP _ (List.getElem_mem hi)
   refine qlg.c (n:=L[i.toNat]) (P:=pr L[i.toNat]) h (hpr _ (List.getElem_mem hi)) fun t w ht h=>⟨_,rfl,qob _,?_⟩
   refine h.at1.setR (qob _) fun w h=>?_
   refine h.lA (b:=xb) (qob _) ?_
   exact hk2 hi g.1 t w ht h.drop
 · rw [decide_eq_false g]
   refine qnc (fun _=>?_) (fun g2=>by cases g2)
   refine ⟨qob _,?_⟩
   refine h.setR (f:=ndC) (x:=ndZ) (qob _) fun w h=>?_
   refine h.lA (b:=xb) (qob _) ?_
   exact hk1 (by rw [hl]; exact g) w h.drop
end
end Go.Proofs.YtigmbblgfnkpbaaGreat
namespace Go.Proofs.YtigmbblgfnkpbaaGreat
open Go Go.Proofs
set_option linter.unusedVariables false
set_option maxRecDepth 100000
def qxb.j2  (Q:VWP) (w:World):Prop :=
 Q (.bool false) w
def qxb.b1 (a_2 b_3:Addr) (i_5:Int) (Q:VWP) (nx1:Addr→Addr→Int→WP) (w:World):Prop :=
 br (decide (i_5 < 20)) (
 lt (World.drew w) fun w1 =>
 ixA a_2 20 i_5 1 fun a2 =>
 ldI .u8 w1 a2 fun x3 =>
 ixA b_3 20 i_5 1 fun a4 =>
 ldI .u8 w1 a4 fun x5 =>
 br (x3 != x5) (
 lt (World.drew w1) fun w6 =>
 ixA a_2 20 i_5 1 fun a7 =>
 ldI .u8 w6 a7 fun x8 =>
 ixA b_3 20 i_5 1 fun a9 =>
 ldI .u8 w6 a9 fun x10 =>
 Q (.bool (decide (x8 < x10))) w6) (
 lt (IntKind.i64.wrap (i_5+1)) fun x11 =>
 nx1 a_2 b_3 x11 w1)) (
 qxb.j2 Q w)
def qxb.l1 (a_2 b_3:Addr) (i_5:Int) (Q:VWP) (w:World):Prop :=
 ∃ (I:Int→WP) (μ:Int→World→Nat),I i_5 w∧∀ i_5:Int,∀ w:World,I i_5 w→qxb.b1 a_2 b_3 i_5 Q (fun a_2' b_3' i_5' w'=>(a_2'=a_2∧b_3'=b_3)∧I i_5' w'∧μ i_5' w' < μ i_5 w) w
def qxb.j3 (a_2 b_3:Addr) (i_5:Int) (Q:VWP) (w:World):Prop :=
 qxb.l1 a_2 b_3 i_5 Q w
def qxb.j1 (a_2 b_3:Addr) (Q:VWP) (w:World):Prop :=
 qxb.j3 a_2 b_3 0 Q w
def qxb (a_0:(Array Value)) (b_1:(Array Value)) (Q:VWP) (w:World):Prop :=
 nw w a_0 23 fun a12 w13 =>
 nw w13 b_1 23 fun a14 w15 =>
 qxb.j1 a12 a14 Q w15
theorem qxb.ok (a_0:(Array Value)) (b_1:(Array Value)) (Q:VWP) (w:World) (h:qxb a_0 b_1 Q w):Calls Tryz.prog 83 ⟨[.agg a_0,.agg b_1]⟩ w (Ret Q) :=
 qgc [.tmp 4] qjd Tryz.func83 rfl rfl rfl rfl (.sq [sA 2,sA 3] (fun a b w=>qxb.j1 a b Q w) .lf (.sq [] (fun  w=>qxb.j2 Q w) (.sq [sA 2,sA 3,sI 5] (fun a b c w=>qxb.j3 a b c Q w) .lf (.bk (.lo [sA 2,sA 3] [sI 5] (fun a b c w=>qxb.l1 a b c Q w) (fun nx1 a b c w=>qxb.b1 a b c Q nx1 w) fun nx1=>.lf))) .lf)) (by kernel_rfl) h
def qdb.j2 (out_3:Sl) (Q:VWP) (w:World):Prop :=
 Q (sV out_3) w
def qdb.j5 (l_0 out_3:Sl) (i_4:Int) (Q:VWP) (nx1:Sl→Sl→Int→WP) (w:World):Prop :=
 lt (IntKind.i64.wrap (i_4+1)) fun x1 =>
 nx1 l_0 out_3 x1 w
def qdb.b2 (l_0 out_3:Sl) (i_4:Int) (k_5:Int) (Q:VWP) (nx1:Sl→Sl→Int→WP) (nx2:Sl→Sl→Int→Int→WP) (w:World):Prop :=
 br (decide (k_5 < 256)) (
 ixS out_3.a out_3.len k_5 1 fun a2 =>
 ldI .i64 w a2 fun x3 =>
 lt (IntKind.i64.wrap (x3+1)) fun x4 =>
 ixS out_3.a out_3.len k_5 1 fun a5 =>
 st w a5 (.int .i64 x4) fun w6 =>
 lt (IntKind.i64.wrap (k_5+1)) fun x7 =>
 nx2 l_0 out_3 i_4 x7 w6) (
 qdb.j5 l_0 out_3 i_4 Q nx1 w)
def qdb.l2 (l_0 out_3:Sl) (i_4:Int) (k_5:Int) (Q:VWP) (nx1:Sl→Sl→Int→WP) (w:World):Prop :=
 ∃ (I:Int→WP) (μ:Int→World→Nat),I k_5 w∧∀ k_5:Int,∀ w:World,I k_5 w→qdb.b2 l_0 out_3 i_4 k_5 Q nx1 (fun l_0' out_3' i_4' k_5' w'=>(l_0'=l_0∧out_3'=out_3∧i_4'=i_4)∧I k_5' w'∧μ k_5' w' < μ k_5 w) w
def qdb.j6 (l_0 out_3:Sl) (i_4:Int) (k_5:Int) (Q:VWP) (nx1:Sl→Sl→Int→WP) (w:World):Prop :=
 qdb.l2 l_0 out_3 i_4 k_5 Q nx1 w
def qdb.j4 (l_0 out_3:Sl) (i_4:Int) (Q:VWP) (nx1:Sl→Sl→Int→WP) (w:World):Prop :=
 ixS l_0.a l_0.len i_4 20 fun a8 =>
 ixA a8 20 0 1 fun a9 =>
 ldI .u8 w a9 fun x10 =>
 lt (IntKind.i64.wrap x10) fun x11 =>
 qdb.j6 l_0 out_3 i_4 x11 Q nx1 w
def qdb.b1 (l_0 out_3:Sl) (i_4:Int) (Q:VWP) (nx1:Sl→Sl→Int→WP) (w:World):Prop :=
 br (decide (i_4 < (l_0.len:Int))) (
 qdb.j4 l_0 out_3 i_4 Q nx1 w) (
 qdb.j2 out_3 Q w)
def qdb.l1 (l_0 out_3:Sl) (i_4:Int) (Q:VWP) (w:World):Prop :=
 ∃ (I:Int→WP) (μ:Int→World→Nat),I i_4 w∧∀ i_4:Int,∀ w:World,I i_4 w→qdb.b1 l_0 out_3 i_4 Q (fun l_0' out_3' i_4' w'=>(l_0'=l_0∧out_3'=out_3)∧I i_4' w'∧μ i_4' w' < μ i_4 w) w
def qdb.j3 (l_0 out_3:Sl) (i_4:Int) (Q:VWP) (w:World):Prop :=
 qdb.l1 l_0 out_3 i_4 Q w
def qdb.j1 (l_0 out_3:Sl) (Q:VWP) (w:World):Prop :=
 qdb.j3 l_0 out_3 0 Q w
def qdb (l_0:Sl) (Q:VWP) (w:World):Prop :=
 mkK Tryz.prog 3 w 256 256 fun s12 w13 =>
 qdb.j1 l_0 s12 Q w13
theorem qdb.ok (l_0:Sl) (Q:VWP) (w:World) (h:qdb l_0 Q w):Calls Tryz.prog 68 ⟨[sV l_0]⟩ w (Ret Q) :=
 qgc [.tmp 2] qjd Tryz.func68 rfl rfl rfl rfl (.pr 1 [sL 0,sL 3] (fun a b w=>qdb.j1 a b Q w) (.sq [sL 3] (fun a w=>qdb.j2 a Q w) (.sq [sL 0,sL 3,sI 4] (fun a b c w=>qdb.j3 a b c Q w) .lf (.bk (.lo [sL 0,sL 3] [sI 4] (fun a b c w=>qdb.l1 a b c Q w) (fun nx1 a b c w=>qdb.b1 a b c Q nx1 w) fun nx1=>(.sq [sL 0,sL 3,sI 4] (fun a b c w=>qdb.j4 a b c Q nx1 w) .lf (.sq [sL 0,sL 3,sI 4] (fun a b c w=>qdb.j5 a b c Q nx1 w) (.bk (.sq [sL 0,sL 3,sI 4,sI 5] (fun a b c d w=>qdb.j6 a b c d Q nx1 w) .lf (.bk (.lo [sL 0,sL 3,sI 4] [sI 5] (fun a b c d w=>qdb.l2 a b c d Q nx1 w) (fun nx2 a b c d w=>qdb.b2 a b c d Q nx1 nx2 w) fun nx2=>.lf)))) .lf))))) .lf)) (by kernel_rfl) h
def qcc.j2 (out_3:Sl) (Q:VWP) (w:World):Prop :=
 Q (sV out_3) w
def qcc.b1 (l_0 out_3:Sl) (i_4:Int) (Q:VWP) (nx1:Sl→Sl→Int→WP) (w:World):Prop :=
 br (decide (i_4 < (l_0.len:Int))) (
 ixS l_0.a l_0.len i_4 20 fun a1 =>
 ldA w a1 20 fun c2 =>
 (c2).size=20 ∧
 nw w ⟨(spl [.int .u8 0,.int .u8 0,.int .u8 0,.int .u8 0,.int .u8 0,.int .u8 0,.int .u8 0,.int .u8 0,.int .u8 0,.int .u8 0,.int .u8 0,.int .u8 0,.int .u8 0,.int .u8 0,.int .u8 0,.int .u8 0,.int .u8 0,.int .u8 0,.int .u8 0,.int .u8 0] 0 c2)⟩ 23 fun a3 w4 =>
 rdO w4 (some a3) (1 * 20) fun c5 =>
 apK Tryz.prog 23 w4 out_3.a out_3.len out_3.cap 1 c5 fun s6 w7 =>
 lt (IntKind.i64.wrap (i_4+1)) fun x8 =>
 nx1 l_0 s6 x8 w7) (
 qcc.j2 out_3 Q w)
def qcc.l1 (l_0 out_3:Sl) (i_4:Int) (Q:VWP) (w:World):Prop :=
 ∃ (I:Sl→Int→WP) (μ:Sl→Int→World→Nat),I out_3 i_4 w∧∀ out_3:Sl,∀ i_4:Int,∀ w:World,I out_3 i_4 w→qcc.b1 l_0 out_3 i_4 Q (fun l_0' out_3' i_4' w'=>(l_0'=l_0)∧I out_3' i_4' w'∧μ out_3' i_4' w' < μ out_3 i_4 w) w
def qcc.j3 (l_0 out_3:Sl) (i_4:Int) (Q:VWP) (w:World):Prop :=
 qcc.l1 l_0 out_3 i_4 Q w
def qcc.j1 (l_0 out_3:Sl) (Q:VWP) (w:World):Prop :=
 qcc.j3 l_0 out_3 0 Q w
def qcc (l_0:Sl) (Q:VWP) (w:World):Prop :=
 qcc.j1 l_0 ⟨none,0,0⟩ Q w
theorem qcc.ok (l_0:Sl) (Q:VWP) (w:World) (h:qcc l_0 Q w):Calls Tryz.prog 36 ⟨[sV l_0]⟩ w (Ret Q) :=
 qgc [.tmp 2] qjd Tryz.func36 rfl rfl rfl rfl (.pr 1 [sL 0,sL 3] (fun a b w=>qcc.j1 a b Q w) (.sq [sL 3] (fun a w=>qcc.j2 a Q w) (.sq [sL 0,sL 3,sI 4] (fun a b c w=>qcc.j3 a b c Q w) .lf (.bk (.lo [sL 0] [sL 3,sI 4] (fun a b c w=>qcc.l1 a b c Q w) (fun nx1 a b c w=>qcc.b1 a b c Q nx1 w) fun nx1=>.lf))) .lf)) (by kernel_rfl) h
def qsb.j2  (Q:VWP) (w:World):Prop :=
 Q (.bool true) w
def qsb.b1 (a_0 b_1:Sl) (i_5:Int) (Q:VWP) (nx1:Sl→Sl→Int→WP) (w:World):Prop :=
 br (decide (i_5 < (a_0.len:Int))) (
 lt (World.drew w) fun w1 =>
 ixS a_0.a a_0.len i_5 20 fun a2 =>
 ldA w1 a2 20 fun c3 =>
 ixS b_1.a b_1.len i_5 20 fun a4 =>
 ldA w1 a4 20 fun c5 =>
 eqA .u8 20 c3 c5 fun x6 =>
 br (!x6) (
 Q (.bool false) w1) (
 lt (IntKind.i64.wrap (i_5+1)) fun x7 =>
 nx1 a_0 b_1 x7 w1)) (
 qsb.j2 Q w)
def qsb.l1 (a_0 b_1:Sl) (i_5:Int) (Q:VWP) (w:World):Prop :=
 ∃ (I:Int→WP) (μ:Int→World→Nat),I i_5 w∧∀ i_5:Int,∀ w:World,I i_5 w→qsb.b1 a_0 b_1 i_5 Q (fun a_0' b_1' i_5' w'=>(a_0'=a_0∧b_1'=b_1)∧I i_5' w'∧μ i_5' w' < μ i_5 w) w
def qsb.j3 (a_0 b_1:Sl) (i_5:Int) (Q:VWP) (w:World):Prop :=
 qsb.l1 a_0 b_1 i_5 Q w
def qsb.j1 (a_0 b_1:Sl) (Q:VWP) (w:World):Prop :=
 qsb.j3 a_0 b_1 0 Q w
def qsb (a_0 b_1:Sl) (Q:VWP) (w:World):Prop :=
 br ((a_0.len:Int) != (b_1.len:Int)) (
 Q (.bool false) w) (
 qsb.j1 a_0 b_1 Q w)
theorem qsb.ok (a_0:Sl) (b_1:Sl) (Q:VWP) (w:World) (h:qsb a_0 b_1 Q w):Calls Tryz.prog 54 ⟨[sV a_0,sV b_1]⟩ w (Ret Q) :=
 qgc [.tmp 4] qjd Tryz.func54 rfl rfl rfl rfl (.pr 1 [sL 0,sL 1] (fun a b w=>qsb.j1 a b Q w) (.sq [] (fun  w=>qsb.j2 Q w) (.sq [sL 0,sL 1,sI 5] (fun a b c w=>qsb.j3 a b c Q w) .lf (.bk (.lo [sL 0,sL 1] [sI 5] (fun a b c w=>qsb.l1 a b c Q w) (fun nx1 a b c w=>qsb.b1 a b c Q nx1 w) fun nx1=>.lf))) .lf)) (by kernel_rfl) h
end Go.Proofs.YtigmbblgfnkpbaaGreat
namespace Go.Proofs.YtigmbblgfnkpbaaGreat
open Go Go.Proofs
set_option linter.unusedVariables false
set_option linter.unusedSimpArgs false
attribute [local irreducible] apK cpK mkK br
theorem ltI_at:∀ {i:Nat} {a b:List Int},i < a.length→i < b.length→a.take i=b.take i→a.getD i 0 ≠ b.getD i 0→ltI a b=decide (a.getD i 0 < b.getD i 0):=by
 intro i
 induction i with
 | zero =>
   intro a b ha hb _ hne
   cases a with
   | nil=>simp at ha
   | cons x a =>
     cases b with
     | nil=>simp at hb
     | cons y b =>
       have hne:x ≠ y:=by simpa using hne
       show ltI (x :: a) (y :: b)=decide (x < y)
       unfold ltI
       rw [cmpI]
       by_cases h:x < y
       · rw [if_pos h,decide_eq_true h]; rfl
       · rw [if_neg h,if_pos (by omega),decide_eq_false h]; rfl
 | succ i ih =>
   intro a b ha hb ht hne
   cases a with
   | nil=>simp at ha
   | cons x a =>
     cases b with
     | nil=>simp at hb
     | cons y b =>
       rw [List.take_succ_cons,List.take_succ_cons] at ht
       injection ht with h1 h2
       subst h1
       have:=ih (a:=a) (b:=b) (by simpa using ha) (by simpa using hb) h2 (by simpa using hne)
       have e:ltI (x :: a) (x :: b)=ltI a b:=by
        unfold ltI
        rw [cmpI,if_neg (by omega),if_neg (by omega)]
       rw [e,this]
       simp
section
variable {F0:List Nat} {w0 w:World} {ps rest:List As} {p q:Nm} {K:Ending→World→Prop}
theorem ref_Less.c (h:St F0 w0 w ps) (hk:∀ w',St F0 w0 w' ps→K (.returned (.bool (ltI p.1 q.1))) w'):Calls Tryz.prog 83 ⟨[.agg ⟨nmC p⟩,.agg ⟨nmC q⟩]⟩ w K:=by
 refine qec (qxb.ok _ _ _ _ ?_)
 unfold qxb
 refine h.new fun xb w h=>?_
 refine h.new fun yb w h=>?_
 have h:St F0 w0 w (qnb yb (ivs .u8 q.1) :: qnb xb (ivs .u8 p.1) :: ps):=h
 unfold qxb.j1 qxb.j3
 refine qud (fun (i:Nat) (i':Int) w'=>i'=(i:Int)∧i≤20∧p.1.take i=q.1.take i∧St F0 w0 w' (qnb yb (ivs .u8 q.1) :: qnb xb (ivs .u8 p.1) :: ps)) (fun i=>20 - i) 0 ⟨rfl,Nat.zero_le _,by simp,h⟩ ?_
 clear h
 rintro i _ wL I μ ⟨rfl,hi,ht,h⟩ hin
 have hp:=p.2.1
 have hq:=q.2.1
 unfold qxb.b1
 refine qmc (fun g=>?_) (fun g=>?_)
 · have hi2:i < 20:=by omega
   refine h.drewK fun w h=>?_
   refine h.la (b:=xb) (k:=.u8) i rfl hp hi2 ?_
   refine h.la (b:=yb) (k:=.u8) i rfl hq hi2 ?_
   refine qnc (fun g2=>?_) (fun g2=>?_)
   · refine h.drewK fun w h=>?_
     refine h.la (b:=xb) (k:=.u8) i rfl hp hi2 ?_
     refine h.la (b:=yb) (k:=.u8) i rfl hq hi2 ?_
     have:=hk w h.drop.drop
     rw [ltI_at (i:=i) (by omega) (by omega) ht (by simpa using g2)] at this
     exact this
   · have g2:p.1.getD i 0=q.1.getD i 0:=by simpa using g2
     refine qy (e':=((i+1:Nat):Int)) (by rw [qm (by omega) (by omega)]; rfl) ?_
     exact ⟨⟨rfl,rfl⟩,hin (i+1) _ _ ⟨rfl,by omega,by rw [qrg (by omega),qrg (by omega),ht,g2],h⟩ (by omega)⟩
 · have:i=20:=by omega
   subst this
   rw [List.take_of_length_le (by omega),List.take_of_length_le (by omega)] at ht
   have:=hk wL h.drop.drop
   rw [ht,qhf] at this
   exact this
end
end Go.Proofs.YtigmbblgfnkpbaaGreat
namespace Go.Proofs.YtigmbblgfnkpbaaGreat
open Go Go.Proofs
set_option linter.unusedVariables false
set_option linter.unusedSimpArgs false
attribute [local irreducible] apK cpK mkK br
instance elt_20:EltR Tryz.prog 23 20 (ivs .u8 z20):=⟨⟨Tryz.t23,by kernel_rfl,rfl,by decide,by decide⟩,by kernel_rfl,rfl,by decide⟩
section
variable {F0:List Nat} {w0 w:World} {ps rest:List As} {s:Sl} {P:List Nm} {K:Ending→World→Prop}
theorem law_Of.c (h:St F0 w0 w ps) [Rdb F0 w0 s ps 20 (P.flatMap nmC)] (hL:P.length≤1000000) (hk:∀ t w',t.len=P.length→St F0 w0 w' (qjb 20 t (P.flatMap nmC) :: ps)→K (.returned (sV t)) w') :
 Calls Tryz.prog 36 ⟨[sV s]⟩ w K:=by
 have hl:=h.rlen (s:=s) (f:=nmC) (L:=P)
 have lenC:∀ p:Nm,(nmC p).length=20:=fun p=>(inferInstance:Rec nmC 20).len p
 refine qec (qcc.ok _ _ _ ?_)
 unfold qcc qcc.j1 qcc.j3
 refine qbf (fun (i:Nat) (t:Sl) (i':Int) w'=>i'=(i:Int)∧i≤P.length∧St F0 w0 w' (qjb 20 t ((P.take i).flatMap nmC) :: ps)) (fun i=>P.length - i) 0 ⟨rfl,Nat.zero_le _,h.nilO⟩ ?_
 clear h
 rintro i t _ wL I μ ⟨rfl,hi,h⟩ hin
 unfold qcc.b1
 refine qmc (fun g=>?_) (fun g=>?_)
 · have hix:i < P.length:=by omega
   refine h.lr (s:=s) (L:=P) i rfl hix ⟨lenC _,?_⟩
   rw [qjf (by rw [lenC]; rfl)]
   refine h.pushR (s:=t) (L:=P.take i) (x:=P[i]) (by rw [List.length_take]; omega) rfl fun s' w hs h=>?_
   rw [← List.take_succ_eq_append_getElem hix] at h
   refine qy (e':=((i+1:Nat):Int)) (by rw [qm (by omega) (by omega)]; rfl) ?_
   exact ⟨rfl,hin (i+1) _ _ _ ⟨rfl,by omega,h.sub⟩ (by omega)⟩
 · have:i=P.length:=by omega
   subst this
   rw [List.take_length] at h
   have h5:=h.rlen (s:=t) (f:=nmC) (L:=P)
   unfold qcc.j2
   exact hk t wL h5.symm h
end
end Go.Proofs.YtigmbblgfnkpbaaGreat
namespace Go.Proofs.YtigmbblgfnkpbaaGreat
open Go Go.Proofs
set_option linter.unusedVariables false
set_option linter.unusedSimpArgs false
attribute [local irreducible] apK cpK mkK br
section
variable {F0:List Nat} {w0 w:World} {ps rest:List As} {s:Sl} {A:List Nm} {K:Ending→World→Prop}
theorem ref_Fanout.c (h:St F0 w0 w ps) [Rdb F0 w0 s ps 20 (A.flatMap nmC)] (hL:A.length≤1000000) (hk:∀ t w',t.len=256→St F0 w0 w' (qjb 1 t (ivs .i64 (fanL A)) :: ps)→K (.returned (sV t)) w') :
 Calls Tryz.prog 68 ⟨[sV s]⟩ w K:=by
 have hl:=h.rlen (s:=s) (f:=nmC) (L:=A)
 refine qec (qdb.ok _ _ _ ?_)
 unfold qdb
 refine h.makeI (n:=256) (k:=.i64) rfl rfl (by decide) fun o w ho _ h=>?_
 rw [rep_mapR] at h
 unfold qdb.j1 qdb.j3
 refine qud (fun (i:Nat) (i':Int) w'=>i'=(i:Int)∧i≤A.length∧St F0 w0 w' (qjb 1 o (ivs .i64 (qlj 256 fun m=>(qxi (A.take i) m:Int))) :: ps)) (fun i=>A.length - i) 0 ⟨rfl,Nat.zero_le _,h⟩ ?_
 clear h
 rintro i _ wL I μ ⟨rfl,hi,h⟩ hin
 unfold qdb.b1
 refine qmc (fun g=>?_) (fun g=>?_)
 · have hix:i < A.length:=by omega
   unfold qdb.j4
   have hsn:∀ m:Nat,qxi (A.take (i+1)) m=qxi (A.take i) m+if hd0 A[i]≤(m:Int) then 1 else 0:=fun m=>by
    unfold qxi
    rw [List.take_succ_eq_append_getElem hix,List.countP_append,List.countP_singleton]
    simp
   have hle:∀ m,qxi (A.take i) m≤1000000:=fun m=>Nat.le_trans List.countP_le_length (by rw [List.length_take]; omega)
   refine h.rix (s:=s) (f:=nmC) (L:=A) i rfl hix fun a0 ha=>?_
   obtain ⟨b0,b1⟩:=hd0_b A[i]
   refine ⟨⟨by decide,by decide⟩,?_⟩
   have hv:(nmC A[i])[0]?=some (.int .u8 (hd0 A[i])):=qdl (by rw [A[i].2.1]; decide)
   refine (h.rdb s).rI (f:=nmC) (L:=A) (o:=0) ha hix (by decide) hv ?_
   generalize hd0 A[i]=m at hsn b0 b1
   obtain ⟨m,rfl⟩:∃ k:Nat,m=(k:Int):=⟨m.toNat,by omega⟩
   refine qy (qbe (n:=m) rfl (by omega)) ?_
   unfold qdb.j6
   have e0:(qlj 256 fun q=>(qxi (A.take i) q:Int))=qlj 256 fun q=>if m≤q∧q < m then (qxi (A.take (i+1)) q:Int) else (qxi (A.take i) q:Int):=qig fun q hq=>by
    rw [if_neg (by omega)]
   rw [e0] at h
   refine qud (fun (k:Nat) (k':Int) w'=>k'=(k:Int)∧m≤k∧k≤256∧St F0 w0 w' (qjb 1 o (ivs .i64 (qlj 256 fun q=>if m≤q∧q < k then (qxi (A.take (i+1)) q:Int) else (qxi (A.take i) q:Int))) :: ps)) (fun k=>256 - k) m ⟨rfl,Nat.le_refl _,by omega,h⟩ ?_
   clear h
   rintro k _ wL2 I2 μ2 ⟨rfl,hk0,hk1,h⟩ hnx
   unfold qdb.b2
   refine qmc (fun g2=>?_) (fun g2=>?_)
   · have hk2:k < 256:=by omega
     refine h.lx (s:=o) k rfl (by rw [qid]; exact hk2) ?_
     rw [qmf hk2,if_neg (by omega)]
     have h6:=hle k
     have h7:=hsn k
     rw [if_pos (by omega)] at h7
     refine qy (e':=(qxi (A.take (i+1)) k:Int)) (by rw [qm (by omega) (by omega)]; omega) ?_
     refine h.sx (s:=o) k rfl (by rw [qid]; exact hk2) fun w h=>?_
     rw [set_mapR] at h
     have e:(qlj 256 fun q=>if q=k then (qxi (A.take (i+1)) k:Int) else if m≤q∧q < k then (qxi (A.take (i+1)) q:Int) else (qxi (A.take i) q:Int))=qlj 256 fun q=>if m≤q∧q < k+1 then (qxi (A.take (i+1)) q:Int) else (qxi (A.take i) q:Int):=qig fun q hq=>by
      by_cases e:q=k
      · subst e; rw [if_pos rfl,if_pos (by omega)]
      · rw [if_neg e]
        by_cases e2:m≤q∧q < k
        · rw [if_pos e2,if_pos (by omega)]
        · rw [if_neg e2,if_neg (by omega)]
     rw [e] at h
     refine qy (e':=((k+1:Nat):Int)) (by rw [qm (by omega) (by omega)]; rfl) ?_
     exact ⟨⟨rfl,rfl,rfl⟩,hnx (k+1) _ _ ⟨rfl,by omega,by omega,h⟩ (by omega)⟩
   · have:k=256:=by omega
     subst this
     have e:(qlj 256 fun q=>if m≤q∧q < 256 then (qxi (A.take (i+1)) q:Int) else (qxi (A.take i) q:Int))=qlj 256 fun q=>(qxi (A.take (i+1)) q:Int):=qig fun q hq=>by
      by_cases e2:m≤q
      · rw [if_pos ⟨e2,hq⟩]
      · rw [if_neg (by omega),hsn q,if_neg (by omega)]
        rfl
     rw [e] at h
     unfold qdb.j5
     refine qy (e':=((i+1:Nat):Int)) (by rw [qm (by omega) (by omega)]; rfl) ?_
     exact ⟨⟨rfl,rfl⟩,hin (i+1) _ _ ⟨rfl,by omega,h⟩ (by omega)⟩
 · have:i=A.length:=by omega
   subst this
   rw [List.take_length] at h
   unfold qdb.j2
   exact hk o wL ho h
end
end Go.Proofs.YtigmbblgfnkpbaaGreat
namespace Go.Proofs.YtigmbblgfnkpbaaGreat
open Go Go.Proofs
set_option linter.unusedVariables false
set_option linter.unusedSimpArgs false
attribute [local irreducible] apK cpK mkK br
section
variable {F0:List Nat} {w0 w:World} {ps rest:List As} {s t:Sl} {P:List Nm} {K:Ending→World→Prop}
theorem law_Same.c (h:St F0 w0 w ps) [Rdb F0 w0 s ps 20 (P.flatMap nmC)] [Rdb F0 w0 t ps 20 (P.flatMap nmC)] (hL:P.length≤1000000) (hk:∀ w',St F0 w0 w' ps→K (.returned (.bool true)) w') :
 Calls Tryz.prog 54 ⟨[sV s,sV t]⟩ w K:=by
 have hl:=h.rlen (s:=s) (f:=nmC) (L:=P)
 have hl2:=h.rlen (s:=t) (f:=nmC) (L:=P)
 refine qec (qsb.ok _ _ _ _ ?_)
 unfold qsb
 refine qnc (fun g=>?_) (fun _=>?_)
 · exfalso
   have e:s.len=t.len:=hl.symm.trans hl2
   rw [e] at g
   simp at g
 unfold qsb.j1 qsb.j3
 refine qud (fun (i:Nat) (i':Int) w'=>i'=(i:Int)∧i≤P.length∧St F0 w0 w' ps) (fun i=>P.length - i) 0 ⟨rfl,Nat.zero_le _,h⟩ ?_
 clear h
 rintro i _ wL I μ ⟨rfl,hi,h⟩ hin
 unfold qsb.b1
 refine qmc (fun g=>?_) (fun g=>?_)
 · have hix:i < P.length:=by omega
   refine h.drewK fun w h=>?_
   refine h.lr (s:=s) (L:=P) i rfl hix ?_
   refine h.lr (s:=t) (L:=P) i rfl hix ?_
   refine eqA_s (xs:=P[i].1) P[i].2.1 ?_
   refine qnc (fun g2=>by cases g2) (fun _=>?_)
   refine qy (e':=((i+1:Nat):Int)) (by rw [qm (by omega) (by omega)]; rfl) ?_
   exact ⟨⟨rfl,rfl⟩,hin (i+1) _ _ ⟨rfl,by omega,h⟩ (by omega)⟩
 · unfold qsb.j2
   exact hk wL h
end
end Go.Proofs.YtigmbblgfnkpbaaGreat
namespace Go.Proofs.YtigmbblgfnkpbaaGreat
open Go Go.Proofs
set_option linter.unusedVariables false
set_option linter.unusedSimpArgs false
attribute [local irreducible] apK cpK mkK br
theorem qck:zc Tryz.prog 52=⟨ndC ndZ⟩:=by kernel_rfl
theorem build_nd (n:Nd) (t:Sl):List.set (List.set (spl (spl (ndC ndZ) 0 ⟨ivs .u8 n.id⟩) 20 ⟨ivs .u8 n.qaf⟩) 40 (.slice t.a t.len t.cap)) 41 (.int .i64 n.date)=ndC (n.setP t):=by
 have h1:spl (ndC ndZ) 0 ⟨ivs .u8 n.id⟩=ivs .u8 n.id ++ (ndC ndZ).drop 20:=by
  rw [qom _ _ _ (by rw [qw,n.hid,qob]; decide),List.take_zero,List.nil_append,qw,n.hid]
 have hd:(ndC ndZ).drop 20=ivs .u8 z20 ++ [.slice none 0 0,.int .i64 0]:=by rfl
 have h2:spl (ivs .u8 n.id ++ (ndC ndZ).drop 20) 20 ⟨ivs .u8 n.qaf⟩=ivs .u8 n.id ++ (ivs .u8 n.qaf ++ [.slice none 0 0,.int .i64 0]):=by
  rw [hd,qom _ _ _ (by simp [n.hid,n.htr,z20])]
  rw [List.take_left' (by rw [qw,n.hid]),qw,n.htr]
  rw [List.drop_append,qw,n.hid,List.drop_eq_nil_of_le (by rw [qw,n.hid]; decide),List.nil_append,List.append_assoc]
  rfl
 have s40:∀ x y v:Value,(ivs .u8 n.id ++ (ivs .u8 n.qaf ++ [x,y])).set 40 v=ivs .u8 n.id ++ (ivs .u8 n.qaf ++ [v,y]):=fun x y v=>by
  rw [List.set_append_right _ _ (by rw [qw,n.hid]; decide),qw,n.hid,List.set_append_right _ _ (by rw [qw,n.htr]; decide),qw,n.htr]
  rfl
 have s41:∀ x y v:Value,(ivs .u8 n.id ++ (ivs .u8 n.qaf ++ [x,y])).set 41 v=ivs .u8 n.id ++ (ivs .u8 n.qaf ++ [x,v]):=fun x y v=>by
  rw [List.set_append_right _ _ (by rw [qw,n.hid]; decide),qw,n.hid,List.set_append_right _ _ (by rw [qw,n.htr]; decide),qw,n.htr]
  rfl
 rw [h1,h2,s40,s41]
 rfl
end Go.Proofs.YtigmbblgfnkpbaaGreat
namespace Go.Proofs.YtigmbblgfnkpbaaGreat
open Go Go.Proofs
set_option linter.unusedVariables false
set_option maxRecDepth 100000
def qpd  (Q:VWP) (w:World):Prop :=
 nw w (zc Tryz.prog 49) 49 fun a1 w2 =>
 ((⟨(List.set (zc Tryz.prog 49).toList 41 (.int .i64 5))⟩:Array Value)).size=42 ∧
 stA w2 a1 (⟨(List.set (zc Tryz.prog 49).toList 41 (.int .i64 5))⟩:Array Value) fun w3 =>
 ((⟨[.int .u8 0,.int .u8 0,.int .u8 0,.int .u8 0,.int .u8 0,.int .u8 0,.int .u8 0,.int .u8 0,.int .u8 0,.int .u8 0,.int .u8 0,.int .u8 0,.int .u8 0,.int .u8 0,.int .u8 0,.int .u8 0,.int .u8 0,.int .u8 0,.int .u8 0,.int .u8 0]⟩:Array Value)).size=20 ∧
 nw w3 ⟨(spl [.int .u8 0,.int .u8 0,.int .u8 0,.int .u8 0,.int .u8 0,.int .u8 0,.int .u8 0,.int .u8 0,.int .u8 0,.int .u8 0,.int .u8 0,.int .u8 0,.int .u8 0,.int .u8 0,.int .u8 0,.int .u8 0,.int .u8 0,.int .u8 0,.int .u8 0,.int .u8 0] 0 (⟨[.int .u8 0,.int .u8 0,.int .u8 0,.int .u8 0,.int .u8 0,.int .u8 0,.int .u8 0,.int .u8 0,.int .u8 0,.int .u8 0,.int .u8 0,.int .u8 0,.int .u8 0,.int .u8 0,.int .u8 0,.int .u8 0,.int .u8 0,.int .u8 0,.int .u8 0,.int .u8 0]⟩:Array Value))⟩ 24 fun a4 w5 =>
 nw w5 (zc Tryz.prog 49) 49 fun a6 w7 =>
 ((⟨(List.set (List.set (zc Tryz.prog 49).toList 40 (.slice (some a4) 1 1)) 41 (.int .i64 9))⟩:Array Value)).size=42 ∧
 stA w7 a6 (⟨(List.set (List.set (zc Tryz.prog 49).toList 40 (.slice (some a4) 1 1)) 41 (.int .i64 9))⟩:Array Value) fun w8 =>
 ixA (Addr.add a6 0) 20 0 1 fun a9 =>
 st w8 a9 (.int .u8 1) fun w10 =>
 ldA w10 a6 42 fun c11 =>
 ldA w10 a1 42 fun c12 =>
 (c11).size=42 ∧
 (c12).size=42 ∧
 nw w10 ⟨(spl (spl (qke 2 (zc Tryz.prog 49).toList) 0 c11) 42 c12)⟩ 49 fun a13 w14 =>
 qzl 8 [.slice (some a13) 2 2] w14 fun r17 r18 w16 =>
 ct_PI 11 [sV r17] w16 fun r21 r22 w20 =>
 lt (IntKind.i64.wrap (r18+r22)) fun x23 =>
 br (x23 != 0) (
 Q (.bool false) w20) (
 br (Option.isNone r21) (
 Q (.bool false) w20) (
 ldA w20 (Addr.add a6 0) 20 fun c24 =>
 ct_IB 19 [.pointer r21,.agg c24] w20 fun r27 r28 w26 =>
 ct_GB 20 [.pointer r21,.int .i64 r27] w26 fun r31 r32 w30 =>
 nw w30 (zc Tryz.prog 49) 49 fun a33 w34 =>
 (r31).size=42 ∧
 stA w34 a33 r31 fun w35 =>
 qtc 21 [.pointer r21,.int .i64 r27] w35 fun r38 w37 =>
 br r28 (
 br r32 (
 br (r27 == 1) (
 qnf 22 [.pointer r21,.int .i64 r27] w37 fun r41 w40 =>
 br (r41 == 2) (
 ldI .i64 w40 (Addr.add a33 41) fun x42 =>
 br (x42 == 9) (
 br ((r38.len:Int) == 1) (
 ixS r38.a r38.len 0 1 fun a43 =>
 ldI .i64 w40 a43 fun x44 =>
 br (x44 == 0) (
 qnf 23 [.pointer r21] w40 fun r47 w46 =>
 br (r47 == 2) (
 ldA w46 a6 42 fun c48 =>
 (c48).size=42 ∧
 nw w46 ⟨(spl (qke 1 (zc Tryz.prog 49).toList) 0 c48)⟩ 49 fun a49 w50 =>
 qtc 14 [.slice (some a49) 1 1] w50 fun r53 w52 =>
 Q (.bool ((r53.len:Int) == 0)) w52) (
 Q (.bool false) w46)) (
 Q (.bool false) w40)) (
 Q (.bool false) w40)) (
 Q (.bool false) w40)) (
 Q (.bool false) w40)) (
 Q (.bool false) w37)) (
 Q (.bool false) w37)) (
 Q (.bool false) w37)))
theorem qpd.ok  (Q:VWP) (w:World) (h:qpd  Q w):Calls Tryz.prog 6 ⟨[]⟩ w (Ret Q) :=
 qgc [.tmp 0] qjd Tryz.func6 rfl rfl rfl rfl .lf (by kernel_rfl) h
def qvb.j2 (out_3:Sl) (Q:VWP) (w:World):Prop :=
 Q (sV out_3) w
def qvb.b1 (l_0 out_3:Sl) (i_4:Int) (Q:VWP) (nx1:Sl→Sl→Int→WP) (w:World):Prop :=
 br (decide (i_4 < (l_0.len:Int))) (
 lt (World.drew w) fun w1 =>
 ixS l_0.a l_0.len i_4 42 fun a2 =>
 ixS l_0.a l_0.len i_4 42 fun a3 =>
 ixS l_0.a l_0.len i_4 42 fun a4 =>
 ldL w1 (Addr.add a4 40) fun x5 =>
 ixS l_0.a l_0.len i_4 42 fun a6 =>
 (ldA w1 (Addr.add a2 0) 20 fun c7 =>
 (ldA w1 (Addr.add a3 20) 20 fun c8 =>
 (qtc 36 [sV x5] w1 fun r11 w10 =>
 ldI .i64 w10 (Addr.add a6 41) fun x12 =>
 (c7).size=20 ∧
 (c8).size=20 ∧
 ((⟨(List.set (List.set (spl (spl (zc Tryz.prog 52).toList 0 c7) 20 c8) 40 (sV r11)) 41 (.int .i64 x12))⟩:Array Value)).size=42 ∧
 nw w10 ⟨(spl (qke 1 (zc Tryz.prog 52).toList) 0 (⟨(List.set (List.set (spl (spl (zc Tryz.prog 52).toList 0 c7) 20 c8) 40 (sV r11)) 41 (.int .i64 x12))⟩:Array Value))⟩ 52 fun a13 w14 =>
 rdO w14 (some a13) (1 * 42) fun c15 =>
 apK Tryz.prog 52 w14 out_3.a out_3.len out_3.cap 1 c15 fun s16 w17 =>
 lt (IntKind.i64.wrap (i_4+1)) fun x18 =>
 nx1 l_0 s16 x18 w17)∧(
 ldI .i64 w1 (Addr.add a6 41) fun x19 =>
 qtc 36 [sV x5] w1 fun r22 w21 =>
 (c7).size=20 ∧
 (c8).size=20 ∧
 ((⟨(List.set (List.set (spl (spl (zc Tryz.prog 52).toList 0 c7) 20 c8) 40 (sV r22)) 41 (.int .i64 x19))⟩:Array Value)).size=42 ∧
 nw w21 ⟨(spl (qke 1 (zc Tryz.prog 52).toList) 0 (⟨(List.set (List.set (spl (spl (zc Tryz.prog 52).toList 0 c7) 20 c8) 40 (sV r22)) 41 (.int .i64 x19))⟩:Array Value))⟩ 52 fun a23 w24 =>
 rdO w24 (some a23) (1 * 42) fun c25 =>
 apK Tryz.prog 52 w24 out_3.a out_3.len out_3.cap 1 c25 fun s26 w27 =>
 lt (IntKind.i64.wrap (i_4+1)) fun x28 =>
 nx1 l_0 s26 x28 w27))∧(
 qtc 36 [sV x5] w1 fun r31 w30 =>
 (ldA w30 (Addr.add a3 20) 20 fun c32 =>
 ldI .i64 w30 (Addr.add a6 41) fun x33 =>
 (c7).size=20 ∧
 (c32).size=20 ∧
 ((⟨(List.set (List.set (spl (spl (zc Tryz.prog 52).toList 0 c7) 20 c32) 40 (sV r31)) 41 (.int .i64 x33))⟩:Array Value)).size=42 ∧
 nw w30 ⟨(spl (qke 1 (zc Tryz.prog 52).toList) 0 (⟨(List.set (List.set (spl (spl (zc Tryz.prog 52).toList 0 c7) 20 c32) 40 (sV r31)) 41 (.int .i64 x33))⟩:Array Value))⟩ 52 fun a34 w35 =>
 rdO w35 (some a34) (1 * 42) fun c36 =>
 apK Tryz.prog 52 w35 out_3.a out_3.len out_3.cap 1 c36 fun s37 w38 =>
 lt (IntKind.i64.wrap (i_4+1)) fun x39 =>
 nx1 l_0 s37 x39 w38)∧(
 ldI .i64 w30 (Addr.add a6 41) fun x40 =>
 ldA w30 (Addr.add a3 20) 20 fun c41 =>
 (c7).size=20 ∧
 (c41).size=20 ∧
 ((⟨(List.set (List.set (spl (spl (zc Tryz.prog 52).toList 0 c7) 20 c41) 40 (sV r31)) 41 (.int .i64 x40))⟩:Array Value)).size=42 ∧
 nw w30 ⟨(spl (qke 1 (zc Tryz.prog 52).toList) 0 (⟨(List.set (List.set (spl (spl (zc Tryz.prog 52).toList 0 c7) 20 c41) 40 (sV r31)) 41 (.int .i64 x40))⟩:Array Value))⟩ 52 fun a42 w43 =>
 rdO w43 (some a42) (1 * 42) fun c44 =>
 apK Tryz.prog 52 w43 out_3.a out_3.len out_3.cap 1 c44 fun s45 w46 =>
 lt (IntKind.i64.wrap (i_4+1)) fun x47 =>
 nx1 l_0 s45 x47 w46))∧(
 ldI .i64 w1 (Addr.add a6 41) fun x48 =>
 (ldA w1 (Addr.add a3 20) 20 fun c49 =>
 qtc 36 [sV x5] w1 fun r52 w51 =>
 (c7).size=20 ∧
 (c49).size=20 ∧
 ((⟨(List.set (List.set (spl (spl (zc Tryz.prog 52).toList 0 c7) 20 c49) 40 (sV r52)) 41 (.int .i64 x48))⟩:Array Value)).size=42 ∧
 nw w51 ⟨(spl (qke 1 (zc Tryz.prog 52).toList) 0 (⟨(List.set (List.set (spl (spl (zc Tryz.prog 52).toList 0 c7) 20 c49) 40 (sV r52)) 41 (.int .i64 x48))⟩:Array Value))⟩ 52 fun a53 w54 =>
 rdO w54 (some a53) (1 * 42) fun c55 =>
 apK Tryz.prog 52 w54 out_3.a out_3.len out_3.cap 1 c55 fun s56 w57 =>
 lt (IntKind.i64.wrap (i_4+1)) fun x58 =>
 nx1 l_0 s56 x58 w57)∧(
 qtc 36 [sV x5] w1 fun r61 w60 =>
 ldA w60 (Addr.add a3 20) 20 fun c62 =>
 (c7).size=20 ∧
 (c62).size=20 ∧
 ((⟨(List.set (List.set (spl (spl (zc Tryz.prog 52).toList 0 c7) 20 c62) 40 (sV r61)) 41 (.int .i64 x48))⟩:Array Value)).size=42 ∧
 nw w60 ⟨(spl (qke 1 (zc Tryz.prog 52).toList) 0 (⟨(List.set (List.set (spl (spl (zc Tryz.prog 52).toList 0 c7) 20 c62) 40 (sV r61)) 41 (.int .i64 x48))⟩:Array Value))⟩ 52 fun a63 w64 =>
 rdO w64 (some a63) (1 * 42) fun c65 =>
 apK Tryz.prog 52 w64 out_3.a out_3.len out_3.cap 1 c65 fun s66 w67 =>
 lt (IntKind.i64.wrap (i_4+1)) fun x68 =>
 nx1 l_0 s66 x68 w67)))∧(
 ldA w1 (Addr.add a3 20) 20 fun c69 =>
 (ldA w1 (Addr.add a2 0) 20 fun c70 =>
 (qtc 36 [sV x5] w1 fun r73 w72 =>
 ldI .i64 w72 (Addr.add a6 41) fun x74 =>
 (c70).size=20 ∧
 (c69).size=20 ∧
 ((⟨(List.set (List.set (spl (spl (zc Tryz.prog 52).toList 0 c70) 20 c69) 40 (sV r73)) 41 (.int .i64 x74))⟩:Array Value)).size=42 ∧
 nw w72 ⟨(spl (qke 1 (zc Tryz.prog 52).toList) 0 (⟨(List.set (List.set (spl (spl (zc Tryz.prog 52).toList 0 c70) 20 c69) 40 (sV r73)) 41 (.int .i64 x74))⟩:Array Value))⟩ 52 fun a75 w76 =>
 rdO w76 (some a75) (1 * 42) fun c77 =>
 apK Tryz.prog 52 w76 out_3.a out_3.len out_3.cap 1 c77 fun s78 w79 =>
 lt (IntKind.i64.wrap (i_4+1)) fun x80 =>
 nx1 l_0 s78 x80 w79)∧(
 ldI .i64 w1 (Addr.add a6 41) fun x81 =>
 qtc 36 [sV x5] w1 fun r84 w83 =>
 (c70).size=20 ∧
 (c69).size=20 ∧
 ((⟨(List.set (List.set (spl (spl (zc Tryz.prog 52).toList 0 c70) 20 c69) 40 (sV r84)) 41 (.int .i64 x81))⟩:Array Value)).size=42 ∧
 nw w83 ⟨(spl (qke 1 (zc Tryz.prog 52).toList) 0 (⟨(List.set (List.set (spl (spl (zc Tryz.prog 52).toList 0 c70) 20 c69) 40 (sV r84)) 41 (.int .i64 x81))⟩:Array Value))⟩ 52 fun a85 w86 =>
 rdO w86 (some a85) (1 * 42) fun c87 =>
 apK Tryz.prog 52 w86 out_3.a out_3.len out_3.cap 1 c87 fun s88 w89 =>
 lt (IntKind.i64.wrap (i_4+1)) fun x90 =>
 nx1 l_0 s88 x90 w89))∧(
 qtc 36 [sV x5] w1 fun r93 w92 =>
 (ldA w92 (Addr.add a2 0) 20 fun c94 =>
 ldI .i64 w92 (Addr.add a6 41) fun x95 =>
 (c94).size=20 ∧
 (c69).size=20 ∧
 ((⟨(List.set (List.set (spl (spl (zc Tryz.prog 52).toList 0 c94) 20 c69) 40 (sV r93)) 41 (.int .i64 x95))⟩:Array Value)).size=42 ∧
 nw w92 ⟨(spl (qke 1 (zc Tryz.prog 52).toList) 0 (⟨(List.set (List.set (spl (spl (zc Tryz.prog 52).toList 0 c94) 20 c69) 40 (sV r93)) 41 (.int .i64 x95))⟩:Array Value))⟩ 52 fun a96 w97 =>
 rdO w97 (some a96) (1 * 42) fun c98 =>
 apK Tryz.prog 52 w97 out_3.a out_3.len out_3.cap 1 c98 fun s99 w100 =>
 lt (IntKind.i64.wrap (i_4+1)) fun x101 =>
 nx1 l_0 s99 x101 w100)∧(
 ldI .i64 w92 (Addr.add a6 41) fun x102 =>
 ldA w92 (Addr.add a2 0) 20 fun c103 =>
 (c103).size=20 ∧
 (c69).size=20 ∧
 ((⟨(List.set (List.set (spl (spl (zc Tryz.prog 52).toList 0 c103) 20 c69) 40 (sV r93)) 41 (.int .i64 x102))⟩:Array Value)).size=42 ∧
 nw w92 ⟨(spl (qke 1 (zc Tryz.prog 52).toList) 0 (⟨(List.set (List.set (spl (spl (zc Tryz.prog 52).toList 0 c103) 20 c69) 40 (sV r93)) 41 (.int .i64 x102))⟩:Array Value))⟩ 52 fun a104 w105 =>
 rdO w105 (some a104) (1 * 42) fun c106 =>
 apK Tryz.prog 52 w105 out_3.a out_3.len out_3.cap 1 c106 fun s107 w108 =>
 lt (IntKind.i64.wrap (i_4+1)) fun x109 =>
 nx1 l_0 s107 x109 w108))∧(
 ldI .i64 w1 (Addr.add a6 41) fun x110 =>
 (ldA w1 (Addr.add a2 0) 20 fun c111 =>
 qtc 36 [sV x5] w1 fun r114 w113 =>
 (c111).size=20 ∧
 (c69).size=20 ∧
 ((⟨(List.set (List.set (spl (spl (zc Tryz.prog 52).toList 0 c111) 20 c69) 40 (sV r114)) 41 (.int .i64 x110))⟩:Array Value)).size=42 ∧
 nw w113 ⟨(spl (qke 1 (zc Tryz.prog 52).toList) 0 (⟨(List.set (List.set (spl (spl (zc Tryz.prog 52).toList 0 c111) 20 c69) 40 (sV r114)) 41 (.int .i64 x110))⟩:Array Value))⟩ 52 fun a115 w116 =>
 rdO w116 (some a115) (1 * 42) fun c117 =>
 apK Tryz.prog 52 w116 out_3.a out_3.len out_3.cap 1 c117 fun s118 w119 =>
 lt (IntKind.i64.wrap (i_4+1)) fun x120 =>
 nx1 l_0 s118 x120 w119)∧(
 qtc 36 [sV x5] w1 fun r123 w122 =>
 ldA w122 (Addr.add a2 0) 20 fun c124 =>
 (c124).size=20 ∧
 (c69).size=20 ∧
 ((⟨(List.set (List.set (spl (spl (zc Tryz.prog 52).toList 0 c124) 20 c69) 40 (sV r123)) 41 (.int .i64 x110))⟩:Array Value)).size=42 ∧
 nw w122 ⟨(spl (qke 1 (zc Tryz.prog 52).toList) 0 (⟨(List.set (List.set (spl (spl (zc Tryz.prog 52).toList 0 c124) 20 c69) 40 (sV r123)) 41 (.int .i64 x110))⟩:Array Value))⟩ 52 fun a125 w126 =>
 rdO w126 (some a125) (1 * 42) fun c127 =>
 apK Tryz.prog 52 w126 out_3.a out_3.len out_3.cap 1 c127 fun s128 w129 =>
 lt (IntKind.i64.wrap (i_4+1)) fun x130 =>
 nx1 l_0 s128 x130 w129)))∧(
 qtc 36 [sV x5] w1 fun r133 w132 =>
 (ldA w132 (Addr.add a2 0) 20 fun c134 =>
 (ldA w132 (Addr.add a3 20) 20 fun c135 =>
 ldI .i64 w132 (Addr.add a6 41) fun x136 =>
 (c134).size=20 ∧
 (c135).size=20 ∧
 ((⟨(List.set (List.set (spl (spl (zc Tryz.prog 52).toList 0 c134) 20 c135) 40 (sV r133)) 41 (.int .i64 x136))⟩:Array Value)).size=42 ∧
 nw w132 ⟨(spl (qke 1 (zc Tryz.prog 52).toList) 0 (⟨(List.set (List.set (spl (spl (zc Tryz.prog 52).toList 0 c134) 20 c135) 40 (sV r133)) 41 (.int .i64 x136))⟩:Array Value))⟩ 52 fun a137 w138 =>
 rdO w138 (some a137) (1 * 42) fun c139 =>
 apK Tryz.prog 52 w138 out_3.a out_3.len out_3.cap 1 c139 fun s140 w141 =>
 lt (IntKind.i64.wrap (i_4+1)) fun x142 =>
 nx1 l_0 s140 x142 w141)∧(
 ldI .i64 w132 (Addr.add a6 41) fun x143 =>
 ldA w132 (Addr.add a3 20) 20 fun c144 =>
 (c134).size=20 ∧
 (c144).size=20 ∧
 ((⟨(List.set (List.set (spl (spl (zc Tryz.prog 52).toList 0 c134) 20 c144) 40 (sV r133)) 41 (.int .i64 x143))⟩:Array Value)).size=42 ∧
 nw w132 ⟨(spl (qke 1 (zc Tryz.prog 52).toList) 0 (⟨(List.set (List.set (spl (spl (zc Tryz.prog 52).toList 0 c134) 20 c144) 40 (sV r133)) 41 (.int .i64 x143))⟩:Array Value))⟩ 52 fun a145 w146 =>
 rdO w146 (some a145) (1 * 42) fun c147 =>
 apK Tryz.prog 52 w146 out_3.a out_3.len out_3.cap 1 c147 fun s148 w149 =>
 lt (IntKind.i64.wrap (i_4+1)) fun x150 =>
 nx1 l_0 s148 x150 w149))∧(
 ldA w132 (Addr.add a3 20) 20 fun c151 =>
 (ldA w132 (Addr.add a2 0) 20 fun c152 =>
 ldI .i64 w132 (Addr.add a6 41) fun x153 =>
 (c152).size=20 ∧
 (c151).size=20 ∧
 ((⟨(List.set (List.set (spl (spl (zc Tryz.prog 52).toList 0 c152) 20 c151) 40 (sV r133)) 41 (.int .i64 x153))⟩:Array Value)).size=42 ∧
 nw w132 ⟨(spl (qke 1 (zc Tryz.prog 52).toList) 0 (⟨(List.set (List.set (spl (spl (zc Tryz.prog 52).toList 0 c152) 20 c151) 40 (sV r133)) 41 (.int .i64 x153))⟩:Array Value))⟩ 52 fun a154 w155 =>
 rdO w155 (some a154) (1 * 42) fun c156 =>
 apK Tryz.prog 52 w155 out_3.a out_3.len out_3.cap 1 c156 fun s157 w158 =>
 lt (IntKind.i64.wrap (i_4+1)) fun x159 =>
 nx1 l_0 s157 x159 w158)∧(
 ldI .i64 w132 (Addr.add a6 41) fun x160 =>
 ldA w132 (Addr.add a2 0) 20 fun c161 =>
 (c161).size=20 ∧
 (c151).size=20 ∧
 ((⟨(List.set (List.set (spl (spl (zc Tryz.prog 52).toList 0 c161) 20 c151) 40 (sV r133)) 41 (.int .i64 x160))⟩:Array Value)).size=42 ∧
 nw w132 ⟨(spl (qke 1 (zc Tryz.prog 52).toList) 0 (⟨(List.set (List.set (spl (spl (zc Tryz.prog 52).toList 0 c161) 20 c151) 40 (sV r133)) 41 (.int .i64 x160))⟩:Array Value))⟩ 52 fun a162 w163 =>
 rdO w163 (some a162) (1 * 42) fun c164 =>
 apK Tryz.prog 52 w163 out_3.a out_3.len out_3.cap 1 c164 fun s165 w166 =>
 lt (IntKind.i64.wrap (i_4+1)) fun x167 =>
 nx1 l_0 s165 x167 w166))∧(
 ldI .i64 w132 (Addr.add a6 41) fun x168 =>
 (ldA w132 (Addr.add a2 0) 20 fun c169 =>
 ldA w132 (Addr.add a3 20) 20 fun c170 =>
 (c169).size=20 ∧
 (c170).size=20 ∧
 ((⟨(List.set (List.set (spl (spl (zc Tryz.prog 52).toList 0 c169) 20 c170) 40 (sV r133)) 41 (.int .i64 x168))⟩:Array Value)).size=42 ∧
 nw w132 ⟨(spl (qke 1 (zc Tryz.prog 52).toList) 0 (⟨(List.set (List.set (spl (spl (zc Tryz.prog 52).toList 0 c169) 20 c170) 40 (sV r133)) 41 (.int .i64 x168))⟩:Array Value))⟩ 52 fun a171 w172 =>
 rdO w172 (some a171) (1 * 42) fun c173 =>
 apK Tryz.prog 52 w172 out_3.a out_3.len out_3.cap 1 c173 fun s174 w175 =>
 lt (IntKind.i64.wrap (i_4+1)) fun x176 =>
 nx1 l_0 s174 x176 w175)∧(
 ldA w132 (Addr.add a3 20) 20 fun c177 =>
 ldA w132 (Addr.add a2 0) 20 fun c178 =>
 (c178).size=20 ∧
 (c177).size=20 ∧
 ((⟨(List.set (List.set (spl (spl (zc Tryz.prog 52).toList 0 c178) 20 c177) 40 (sV r133)) 41 (.int .i64 x168))⟩:Array Value)).size=42 ∧
 nw w132 ⟨(spl (qke 1 (zc Tryz.prog 52).toList) 0 (⟨(List.set (List.set (spl (spl (zc Tryz.prog 52).toList 0 c178) 20 c177) 40 (sV r133)) 41 (.int .i64 x168))⟩:Array Value))⟩ 52 fun a179 w180 =>
 rdO w180 (some a179) (1 * 42) fun c181 =>
 apK Tryz.prog 52 w180 out_3.a out_3.len out_3.cap 1 c181 fun s182 w183 =>
 lt (IntKind.i64.wrap (i_4+1)) fun x184 =>
 nx1 l_0 s182 x184 w183)))∧(
 ldI .i64 w1 (Addr.add a6 41) fun x185 =>
 (ldA w1 (Addr.add a2 0) 20 fun c186 =>
 (ldA w1 (Addr.add a3 20) 20 fun c187 =>
 qtc 36 [sV x5] w1 fun r190 w189 =>
 (c186).size=20 ∧
 (c187).size=20 ∧
 ((⟨(List.set (List.set (spl (spl (zc Tryz.prog 52).toList 0 c186) 20 c187) 40 (sV r190)) 41 (.int .i64 x185))⟩:Array Value)).size=42 ∧
 nw w189 ⟨(spl (qke 1 (zc Tryz.prog 52).toList) 0 (⟨(List.set (List.set (spl (spl (zc Tryz.prog 52).toList 0 c186) 20 c187) 40 (sV r190)) 41 (.int .i64 x185))⟩:Array Value))⟩ 52 fun a191 w192 =>
 rdO w192 (some a191) (1 * 42) fun c193 =>
 apK Tryz.prog 52 w192 out_3.a out_3.len out_3.cap 1 c193 fun s194 w195 =>
 lt (IntKind.i64.wrap (i_4+1)) fun x196 =>
 nx1 l_0 s194 x196 w195)∧(
 qtc 36 [sV x5] w1 fun r199 w198 =>
 ldA w198 (Addr.add a3 20) 20 fun c200 =>
 (c186).size=20 ∧
 (c200).size=20 ∧
 ((⟨(List.set (List.set (spl (spl (zc Tryz.prog 52).toList 0 c186) 20 c200) 40 (sV r199)) 41 (.int .i64 x185))⟩:Array Value)).size=42 ∧
 nw w198 ⟨(spl (qke 1 (zc Tryz.prog 52).toList) 0 (⟨(List.set (List.set (spl (spl (zc Tryz.prog 52).toList 0 c186) 20 c200) 40 (sV r199)) 41 (.int .i64 x185))⟩:Array Value))⟩ 52 fun a201 w202 =>
 rdO w202 (some a201) (1 * 42) fun c203 =>
 apK Tryz.prog 52 w202 out_3.a out_3.len out_3.cap 1 c203 fun s204 w205 =>
 lt (IntKind.i64.wrap (i_4+1)) fun x206 =>
 nx1 l_0 s204 x206 w205))∧(
 ldA w1 (Addr.add a3 20) 20 fun c207 =>
 (ldA w1 (Addr.add a2 0) 20 fun c208 =>
 qtc 36 [sV x5] w1 fun r211 w210 =>
 (c208).size=20 ∧
 (c207).size=20 ∧
 ((⟨(List.set (List.set (spl (spl (zc Tryz.prog 52).toList 0 c208) 20 c207) 40 (sV r211)) 41 (.int .i64 x185))⟩:Array Value)).size=42 ∧
 nw w210 ⟨(spl (qke 1 (zc Tryz.prog 52).toList) 0 (⟨(List.set (List.set (spl (spl (zc Tryz.prog 52).toList 0 c208) 20 c207) 40 (sV r211)) 41 (.int .i64 x185))⟩:Array Value))⟩ 52 fun a212 w213 =>
 rdO w213 (some a212) (1 * 42) fun c214 =>
 apK Tryz.prog 52 w213 out_3.a out_3.len out_3.cap 1 c214 fun s215 w216 =>
 lt (IntKind.i64.wrap (i_4+1)) fun x217 =>
 nx1 l_0 s215 x217 w216)∧(
 qtc 36 [sV x5] w1 fun r220 w219 =>
 ldA w219 (Addr.add a2 0) 20 fun c221 =>
 (c221).size=20 ∧
 (c207).size=20 ∧
 ((⟨(List.set (List.set (spl (spl (zc Tryz.prog 52).toList 0 c221) 20 c207) 40 (sV r220)) 41 (.int .i64 x185))⟩:Array Value)).size=42 ∧
 nw w219 ⟨(spl (qke 1 (zc Tryz.prog 52).toList) 0 (⟨(List.set (List.set (spl (spl (zc Tryz.prog 52).toList 0 c221) 20 c207) 40 (sV r220)) 41 (.int .i64 x185))⟩:Array Value))⟩ 52 fun a222 w223 =>
 rdO w223 (some a222) (1 * 42) fun c224 =>
 apK Tryz.prog 52 w223 out_3.a out_3.len out_3.cap 1 c224 fun s225 w226 =>
 lt (IntKind.i64.wrap (i_4+1)) fun x227 =>
 nx1 l_0 s225 x227 w226))∧(
 qtc 36 [sV x5] w1 fun r230 w229 =>
 (ldA w229 (Addr.add a2 0) 20 fun c231 =>
 ldA w229 (Addr.add a3 20) 20 fun c232 =>
 (c231).size=20 ∧
 (c232).size=20 ∧
 ((⟨(List.set (List.set (spl (spl (zc Tryz.prog 52).toList 0 c231) 20 c232) 40 (sV r230)) 41 (.int .i64 x185))⟩:Array Value)).size=42 ∧
 nw w229 ⟨(spl (qke 1 (zc Tryz.prog 52).toList) 0 (⟨(List.set (List.set (spl (spl (zc Tryz.prog 52).toList 0 c231) 20 c232) 40 (sV r230)) 41 (.int .i64 x185))⟩:Array Value))⟩ 52 fun a233 w234 =>
 rdO w234 (some a233) (1 * 42) fun c235 =>
 apK Tryz.prog 52 w234 out_3.a out_3.len out_3.cap 1 c235 fun s236 w237 =>
 lt (IntKind.i64.wrap (i_4+1)) fun x238 =>
 nx1 l_0 s236 x238 w237)∧(
 ldA w229 (Addr.add a3 20) 20 fun c239 =>
 ldA w229 (Addr.add a2 0) 20 fun c240 =>
 (c240).size=20 ∧
 (c239).size=20 ∧
 ((⟨(List.set (List.set (spl (spl (zc Tryz.prog 52).toList 0 c240) 20 c239) 40 (sV r230)) 41 (.int .i64 x185))⟩:Array Value)).size=42 ∧
 nw w229 ⟨(spl (qke 1 (zc Tryz.prog 52).toList) 0 (⟨(List.set (List.set (spl (spl (zc Tryz.prog 52).toList 0 c240) 20 c239) 40 (sV r230)) 41 (.int .i64 x185))⟩:Array Value))⟩ 52 fun a241 w242 =>
 rdO w242 (some a241) (1 * 42) fun c243 =>
 apK Tryz.prog 52 w242 out_3.a out_3.len out_3.cap 1 c243 fun s244 w245 =>
 lt (IntKind.i64.wrap (i_4+1)) fun x246 =>
 nx1 l_0 s244 x246 w245)))) (
 qvb.j2 out_3 Q w)
def qvb.l1 (l_0 out_3:Sl) (i_4:Int) (Q:VWP) (w:World):Prop :=
 ∃ (I:Sl→Int→WP) (μ:Sl→Int→World→Nat),I out_3 i_4 w∧∀ out_3:Sl,∀ i_4:Int,∀ w:World,I out_3 i_4 w→qvb.b1 l_0 out_3 i_4 Q (fun l_0' out_3' i_4' w'=>(l_0'=l_0)∧I out_3' i_4' w'∧μ out_3' i_4' w' < μ out_3 i_4 w) w
def qvb.j3 (l_0 out_3:Sl) (i_4:Int) (Q:VWP) (w:World):Prop :=
 qvb.l1 l_0 out_3 i_4 Q w
def qvb.j1 (l_0 out_3:Sl) (Q:VWP) (w:World):Prop :=
 qvb.j3 l_0 out_3 0 Q w
def qvb (l_0:Sl) (Q:VWP) (w:World):Prop :=
 qvb.j1 l_0 ⟨none,0,0⟩ Q w
theorem qvb.ok (l_0:Sl) (Q:VWP) (w:World) (h:qvb l_0 Q w):Calls Tryz.prog 10 ⟨[sV l_0]⟩ w (Ret Q) :=
 qgc [.tmp 2] qjd Tryz.func10 rfl rfl rfl rfl (.pr 1 [sL 0,sL 3] (fun a b w=>qvb.j1 a b Q w) (.sq [sL 3] (fun a w=>qvb.j2 a Q w) (.sq [sL 0,sL 3,sI 4] (fun a b c w=>qvb.j3 a b c Q w) .lf (.bk (.lo [sL 0] [sL 3,sI 4] (fun a b c w=>qvb.l1 a b c Q w) (fun nx1 a b c w=>qvb.b1 a b c Q nx1 w) fun nx1=>.lf))) .lf)) (by kernel_rfl) h
def qyf (a_0:(Array Value)) (b_1:(Array Value)) (Q:VWP) (w:World):Prop :=
 nw w a_0 49 fun a1 w2 =>
 nw w2 b_1 52 fun a3 w4 =>
 ldA w4 (Addr.add a1 0) 20 fun c5 =>
 ldA w4 (Addr.add a3 0) 20 fun c6 =>
 eqA .u8 20 c5 c6 fun x7 =>
 br x7 (
 ldA w4 (Addr.add a1 20) 20 fun c8 =>
 ldA w4 (Addr.add a3 20) 20 fun c9 =>
 eqA .u8 20 c8 c9 fun x10 =>
 br x10 (
 ldI .i64 w4 (Addr.add a1 41) fun x11 =>
 ldI .i64 w4 (Addr.add a3 41) fun x12 =>
 br (x11 == x12) (
 ldL w4 (Addr.add a1 40) fun x13 =>
 ldL w4 (Addr.add a3 40) fun x14 =>
 qwl 54 [sV x13,sV x14] w4 fun r17 w16 =>
 Q (.bool r17) w16) (
 Q (.bool false) w4)) (
 Q (.bool false) w4)) (
 Q (.bool false) w4)
theorem qyf.ok (a_0:(Array Value)) (b_1:(Array Value)) (Q:VWP) (w:World) (h:qyf a_0 b_1 Q w):Calls Tryz.prog 16 ⟨[.agg a_0,.agg b_1]⟩ w (Ret Q) :=
 qgc [.tmp 4] qjd Tryz.func16 rfl rfl rfl rfl .lf (by kernel_rfl) h
def qub.j2 (l_0:Sl) (Q:VWP) (w:World):Prop :=
 Q (.bool (decide ((l_0.len:Int)≤40))) w
def qub.b1 (l_0:Sl) (n_3:Int) (i_4:Int) (Q:VWP) (nx1:Sl→Int→Int→WP) (w:World):Prop :=
 br (decide (i_4 < (l_0.len:Int))) (
 br (decide (i_4≤40)) (
 ixS l_0.a l_0.len i_4 42 fun a1 =>
 ldL w (Addr.add a1 40) fun x2 =>
 lt (IntKind.i64.wrap (n_3+(x2.len:Int))) fun x3 =>
 br (decide (x3 > 200)) (
 Q (.bool false) w) (
 lt (IntKind.i64.wrap (i_4+1)) fun x4 =>
 nx1 l_0 x3 x4 w)) (
 qub.j2 l_0 Q w)) (
 qub.j2 l_0 Q w)
def qub.l1 (l_0:Sl) (n_3:Int) (i_4:Int) (Q:VWP) (w:World):Prop :=
 ∃ (I:Int→Int→WP) (μ:Int→Int→World→Nat),I n_3 i_4 w∧∀ n_3:Int,∀ i_4:Int,∀ w:World,I n_3 i_4 w→qub.b1 l_0 n_3 i_4 Q (fun l_0' n_3' i_4' w'=>(l_0'=l_0)∧I n_3' i_4' w'∧μ n_3' i_4' w' < μ n_3 i_4 w) w
def qub.j3 (l_0:Sl) (n_3:Int) (i_4:Int) (Q:VWP) (w:World):Prop :=
 qub.l1 l_0 n_3 i_4 Q w
def qub.j1 (l_0:Sl) (n_3:Int) (Q:VWP) (w:World):Prop :=
 qub.j3 l_0 n_3 0 Q w
def qub (l_0:Sl) (Q:VWP) (w:World):Prop :=
 qub.j1 l_0 0 Q w
theorem qub.ok (l_0:Sl) (Q:VWP) (w:World) (h:qub l_0 Q w):Calls Tryz.prog 7 ⟨[sV l_0]⟩ w (Ret Q) :=
 qgc [.tmp 2] qjd Tryz.func7 rfl rfl rfl rfl (.pr 1 [sL 0,sI 3] (fun a b w=>qub.j1 a b Q w) (.sq [sL 0] (fun a w=>qub.j2 a Q w) (.sq [sL 0,sI 3,sI 4] (fun a b c w=>qub.j3 a b c Q w) .lf (.bk (.lo [sL 0] [sI 3,sI 4] (fun a b c w=>qub.l1 a b c Q w) (fun nx1 a b c w=>qub.b1 a b c Q nx1 w) fun nx1=>.lf))) .lf)) (by kernel_rfl) h
def qn.j2 (d_0 i_1:OAd) (t5:Addr) (Q:VWP) (w:World):Prop :=
 ldA w t5 20 fun c1 =>
 ct_IB 19 [.pointer d_0,.agg c1] w fun r4 r5 w3 =>
 ldA w3 t5 20 fun c6 =>
 ct_IB 46 [.pointer i_1,.agg c6] w3 fun r9 r10 w8 =>
 br (r4 == r9) (
 Q (.bool (r5 == r10)) w8) (
 Q (.bool false) w8)
def qn.j5 (d_0 i_1:OAd) (t5:Addr) (t7:Int) (Q:VWP) (nx1:OAd→OAd→Addr→Int→WP) (w:World):Prop :=
 lt (IntKind.i64.wrap (t7+1)) fun x11 =>
 nx1 d_0 i_1 t5 x11 w
def qn.j9 (d_0 i_1:OAd) (t5:Addr) (t7:Int) (t8:Addr) (t10:Bool) (Q:VWP) (nx1:OAd→OAd→Addr→Int→WP) (w:World):Prop :=
 br (!t10) (
 qn.j5 d_0 i_1 t5 t7 Q nx1 w) (
 nz i_1 fun a12 =>
 ldL w (Addr.add a12 0) fun x13 =>
 ixS x13.a x13.len t7 42 fun a14 =>
 ldA w (Addr.add a14 0) 20 fun c15 =>
 ct_IB 19 [.pointer d_0,.agg c15] w fun r18 r19 w17 =>
 lt (World.drew w17) fun w20 =>
 ldA w20 t8 42 fun c21 =>
 nz i_1 fun a22 =>
 ldL w20 (Addr.add a22 0) fun x23 =>
 ixS x23.a x23.len t7 42 fun a24 =>
 ldA w20 a24 42 fun c25 =>
 qwl 16 [.agg c21,.agg c25] w20 fun r28 w27 =>
 br (!r28) (
 (Q (.bool false) w27)∧(
 (Q (.bool false) w27)∧(
 Q (.bool false) w27))) (
 br (r18 != t7) (
 (Q (.bool false) w27)∧(
 (Q (.bool false) w27)∧(
 Q (.bool false) w27))) (
 br (!r19) (
 (Q (.bool false) w27)∧(
 (Q (.bool false) w27)∧(
 Q (.bool false) w27))) (
 nz i_1 fun a29 =>
 (qnf 22 [.pointer d_0,.int .i64 t7] w27 fun r32 w31 =>
 ldL w31 (Addr.add a29 1) fun x33 =>
 ixS x33.a x33.len t7 1 fun a34 =>
 ldI .i64 w31 a34 fun x35 =>
 br (r32 != x35) (
 Q (.bool false) w31) (
 qn.j5 d_0 i_1 t5 t7 Q nx1 w31))∧(
 ldL w27 (Addr.add a29 1) fun x36 =>
 ixS x36.a x36.len t7 1 fun a37 =>
 (qnf 22 [.pointer d_0,.int .i64 t7] w27 fun r40 w39 =>
 ldI .i64 w39 a37 fun x41 =>
 br (r40 != x41) (
 Q (.bool false) w39) (
 qn.j5 d_0 i_1 t5 t7 Q nx1 w39))∧(
 ldI .i64 w27 a37 fun x42 =>
 qnf 22 [.pointer d_0,.int .i64 t7] w27 fun r45 w44 =>
 br (r45 != x42) (
 Q (.bool false) w44) (
 qn.j5 d_0 i_1 t5 t7 Q nx1 w44)))))))
def qn.b2 (d_0 i_1:OAd) (t5:Addr) (t7:Int) (t8:Addr) (t10:Bool) (t11:Sl) (t12:Sl) (t13:Int) (Q:VWP) (nx1:OAd→OAd→Addr→Int→WP) (nx2:OAd→OAd→Addr→Int→Addr→Bool→Sl→Sl→Int→WP) (w:World):Prop :=
 br (decide (t13 < (t11.len:Int))) (
 lt (World.drew w) fun w46 =>
 ixS t11.a t11.len t13 1 fun a47 =>
 ldI .i64 w46 a47 fun x48 =>
 ixS t12.a t12.len t13 1 fun a49 =>
 ldI .i64 w46 a49 fun x50 =>
 br (x48 != x50) (
 Q (.bool false) w46) (
 lt (IntKind.i64.wrap (t13+1)) fun x51 =>
 nx2 d_0 i_1 t5 t7 t8 t10 t11 t12 x51 w46)) (
 qn.j9 d_0 i_1 t5 t7 t8 t10 Q nx1 w)
def qn.l2 (d_0 i_1:OAd) (t5:Addr) (t7:Int) (t8:Addr) (t10:Bool) (t11:Sl) (t12:Sl) (t13:Int) (Q:VWP) (nx1:OAd→OAd→Addr→Int→WP) (w:World):Prop :=
 ∃ (I:Int→WP) (μ:Int→World→Nat),I t13 w∧∀ t13:Int,∀ w:World,I t13 w→qn.b2 d_0 i_1 t5 t7 t8 t10 t11 t12 t13 Q nx1 (fun d_0' i_1' t5' t7' t8' t10' t11' t12' t13' w'=>(d_0'=d_0∧i_1'=i_1∧t5'=t5∧t7'=t7∧t8'=t8∧t10'=t10∧t11'=t11∧t12'=t12)∧I t13' w'∧μ t13' w' < μ t13 w) w
def qn.j10 (d_0 i_1:OAd) (t5:Addr) (t7:Int) (t8:Addr) (t10:Bool) (t11:Sl) (t12:Sl) (t13:Int) (Q:VWP) (nx1:OAd→OAd→Addr→Int→WP) (w:World):Prop :=
 qn.l2 d_0 i_1 t5 t7 t8 t10 t11 t12 t13 Q nx1 w
def qn.j8 (d_0 i_1:OAd) (t5:Addr) (t7:Int) (t8:Addr) (t10:Bool) (t11:Sl) (t12:Sl) (Q:VWP) (nx1:OAd→OAd→Addr→Int→WP) (w:World):Prop :=
 qn.j10 d_0 i_1 t5 t7 t8 t10 t11 t12 0 Q nx1 w
def qn.j7 (d_0 i_1:OAd) (t5:Addr) (t7:Int) (t8:Addr) (t9 t10:Bool) (t11:Sl) (Q:VWP) (nx1:OAd→OAd→Addr→Int→WP) (w:World):Prop :=
 qtc 45 [.pointer i_1,.int .i64 t7] w fun r54 w53 =>
 br (!(t9 == t10)) (
 Q (.bool false) w53) (
 br ((t11.len:Int) != (r54.len:Int)) (
 Q (.bool false) w53) (
 br (!t10) (
 qnf 22 [.pointer d_0,.int .i64 t7] w53 fun r57 w56 =>
 br (r57 != 0) (
 Q (.bool false) w56) (
 qn.j8 d_0 i_1 t5 t7 t8 t10 t11 r54 Q nx1 w56)) (
 qn.j8 d_0 i_1 t5 t7 t8 t10 t11 r54 Q nx1 w53)))
def qn.j6 (d_0 i_1:OAd) (t5:Addr) (t7:Int) (t8:Addr) (t9 t10:Bool) (Q:VWP) (nx1:OAd→OAd→Addr→Int→WP) (w:World):Prop :=
 qtc 21 [.pointer d_0,.int .i64 t7] w fun r60 w59 =>
 qn.j7 d_0 i_1 t5 t7 t8 t9 t10 r60 Q nx1 w59
def qn.j4 (d_0 i_1:OAd) (t5:Addr) (t7:Int) (Q:VWP) (nx1:OAd→OAd→Addr→Int→WP) (w:World):Prop :=
 ct_GB 20 [.pointer d_0,.int .i64 t7] w fun r63 r64 w62 =>
 nw w62 (zc Tryz.prog 49) 49 fun a65 w66 =>
 (r63).size=42 ∧
 stA w66 a65 r63 fun w67 =>
 br (decide (t7 ≥ 0)) (
 nz i_1 fun a68 =>
 ldL w67 (Addr.add a68 0) fun x69 =>
 qn.j6 d_0 i_1 t5 t7 a65 r64 (decide (t7 < (x69.len:Int))) Q nx1 w67) (
 qn.j6 d_0 i_1 t5 t7 a65 r64 false Q nx1 w67)
def qn.b1 (d_0 i_1:OAd) (t5:Addr) (t7:Int) (Q:VWP) (nx1:OAd→OAd→Addr→Int→WP) (w:World):Prop :=
 nz i_1 fun a70 =>
 ldL w (Addr.add a70 0) fun x71 =>
 br (decide (t7≤(x71.len:Int))) (
 qn.j4 d_0 i_1 t5 t7 Q nx1 w) (
 qn.j2 d_0 i_1 t5 Q w)
def qn.l1 (d_0 i_1:OAd) (t5:Addr) (t7:Int) (Q:VWP) (w:World):Prop :=
 ∃ (I:Int→WP) (μ:Int→World→Nat),I t7 w∧∀ t7:Int,∀ w:World,I t7 w→qn.b1 d_0 i_1 t5 t7 Q (fun d_0' i_1' t5' t7' w'=>(d_0'=d_0∧i_1'=i_1∧t5'=t5)∧I t7' w'∧μ t7' w' < μ t7 w) w
def qn.j3 (d_0 i_1:OAd) (t5:Addr) (t7:Int) (Q:VWP) (w:World):Prop :=
 qn.l1 d_0 i_1 t5 t7 Q w
def qn.j1 (d_0 i_1:OAd) (t5:Addr) (Q:VWP) (w:World):Prop :=
 qn.j3 d_0 i_1 t5 (-1) Q w
def qn (d_0 i_1:OAd) (t2:(Array Value)) (Q:VWP) (w:World):Prop :=
 nw w t2 24 fun a72 w73 =>
 lt (World.drew w73) fun w74 =>
 nz i_1 fun a75 =>
 (qnf 23 [.pointer d_0] w74 fun r78 w77 =>
 ldL w77 (Addr.add a75 0) fun x79 =>
 br (r78 != (x79.len:Int)) (
 Q (.bool false) w77) (
 qn.j1 d_0 i_1 a72 Q w77))∧(
 ldL w74 (Addr.add a75 0) fun x80 =>
 qnf 23 [.pointer d_0] w74 fun r83 w82 =>
 br (r83 != (x80.len:Int)) (
 Q (.bool false) w82) (
 qn.j1 d_0 i_1 a72 Q w82))
theorem qn.ok (d_0:OAd) (i_1:OAd) (t2:(Array Value)) (Q:VWP) (w:World) (h:qn d_0 i_1 t2 Q w):Calls Tryz.prog 13 ⟨[.pointer d_0,.pointer i_1,.agg t2]⟩ w (Ret Q) :=
 qgc [.tmp 6] qjd Tryz.func13 rfl rfl rfl rfl (.pr 1 [sP 0,sP 1,sA 5] (fun a b c w=>qn.j1 a b c Q w) (.sq [sP 0,sP 1,sA 5] (fun a b c w=>qn.j2 a b c Q w) (.sq [sP 0,sP 1,sA 5,sI 7] (fun a b c d w=>qn.j3 a b c d Q w) .lf (.bk (.lo [sP 0,sP 1,sA 5] [sI 7] (fun a b c d w=>qn.l1 a b c d Q w) (fun nx1 a b c d w=>qn.b1 a b c d Q nx1 w) fun nx1=>(.sq [sP 0,sP 1,sA 5,sI 7] (fun a b c d w=>qn.j4 a b c d Q nx1 w) .lf (.sq [sP 0,sP 1,sA 5,sI 7] (fun a b c d w=>qn.j5 a b c d Q nx1 w) (.bk (.pr 1 [sP 0,sP 1,sA 5,sI 7,sA 8,sB 9,sB 10] (fun a b c d e f g w=>qn.j6 a b c d e f g Q nx1 w) (.sq [sP 0,sP 1,sA 5,sI 7,sA 8,sB 9,sB 10,sL 11] (fun a b c d e f g h w=>qn.j7 a b c d e f g h Q nx1 w) .lf (.pr 1 [sP 0,sP 1,sA 5,sI 7,sA 8,sB 10,sL 11,sL 12] (fun a b c d e f g h w=>qn.j8 a b c d e f g h Q nx1 w) (.sq [sP 0,sP 1,sA 5,sI 7,sA 8,sB 10] (fun a b c d e f w=>qn.j9 a b c d e f Q nx1 w) (.sq [sP 0,sP 1,sA 5,sI 7,sA 8,sB 10,sL 11,sL 12,sI 13] (fun a b c d e f g h i w=>qn.j10 a b c d e f g h i Q nx1 w) .lf (.bk (.lo [sP 0,sP 1,sA 5,sI 7,sA 8,sB 10,sL 11,sL 12] [sI 13] (fun a b c d e f g h i w=>qn.l2 a b c d e f g h i Q nx1 w) (fun nx2 a b c d e f g h i w=>qn.b2 a b c d e f g h i Q nx1 nx2 w) fun nx2=>.lf))) .lf))))) .lf))))) .lf)) (by kernel_rfl) h
def trovelaw19_GraphBuilds (d_0:Sl) (i_1:(Array Value)) (Q:VWP) (w:World):Prop :=
 nw w i_1 24 fun a1 w2 =>
 qwl 6 [] w2 fun r5 w4 =>
 br (!r5) (
 Q (.bool false) w4) (
 qwl 7 [sV d_0] w4 fun r8 w7 =>
 br (!r8) (
 Q (.bool true) w7) (
 qzl 8 [sV d_0] w7 fun r11 r12 w10 =>
 qtc 10 [sV d_0] w10 fun r15 w14 =>
 qzl 9 [sV r15] w14 fun r18 r19 w17 =>
 btS w17 r11.a r11.len fun x20 =>
 btS w17 r18.a r18.len fun x21 =>
 br (!(ByteArray.toList x20 == ByteArray.toList x21)) (
 Q (.bool false) w17) (
 br (r12 != r19) (
 Q (.bool false) w17) (
 br (r19 != 0) (
 Q (.bool true) w17) (
 ct_PI 11 [sV r11] w17 fun r24 r25 w23 =>
 ct_PI 12 [sV r11] w23 fun r28 r29 w27 =>
 br (r25 == 0) (
 br (r29 == 0) (
 br (!(Option.isNone r24)) (
 ldA w27 a1 20 fun c30 =>
 qwl 13 [.pointer r24,.pointer r28,.agg c30] w27 fun r33 w32 =>
 Q (.bool r33) w32) (
 Q (.bool false) w27)) (
 Q (.bool false) w27)) (
 Q (.bool false) w27))))))
theorem trovelaw19_GraphBuilds.ok (d_0:Sl) (i_1:(Array Value)) (Q:VWP) (w:World) (h:trovelaw19_GraphBuilds d_0 i_1 Q w):Calls Tryz.prog 3 ⟨[sV d_0,.agg i_1]⟩ w (Ret Q) :=
 qgc [.tmp 4] qjd Tryz.func3 rfl rfl rfl rfl .lf (by kernel_rfl) h
def trovelaw19_GraphCloses.j7 (t3 t4:Sl) (Q:VWP) (w:World):Prop :=
 qzl 8 [sV t3] w fun r3 r4 w2 =>
 qzl 9 [sV t4] w2 fun r7 r8 w6 =>
 br (r4 == r8) (
 br (r8 == 0) (
 Q (.bool true) w6) (
 Q (.bool (r8 == 1)) w6)) (
 Q (.bool false) w6)
def trovelaw19_GraphCloses.b1 (d_0 t3 t4:Sl) (t6:(Option Nat)) (t8:Sl) (t10:Int) (Q:VWP) (nx1:Sl→Sl→Sl→(Option Nat)→Sl→Int→WP) (w:World):Prop :=
 br (decide (t10 < (t8.len:Int))) (
 lt (World.drew w) fun w9 =>
 ixS d_0.a d_0.len t10 42 fun a10 =>
 ldA w9 (Addr.add a10 0) 20 fun c11 =>
 ixS t8.a t8.len t10 1 fun a12 =>
 (∃ r13:Int,lkR Tryz.prog 53 (.map t6) (.agg c11) false w9 (.int .i64 r13) ∧
 ldI .i64 w9 a12 fun x14 =>
 br (r13 != x14) (
 Q (.bool false) w9) (
 lt (IntKind.i64.wrap (t10+1)) fun x15 =>
 nx1 d_0 t3 t4 t6 t8 x15 w9))∧(
 ldI .i64 w9 a12 fun x16 =>
 ∃ r17:Int,lkR Tryz.prog 53 (.map t6) (.agg c11) false w9 (.int .i64 r17) ∧
 br (r17 != x16) (
 Q (.bool false) w9) (
 lt (IntKind.i64.wrap (t10+1)) fun x18 =>
 nx1 d_0 t3 t4 t6 t8 x18 w9))) (
 trovelaw19_GraphCloses.j7 t3 t4 Q w)
def trovelaw19_GraphCloses.l1 (d_0 t3 t4:Sl) (t6:(Option Nat)) (t8:Sl) (t10:Int) (Q:VWP) (w:World):Prop :=
 ∃ (I:Int→WP) (μ:Int→World→Nat),I t10 w∧∀ t10:Int,∀ w:World,I t10 w→trovelaw19_GraphCloses.b1 d_0 t3 t4 t6 t8 t10 Q (fun d_0' t3' t4' t6' t8' t10' w'=>(d_0'=d_0∧t3'=t3∧t4'=t4∧t6'=t6∧t8'=t8)∧I t10' w'∧μ t10' w' < μ t10 w) w
def trovelaw19_GraphCloses.j8 (d_0 t3 t4:Sl) (t6:(Option Nat)) (t8:Sl) (t10:Int) (Q:VWP) (w:World):Prop :=
 trovelaw19_GraphCloses.l1 d_0 t3 t4 t6 t8 t10 Q w
def trovelaw19_GraphCloses.j6 (d_0 t3 t4:Sl) (t6:(Option Nat)) (t8:Sl) (Q:VWP) (w:World):Prop :=
 trovelaw19_GraphCloses.j8 d_0 t3 t4 t6 t8 0 Q w
def trovelaw19_GraphCloses.j5 (d_0 t3 t4:Sl) (t6:(Option Nat)) (t7:Int) (Q:VWP) (w:World):Prop :=
 qtc 10 [sV d_0] w fun r21 w20 =>
 qzl 18 [sV r21] w20 fun r24 r25 w23 =>
 br (t7 != r25) (
 Q (.bool false) w23) (
 br (r25 == 0) (
 ∃ x26:Int,lnR Tryz.prog [53] 3 [.map t6] w23 x26 ∧
 br (x26 != (d_0.len:Int)) (
 Q (.bool false) w23) (
 br (r25 != 0) (
 ∃ x27:Int,lnR Tryz.prog [53] 3 [.map t6] w23 x27 ∧
 br (x27 != 0) (
 Q (.bool false) w23) (
 trovelaw19_GraphCloses.j6 d_0 t3 t4 t6 r24 Q w23)) (
 trovelaw19_GraphCloses.j6 d_0 t3 t4 t6 r24 Q w23))) (
 br (r25 != 0) (
 ∃ x28:Int,lnR Tryz.prog [53] 3 [.map t6] w23 x28 ∧
 br (x28 != 0) (
 Q (.bool false) w23) (
 trovelaw19_GraphCloses.j6 d_0 t3 t4 t6 r24 Q w23)) (
 trovelaw19_GraphCloses.j6 d_0 t3 t4 t6 r24 Q w23)))
def trovelaw19_GraphCloses.j4 (d_0 t3 t4:Sl) (Q:VWP) (w:World):Prop :=
 Calls Tryz.prog 17 ⟨[sV d_0]⟩ w fun e29 w30 =>
 ∃ r31:(Option Nat),∃ r32:Int,e29=.returned (.tuple ⟨[.map r31,.int .i64 r32]⟩) ∧
 trovelaw19_GraphCloses.j5 d_0 t3 t4 r31 r32 Q w30
def trovelaw19_GraphCloses.b2 (d_0 t3 t4:Sl) (t5:Int) (Q:VWP) (nx2:Sl→Sl→Sl→Int→WP) (w:World):Prop :=
 br (decide (t5 < (t3.len:Int))) (
 lt (World.drew w) fun w33 =>
 ixS t3.a t3.len t5 42 fun a34 =>
 ldA w33 a34 42 fun c35 =>
 ixS t4.a t4.len t5 42 fun a36 =>
 ldA w33 a36 42 fun c37 =>
 qwl 16 [.agg c35,.agg c37] w33 fun r40 w39 =>
 br (!r40) (
 Q (.bool false) w39) (
 lt (IntKind.i64.wrap (t5+1)) fun x41 =>
 nx2 d_0 t3 t4 x41 w39)) (
 trovelaw19_GraphCloses.j4 d_0 t3 t4 Q w)
def trovelaw19_GraphCloses.l2 (d_0 t3 t4:Sl) (t5:Int) (Q:VWP) (w:World):Prop :=
 ∃ (I:Int→WP) (μ:Int→World→Nat),I t5 w∧∀ t5:Int,∀ w:World,I t5 w→trovelaw19_GraphCloses.b2 d_0 t3 t4 t5 Q (fun d_0' t3' t4' t5' w'=>(d_0'=d_0∧t3'=t3∧t4'=t4)∧I t5' w'∧μ t5' w' < μ t5 w) w
def trovelaw19_GraphCloses.j9 (d_0 t3 t4:Sl) (t5:Int) (Q:VWP) (w:World):Prop :=
 trovelaw19_GraphCloses.l2 d_0 t3 t4 t5 Q w
def trovelaw19_GraphCloses.j3 (d_0 t3 t4:Sl) (Q:VWP) (w:World):Prop :=
 trovelaw19_GraphCloses.j9 d_0 t3 t4 0 Q w
def trovelaw19_GraphCloses.j2 (d_0 t3:Sl) (Q:VWP) (w:World):Prop :=
 qtc 10 [sV d_0] w fun r44 w43 =>
 qtc 15 [sV r44] w43 fun r47 w46 =>
 br ((t3.len:Int) != (r47.len:Int)) (
 Q (.bool false) w46) (
 trovelaw19_GraphCloses.j3 d_0 t3 r47 Q w46)
def trovelaw19_GraphCloses.j1 (d_0:Sl) (Q:VWP) (w:World):Prop :=
 qwl 7 [sV d_0] w fun r50 w49 =>
 br (!r50) (
 Q (.bool true) w49) (
 qtc 14 [sV d_0] w49 fun r53 w52 =>
 trovelaw19_GraphCloses.j2 d_0 r53 Q w52)
def trovelaw19_GraphCloses (d_0:Sl) (Q:VWP) (w:World):Prop :=
 qwl 6 [] w fun r56 w55 =>
 br (!r56) (
 Q (.bool false) w55) (
 trovelaw19_GraphCloses.j1 d_0 Q w55)
theorem trovelaw19_GraphCloses.ok (d_0:Sl) (Q:VWP) (w:World) (h:trovelaw19_GraphCloses d_0 Q w):Calls Tryz.prog 5 ⟨[sV d_0]⟩ w (Ret Q) :=
 qgc [.tmp 2] qjd Tryz.func5 rfl rfl rfl rfl (.pr 1 [sL 0] (fun a w=>trovelaw19_GraphCloses.j1 a Q w) (.pr 1 [sL 0,sL 3] (fun a b w=>trovelaw19_GraphCloses.j2 a b Q w) (.pr 1 [sL 0,sL 3,sL 4] (fun a b c w=>trovelaw19_GraphCloses.j3 a b c Q w) (.sq [sL 0,sL 3,sL 4] (fun a b c w=>trovelaw19_GraphCloses.j4 a b c Q w) (.sq [sL 0,sL 3,sL 4,sI 5] (fun a b c d w=>trovelaw19_GraphCloses.j9 a b c d Q w) .lf (.bk (.lo [sL 0,sL 3,sL 4] [sI 5] (fun a b c d w=>trovelaw19_GraphCloses.l2 a b c d Q w) (fun nx2 a b c d w=>trovelaw19_GraphCloses.b2 a b c d Q nx2 w) fun nx2=>.lf))) (.sq [sL 0,sL 3,sL 4,(6,.M),sI 7] (fun a b c d e w=>trovelaw19_GraphCloses.j5 a b c d e Q w) .lf (.pr 1 [sL 0,sL 3,sL 4,(6,.M),sL 8] (fun a b c d e w=>trovelaw19_GraphCloses.j6 a b c d e Q w) (.sq [sL 3,sL 4] (fun a b w=>trovelaw19_GraphCloses.j7 a b Q w) (.sq [sL 0,sL 3,sL 4,(6,.M),sL 8,sI 10] (fun a b c d e f w=>trovelaw19_GraphCloses.j8 a b c d e f Q w) .lf (.bk (.lo [sL 0,sL 3,sL 4,(6,.M),sL 8] [sI 10] (fun a b c d e f w=>trovelaw19_GraphCloses.l1 a b c d e f Q w) (fun nx1 a b c d e f w=>trovelaw19_GraphCloses.b1 a b c d e f Q nx1 w) fun nx1=>.lf))) .lf))))))) (by kernel_rfl) h
end Go.Proofs.YtigmbblgfnkpbaaGreat
namespace Go.Proofs.YtigmbblgfnkpbaaGreat
open Go Go.Proofs
set_option linter.unusedVariables false
set_option linter.unusedSimpArgs false
attribute [local irreducible] apK cpK mkK br
section
variable {F0:List Nat} {w0 w:World} {ps rest:List As} {s:Sl} {L:List Nd} {pr:Nd→List Nm} {K:Ending→World→Prop}
theorem law_Few.c (h:St F0 w0 w ps) [Rdb F0 w0 s ps 42 (L.flatMap ndC)] (hpl:∀ n ∈ L,n.par.len≤140737488351232) (hk:∀ (b:Bool) w',(b=true→L.length≤40∧(L.map fun n=>n.par.len).sum≤200)→St F0 w0 w' ps→K (.returned (.bool b)) w') :
 Calls Tryz.prog 7 ⟨[sV s]⟩ w K:=by
 have hl:=h.rlen (s:=s) (f:=ndC) (L:=L)
 refine qec (qub.ok _ _ _ ?_)
 unfold qub qub.j1 qub.j3
 refine qbf (fun (i:Nat) (n' i':Int) w'=>i'=(i:Int)∧i≤L.length∧i≤41∧n'=((((L.take i).map fun n=>n.par.len).sum:Nat):Int)∧((L.take i).map fun n=>n.par.len).sum≤200∧St F0 w0 w' ps) (fun i=>41 - i) 0 ⟨rfl,Nat.zero_le _,by omega,rfl,Nat.zero_le _,h⟩ ?_
 clear h
 rintro i _ _ wL I μ ⟨rfl,hi,hi2,rfl,hs,h⟩ hin
 have out:(L.length≤40→i=L.length)→qub.j2 s (fun v w'=>K (.returned v) w') wL:=by
  intro he
  unfold qub.j2
  refine hk _ wL (fun hb=>?_) h
  have:L.length≤40:=by
   have:=of_decide_eq_true hb
   omega
  have e:=he this
  subst e
  rw [List.take_length] at hs
  exact ⟨this,hs⟩
 unfold qub.b1
 refine qmc (fun g=>?_) (fun g=>out fun _=>by omega)
 refine qmc (fun g2=>?_) (fun g2=>out fun h40=>by omega)
 have hix:i < L.length:=by omega
 refine h.lrL (s:=s) (L:=L) (o:=40) i rfl hix (by decide) (qyj _) ?_
 have hsn:((L.take (i+1)).map fun n=>n.par.len).sum=((L.take i).map fun n=>n.par.len).sum+L[i].par.len:=by
  rw [List.take_succ_eq_append_getElem hix,List.map_append,List.sum_append]
  simp
 have:=hpl _ (List.getElem_mem hix)
 refine qy (e':=((((L.take (i+1)).map fun n=>n.par.len).sum:Nat):Int)) (by rw [qm (by omega) (by omega)]; omega) ?_
 refine qmc (fun g3=>?_) (fun g3=>?_)
 · exact hk false wL (fun e=>by cases e) h
 · refine qy (e':=((i+1:Nat):Int)) (by rw [qm (by omega) (by omega)]; rfl) ?_
   exact ⟨rfl,hin (i+1) _ _ _ ⟨rfl,by omega,by omega,rfl,by omega,h⟩ (by omega)⟩
end
end Go.Proofs.YtigmbblgfnkpbaaGreat
namespace Go.Proofs.YtigmbblgfnkpbaaGreat
open Go Go.Proofs
set_option linter.unusedVariables false
set_option linter.unusedSimpArgs false
attribute [local irreducible] apK cpK mkK br
theorem Blk.ldTree {w:World} {b:Nat} {n:Nd} {X:Array Value→Prop} (h:Blk w b (ndC n)) (hk:X ⟨ivs .u8 n.qaf⟩):Go.Proofs.YtigmbblgfnkpbaaGreat.ldA w (Addr.add ⟨b,0,none⟩ 20) 20 X:=by
 rw [qld]
 refine h.ldA (cs:=⟨ivs .u8 n.qaf⟩) (by simp [n.htr]) (fun i hi=>?_) hk
 unfold ndC
 rw [List.getElem?_append_right (by rw [qw,n.hid]; omega),qw,n.hid,List.getElem?_append_left (by rw [qw,n.htr]; omega),show 0+20+i - 20=i by omega]
 simp
section
variable {F0:List Nat} {w0 w:World} {ps rest:List As} {n:Nd} {t u:Sl} {P:List Nm} {K:Ending→World→Prop}
theorem nd_Same.c (h:St F0 w0 w ps) [Rdb F0 w0 t ps 20 (P.flatMap nmC)] [Rdb F0 w0 u ps 20 (P.flatMap nmC)] (hL:P.length≤1000000) (hk:∀ w',St F0 w0 w' ps→K (.returned (.bool true)) w') :
 Calls Tryz.prog 16 ⟨[.agg ⟨ndC (n.setP t)⟩,.agg ⟨ndC (n.setP u)⟩]⟩ w K:=by
 refine qec (qyf.ok _ _ _ _ ?_)
 unfold qyf
 refine h.new fun xb w h=>?_
 refine h.new fun yb w h=>?_
 have h:St F0 w0 w (qnb yb (ndC (n.setP u)) :: qnb xb (ndC (n.setP t)) :: ps):=h
 have hx:=(h.toB xb).blk
 have hy:=(h.toB yb).blk
 refine hx.ldIdN (hy.ldIdN ?_)
 refine eqA_s (xs:=n.id) n.hid ?_
 refine qnc (fun _=>?_) (fun g=>by cases g)
 refine hx.ldTree (hy.ldTree ?_)
 refine eqA_s (xs:=n.qaf) n.htr ?_
 refine qnc (fun _=>?_) (fun g=>by cases g)
 refine hx.ldDate (hy.ldDate ?_)
 refine qnc (fun _=>?_) (fun g=>by exfalso; simp [Nd.setP] at g)
 refine hx.ldPar (hy.ldPar ?_)
 refine law_Same.c (s:=t) (t:=u) (P:=P) h hL fun w h=>⟨_,rfl,?_⟩
 exact hk w h.drop.drop
end
end Go.Proofs.YtigmbblgfnkpbaaGreat
namespace Go.Proofs.YtigmbblgfnkpbaaGreat
open Go Go.Proofs
set_option linter.unusedVariables false
set_option linter.unusedSimpArgs false
structure Cm where
 id:Nm
 qaf:Nm
 par:List Nm
 date:Int
instance:Inhabited Cm:=⟨⟨default,default,[],0⟩⟩
def Nd.tr (n:Nd):Nm:=⟨n.qaf,n.htr,n.btr⟩
def cmN (pr:Nd→List Nm) (n:Nd):Cm:=⟨n.nm,n.tr,pr n,n.date⟩
section
variable (f:Nm→Option (List Nm)) (lost:Bool)
def fineF (ps:List Nm):Bool:=lost || ps.all fun p=>(f p).isSome
inductive EnF:List Nm→Prop
 | nil:EnF []
 | snoc {O:List Nm} {c:Nm} {ps:List Nm}:EnF O→f c=some ps→fineF f lost ps=true→(∀ p ∈ ps,(f p).isSome=true→p ∈ O)→EnF (O ++ [c])
def mxF (g:Nm→Int) (O:List Nm):List Nm→Int
 | []=>0
 | p :: ps=>if p ∈ O then max (g p+1) (mxF g O ps) else mxF g O ps
def MostF (O:List Nm):Prop:=∀ k ps,f k=some ps→fineF f lost ps=true→(∀ p ∈ ps,(f p).isSome=true→p ∈ O)→k ∈ O
structure Wk (O:List Nm) (g:Nm→Int):Prop where
 nd:O.Nodup
 en:EnF f lost O
 most:MostF f lost O
 gens:∀ c ps,c ∈ O→f c=some ps→g c=max 1 (mxF g O ps)
end
section
variable {f:Nm→Option (List Nm)} {lost:Bool} {O O1 O2 A:List Nm} {g g1 g2:Nm→Int}
theorem EnF.dom (h:EnF f lost A):∀ q ∈ A,∃ ps,f q=some ps∧fineF f lost ps=true∧∀ p ∈ ps,(f p).isSome=true→p ∈ A:=by
 induction h with
 | nil=>intro q hq; cases hq
 | @snoc O c ps _ h1 h2 h3 ih =>
   intro q hq
   rcases List.mem_append.1 hq with hq | hq
   · obtain ⟨ms,k1,k2,k3⟩:=ih q hq
     exact ⟨ms,k1,k2,fun p hp hm=>List.mem_append_left _ (k3 p hp hm)⟩
   · have:q=c:=by simpa using hq
     subst this
     exact ⟨ps,h1,h2,fun p hp hm=>List.mem_append_left _ (h3 p hp hm)⟩
theorem enF_sub (hA:EnF f lost A) (hm:MostF f lost O):∀ q ∈ A,q ∈ O:=by
 induction hA with
 | nil=>intro q hq; cases hq
 | @snoc A c ps hA hn hf hp ih =>
   intro q hq
   rcases List.mem_append.1 hq with hq | hq
   · exact ih q hq
   · have:q=c:=by simpa using hq
     subst this
     exact hm q ps hn hf fun p hpp h=>ih p (hp p hpp h)
theorem mxF_same {ps:List Nm} (h:∀ p ∈ ps,(p ∈ O1 ↔ p ∈ O2)∧(p ∈ O1→g1 p=g2 p)):mxF g1 O1 ps=mxF g2 O2 ps:=by
 induction ps with
 | nil=>rfl
 | cons p ps ih =>
   obtain ⟨h1,h2⟩:=h p (by simp)
   rw [mxF,mxF,ih fun q hq=>h q (by simp [hq])]
   by_cases g:p ∈ O1
   · rw [if_pos g,if_pos (h1.1 g),h2 g]
   · rw [if_neg g,if_neg fun e=>g (h1.2 e)]
theorem wk_sub (h1:Wk f lost O1 g1) (h2:Wk f lost O2 g2):∀ {A:List Nm},EnF f lost A→(∀ q ∈ A,q ∈ O1)→∀ q ∈ A,q ∈ O2∧g1 q=g2 q:=by
 intro A hA
 induction hA with
 | nil=>intro _ q hq; cases hq
 | @snoc A c ps hA hn hf hp ih =>
   intro hs q hq
   have ih:=ih fun q hq=>hs q (List.mem_append_left _ hq)
   rcases List.mem_append.1 hq with hq | hq
   · exact ih q hq
   · have:q=c:=by simpa using hq
     subst this
     have hq1:q ∈ O1:=hs q (by simp)
     have hq2:q ∈ O2:=h2.most q ps hn hf fun p hpp hm=>(ih p (hp p hpp hm)).1
     refine ⟨hq2,?_⟩
     rw [h1.gens q ps hq1 hn,h2.gens q ps hq2 hn]
     have:mxF g1 O1 ps=mxF g2 O2 ps:=mxF_same fun p hpp=>by
      by_cases hm:(f p).isSome=true
      · have hpA:=hp p hpp hm
        exact ⟨⟨fun _=>(ih p hpA).1,fun _=>hs p (List.mem_append_left _ hpA)⟩,fun _=>(ih p hpA).2⟩
      · have no:∀ {O g},Wk f lost O g→p ∉ O:=fun h hpO=>by
         obtain ⟨ms,k1,_⟩:=h.en.dom p hpO
         rw [k1] at hm
         exact hm rfl
        exact ⟨⟨fun e=>absurd e (no h1),fun e=>absurd e (no h2)⟩,fun e=>absurd e (no h1)⟩
     rw [this]
theorem wk_one (h1:Wk f lost O1 g1) (h2:Wk f lost O2 g2):(∀ q,q ∈ O1 ↔ q ∈ O2)∧∀ q ∈ O1,g1 q=g2 q :=
 ⟨fun q=>⟨fun h=>(wk_sub h1 h2 h1.en (fun q hq=>hq) q h).1,fun h=>(wk_sub h2 h1 h2.en (fun q hq=>hq) q h).1⟩,fun q h=>(wk_sub h1 h2 h1.en (fun q hq=>hq) q h).2⟩
theorem qdk (h1:Wk f lost O1 g1) (h2:Wk f lost O2 g2):O1.length=O2.length :=
 Nat.le_antisymm (qkg h1.nd fun x hx=>((wk_one h1 h2).1 x).1 hx) (qkg h2.nd fun x hx=>((wk_one h1 h2).1 x).2 hx)
theorem Wk.bound (h:Wk f lost O g):∀ {A:List Nm},EnF f lost A→A.Nodup→(∀ q ∈ A,q ∈ O)→∀ q ∈ A,1≤g q∧g q≤A.length:=by
 intro A hA
 induction hA with
 | nil=>intro _ _ q hq; cases hq
 | @snoc A c ps hA hn hf hp ih =>
   intro hnd hs q hq
   have ih:=ih (List.nodup_append.1 hnd).1 fun q hq=>hs q (List.mem_append_left _ hq)
   rw [List.length_append,List.length_singleton]
   rcases List.mem_append.1 hq with hq | hq
   · have:=ih q hq; omega
   · have:q=c:=by simpa using hq
     subst this
     have e:=h.gens q ps (hs q (by simp)) hn
     have hb:∀ ps',(∀ p ∈ ps',p ∈ ps)→mxF g O ps'≤A.length+1:=by
      intro ps'
      induction ps' with
      | nil=>intro _; rw [mxF]; omega
      | cons p ps' ih2 =>
        intro hsub
        rw [mxF]
        have:=ih2 fun q hq=>hsub q (by simp [hq])
        split
        · rename_i hpO
          have hpA:=hp p (hsub p (by simp)) (by
           obtain ⟨ms,k1,_⟩:=h.en.dom p hpO
           rw [k1]; rfl)
          have:=ih p hpA
          omega
        · exact this
     have:=hb ps fun p hp=>hp
     omega
end
section
variable {M:Rws Nd} {pr:Nd→List Nm} {lost:Bool} {O:List Nm} {G:Rws Int}
theorem inM_map (p:Nm):inM M p=((lkE M p.1).map pr).isSome:=by
 unfold inM
 cases lkE M p.1 <;> rfl
theorem fine_map (n:Nd):fineN M pr lost n=fineF (fun k=>(lkE M k.1).map pr) lost (pr n):=by
 unfold fineN fineF
 congr 2
 funext p
 exact inM_map p
theorem mx_map (O:List Nm) (ps:List Nm):mxP G O ps=mxF (gD G) O ps:=by
 induction ps with
 | nil=>rfl
 | cons p ps ih=>rw [mxP,mxF,ih]
theorem WkE.wk (h:WkE M pr lost O G):Wk (fun k=>(lkE M k.1).map pr) lost O (gD G):=by
 refine ⟨h.nd,?_,?_,?_⟩
 · have:=h.en
   clear h
   induction this with
   | nil=>exact .nil
   | @snoc A c n hA h1 h2 h3 ih =>
     refine .snoc ih (by rw [h1]; rfl) (by rw [← fine_map]; exact h2) fun p hp hm=>h3 p hp ?_
     rw [inM_map (pr:=pr)]
     exact hm
 · intro k ps hk hf hp
   have hk:(lkE M k.1).map pr=some ps:=hk
   cases hl:lkE M k.1 with
   | none=>rw [hl] at hk; cases hk
   | some n =>
     rw [hl] at hk
     injection hk with hk
     subst hk
     refine h.most k n hl (by rw [fine_map]; exact hf) fun p hpp hm=>hp p hpp ?_
     rw [← inM_map (pr:=pr)]
     exact hm
 · intro c ps hc hk
   have hk:(lkE M c.1).map pr=some ps:=hk
   cases hl:lkE M c.1 with
   | none=>rw [hl] at hk; cases hk
   | some n =>
     rw [hl] at hk
     injection hk with hk
     subst hk
     have:=h.gens c n hc hl
     show (lkE G c.1).getD 0=_
     rw [this,Option.getD_some]
     unfold mx
     rw [mx_map]
end
def fC (C:List Cm) (k:Nm):Option (List Nm):=(C.find? fun c=>decide (c.id=k)).map (·.par)
def fstC (C:List Cm) (k:Nm):Option Cm:=C.find? fun c=>decide (c.id=k)
theorem lk_addE (E:Rws Nd) (n:Nd) (k:List Int):lkE (addE E n) k=(lkE E k).or (if n.id=k then some n else none):=by
 unfold addE
 cases h:lkE E n.id with
 | some x =>
   simp only [Option.isSome_some,if_true]
   by_cases g:n.id=k
   · subst g; rw [h]; rfl
   · rw [if_neg g]; simp
 | none =>
   simp only [Option.isSome_none,Bool.false_eq_true,if_false]
   rw [qjk]
   by_cases g:n.id=k
   · subst g; rw [if_pos rfl,h]; simp
   · rw [if_neg g,if_neg fun e=>g e.symm]; simp
theorem lk_foldE (L:List Nd) (k:List Int):∀ E:Rws Nd,lkE (L.foldl addE E) k=(lkE E k).or (L.find? fun n=>decide (n.id=k)):=by
 induction L with
 | nil=>intro E; simp
 | cons n L ih =>
   intro E
   rw [List.foldl_cons,ih,lk_addE,List.find?_cons]
   by_cases g:n.id=k
   · simp [g]
   · simp [g]
theorem lk_firstE (L:List Nd) (k:List Int):lkE (qwc L) k=L.find? fun n=>decide (n.id=k):=by
 unfold qwc
 rw [lk_foldE]
 simp [qxn]
theorem qgk {n:Nd} {k:Nm}:n.nm=k ↔ n.id=k.1:=⟨fun h=>by rw [← h]; rfl,fun h=>Nm.ext' h⟩
theorem find_cm (pr:Nd→List Nm) (L:List Nd) (k:Nm):fstC (L.map (cmN pr)) k=(L.find? fun n=>decide (n.id=k.1)).map (cmN pr):=by
 unfold fstC
 rw [List.find?_map]
 congr 2
 funext n
 show decide (n.nm=k)=_
 simp only [qgk]
theorem qul (C:List Cm) (k:Nm):fC C k=(fstC C k).map (·.par):=rfl
theorem fC_first (pr:Nd→List Nm) (L:List Nd):(fun k:Nm=>(lkE (qwc L) k.1).map pr)=fC (L.map (cmN pr)):=by
 funext k
 rw [qul,find_cm,lk_firstE,Option.map_map]
 rfl
theorem fC_rows (pr:Nd→List Nm) {L:List Nd} (h:(L.map (·.id)).Nodup):(fun k:Nm=>(lkE (rowsN L) k.1).map pr)=fC (L.map (cmN pr)):=by
 rw [← qlk h]
 exact fC_first pr L
theorem fst_id {C:List Cm} {k:Nm} {c:Cm} (h:fstC C k=some c):c ∈ C∧c.id=k:=⟨List.mem_of_find?_eq_some h,by have:=List.find?_some h; simpa using this⟩
theorem fst_mem {C:List Cm} (hn:(C.map (·.id)).Nodup) {c:Cm} (hc:c ∈ C):fstC C c.id=some c:=by
 induction C with
 | nil=>cases hc
 | cons d C ih =>
   have hn':d.id ∉ C.map (·.id)∧(C.map (·.id)).Nodup:=List.nodup_cons.1 hn
   unfold fstC
   rw [List.find?_cons]
   rcases List.mem_cons.1 hc with rfl | hc
   · simp
   · have:¬ d.id=c.id:=fun e=>hn'.1 (by rw [e]; exact List.mem_map.2 ⟨c,hc,rfl⟩)
     simp only [this,decide_false]
     exact ih hn'.2 hc
theorem fst_none {C:List Cm} {k:Nm}:fstC C k=none ↔ k ∉ C.map (·.id):=by
 unfold fstC
 rw [List.find?_eq_none]
 constructor
 · intro h hm
   obtain ⟨c,hc,e⟩:=List.mem_map.1 hm
   exact h c hc (by simpa using e)
 · intro h c hc e
   exact h (List.mem_map.2 ⟨c,hc,by simpa using e⟩)
theorem qrh {C:List Cm} {k:Nm}:(fC C k).isSome=true ↔ k ∈ C.map (·.id):=by
 rw [qul,Option.isSome_map]
 cases h:fstC C k with
 | none=>simp [fst_none.1 h]
 | some c =>
   obtain ⟨h1,h2⟩:=fst_id h
   simp
   exact ⟨c,h1,h2⟩
theorem qcn {C D:List Cm} (hn:(C.map (·.id)).Nodup) (hp:C.Perm D):fC C=fC D:=by
 have hn2:(D.map (·.id)).Nodup:=(hp.map _).nodup_iff.1 hn
 funext k
 rw [qul,qul]
 congr 1
 cases h:fstC D k with
 | none =>
   rw [fst_none] at h ⊢
   exact fun e=>h ((hp.map _).mem_iff.1 e)
 | some d =>
   obtain ⟨h1,h2⟩:=fst_id h
   subst h2
   exact fst_mem hn (hp.mem_iff.2 h1)
theorem srt_eq {α:Type} {r:α→α→Prop} (ha:∀ a b,r a b→¬ r b a):∀ {A B:List α},A.Pairwise r→B.Pairwise r→(∀ x,x ∈ A ↔ x ∈ B)→A=B:=by
 intro A
 induction A with
 | nil =>
   intro B _ _ h
   cases B with
   | nil=>rfl
   | cons b B=>exact absurd ((h b).2 (by simp)) (by simp)
 | cons a A ih =>
   intro B hA hB h
   cases B with
   | nil=>exact absurd ((h a).1 (by simp)) (by simp)
   | cons b B =>
     obtain ⟨a1,a2⟩:=List.pairwise_cons.1 hA
     obtain ⟨b1,b2⟩:=List.pairwise_cons.1 hB
     have irr:∀ x,¬ r x x:=fun x hx=>ha x x hx hx
     have e:a=b:=by
      rcases List.mem_cons.1 ((h a).1 (by simp)) with e | h1
      · exact e
      · rcases List.mem_cons.1 ((h b).2 (by simp)) with e | h2
        · exact e.symm
        · exact absurd (b1 a h1) (ha _ _ (a1 b h2))
     subst e
     rw [ih a2 b2 fun x=>⟨fun hx=>?_,fun hx=>?_⟩]
     · rcases List.mem_cons.1 ((h x).1 (by simp [hx])) with e | h1
       · subst e; exact absurd (a1 x hx) (irr x)
       · exact h1
     · rcases List.mem_cons.1 ((h x).2 (by simp [hx])) with e | h1
       · subst e; exact absurd (b1 x hx) (irr x)
       · exact h1
def ltC (a b:Cm):Prop:=ltI a.id.1 b.id.1=true
theorem ltC_asymm (a b:Cm) (h:ltC a b):¬ ltC b a:=fun e=>by
 have:=ltI_asymm h
 unfold ltC at e
 rw [this] at e
 cases e
theorem ltC_nodup {C:List Cm} (h:C.Pairwise ltC):(C.map (·.id)).Nodup:=by
 unfold List.Nodup
 rw [List.pairwise_map]
 exact h.imp fun {a b} hab e=>by
  unfold ltC at hab
  rw [e,qhf] at hab
  cases hab
theorem ltC_eq {A B:List Cm} (hA:A.Pairwise ltC) (hB:B.Pairwise ltC) (h:A.Perm B):A=B:=srt_eq ltC_asymm hA hB fun x=>h.mem_iff
end Go.Proofs.YtigmbblgfnkpbaaGreat
namespace Go.Proofs.YtigmbblgfnkpbaaGreat
open Go Go.Proofs
set_option linter.unusedVariables false
set_option linter.unusedSimpArgs false
attribute [local irreducible] apK cpK mkK br
instance elt_rnode:EltR Tryz.prog 52 42 (ndC ndZ):=⟨⟨Tryz.t52,by kernel_rfl,rfl,by decide,by decide⟩,by kernel_rfl,rfl,by decide⟩
abbrev Cx:=Nd × List Nm
def cxA (x:Cx):As:=rdA 20 x.1.par (x.2.flatMap nmC)
def cmX (x:Cx):Cm:=⟨x.1.nm,x.1.tr,x.2,x.1.date⟩
def ndX (X:List Cx):List Nd:=X.map (·.1)
theorem ndX_app (X Y:List Cx):ndX (X ++ Y)=ndX X ++ ndX Y:=by simp [ndX]
theorem qhg (X:List Cx):(ndX X).length=X.length:=by simp [ndX]
section
variable {F0:List Nat} {w0 w:World} {ps rest:List As} {s:Sl} {L:List Nd} {pr:Nd→List Nm} {X:List Cx} {K:Ending→World→Prop}
theorem mem_perm {α:Type} {x:α}:∀ {X:List α},x ∈ X→∃ Y,X.Perm (x :: Y):=by
 intro X
 induction X with
 | nil=>intro h; cases h
 | cons y X ih =>
   intro h
   rcases List.mem_cons.1 h with rfl | h
   · exact ⟨X,.refl _⟩
   · obtain ⟨Y,hY⟩:=ih h
     exact ⟨y :: Y,(hY.cons y).trans (.swap x y Y)⟩
theorem qvj {x:Cx} (hx:x ∈ X):Rdb F0 w0 x.1.par (qie (X.map cxA) :: ps) 20 (x.2.flatMap nmC):=by
 obtain ⟨Y,hY⟩:=mem_perm hx
 exact ⟨fun h=>((h.bagP (hY.map cxA)).bagOut).rd⟩
theorem nmC_inj:∀ {P Q:List Nm},P.flatMap nmC=Q.flatMap nmC→P=Q:=by
 intro P
 induction P with
 | nil =>
   intro Q h
   cases Q with
   | nil=>rfl
   | cons q Q =>
     have:=congrArg List.length h
     rw [qtd,qtd,List.length_cons] at this
     simp at this
 | cons p P ih =>
   intro Q h
   cases Q with
   | nil =>
     have:=congrArg List.length h
     rw [qtd,qtd,List.length_cons] at this
     simp at this
   | cons q Q =>
     rw [qfh,qfh] at h
     have lenC:∀ p:Nm,(nmC p).length=20:=fun p=>(inferInstance:Rec nmC 20).len p
     obtain ⟨h1,h2⟩:=List.append_inj h (by rw [lenC,lenC])
     rw [ih h2,Nm.ext' (ivs_inj h1)]
theorem rd_one {sz:Nat} {cs ds:List Value} (h1:Rd w sz s cs) (h2:Rd w sz s ds):cs=ds:=by
 have hl:cs.length=ds.length:=h1.1.trans h2.1.symm
 apply List.ext_getElem? 
 intro i
 by_cases hi:i < cs.length
 · obtain ⟨a,ha,c1⟩:=h1.2 i hi
   obtain ⟨b,hb,c2⟩:=h2.2 i (by omega)
   rw [ha] at hb
   injection hb with hb
   subst hb
   rw [← c1,← c2]
 · rw [List.getElem?_eq_none (by omega),List.getElem?_eq_none (by omega)]
open Classical in
theorem St.prX (h:St F0 w0 w ps) (hP:∀ x ∈ X,Rdb F0 w0 x.1.par ps 20 (x.2.flatMap nmC)):∃ pr:Nd→List Nm,∀ x ∈ X,pr x.1=x.2:=by
 refine ⟨fun n=>if hn:∃ x ∈ X,x.1=n then hn.choose.2 else [],fun x hx=>?_⟩
 have hn:∃ y ∈ X,y.1=x.1:=⟨x,hx,rfl⟩
 show (if hn:∃ y ∈ X,y.1=x.1 then hn.choose.2 else [])=_
 rw [dif_pos hn]
 obtain ⟨h1,h2⟩:=hn.choose_spec
 generalize hn.choose=y at h1 h2
 haveI:=hP y h1
 haveI:=hP x hx
 have r1:=h.rdb y.1.par
 have r2:=h.rdb x.1.par
 rw [h2] at r1
 exact nmC_inj (rd_one r1 r2)
theorem ndC_date (n:Nd):(ndC n)[41]?=some (.int .i64 n.date):=by
 unfold ndC
 rw [List.getElem?_append_right (by rw [qw,n.hid]; decide),qw,n.hid,List.getElem?_append_right (by rw [qw,n.htr]; decide),qw,n.htr]
 rfl
theorem qnj (hpr:∀ x ∈ X,pr x.1=x.2):(ndX X).map (cmN pr)=X.map cmX:=by
 unfold ndX
 rw [List.map_map]
 refine List.map_congr_left fun x hx=>?_
 show (⟨x.1.nm,x.1.tr,pr x.1,x.1.date⟩:Cm)=_
 rw [hpr x hx]
 rfl
theorem qvb.c (h:St F0 w0 w ps) [Rdb F0 w0 s ps 42 (L.flatMap ndC)] (hL:L.length≤1000000) (hpr:∀ n ∈ L,(pr n).length≤1000000) (hP:∀ n ∈ L,Rdb F0 w0 n.par ps 20 ((pr n).flatMap nmC))
 (hk:∀ (X:List Cx) t w',t.len=L.length→X.map cmX=L.map (cmN pr)→St F0 w0 w' (qjb 42 t ((ndX X).flatMap ndC) :: qie (X.map cxA) :: ps)→K (.returned (sV t)) w') :
 Calls Tryz.prog 10 ⟨[sV s]⟩ w K:=by
 have hl:=h.rlen (s:=s) (f:=ndC) (L:=L)
 refine qec (qvb.ok _ _ _ ?_)
 unfold qvb qvb.j1 qvb.j3
 refine qbf (fun (a:Nat × List Cx) (t:Sl) (i':Int) w'=>i'=(a.1:Int)∧a.1≤L.length∧a.2.map cmX=(L.take a.1).map (cmN pr)∧St F0 w0 w' (qjb 42 t ((ndX a.2).flatMap ndC) :: qie (a.2.map cxA) :: ps)) (fun a=>L.length - a.1) (0,[]) ⟨rfl,Nat.zero_le _,rfl,h.bag0.nilO⟩ ?_
 clear h
 rintro ⟨i,X⟩ t _ wL I μ ⟨rfl,hi,hX,h⟩ hin
 simp only at hi hX h hin ⊢
 unfold qvb.b1
 have hXl:X.length=i:=by
  have:=congrArg List.length hX
  rw [List.length_map,List.length_map,List.length_take] at this
  omega
 refine qmc (fun g=>?_) (fun g=>?_)
 · have hix:i < L.length:=by omega
   refine h.drewK fun w h=>?_
   have hb:St F0 w0 w ps:=h.drop.drop
   refine h.rix (s:=s) (f:=ndC) (L:=L) i rfl hix fun a1 ha1=>?_
   refine h.rix (s:=s) (f:=ndC) (L:=L) i rfl hix fun a2 ha2=>?_
   refine h.rix (s:=s) (f:=ndC) (L:=L) i rfl hix fun a3 ha3=>?_
   refine (h.rdb s).rL (v:=L[i].par) ha3 hix (by decide) (qyj _) ?_
   refine h.rix (s:=s) (f:=ndC) (L:=L) i rfl hix fun a4 ha4=>?_
   have hsn:(L.take (i+1)).map (cmN pr)=(L.take i).map (cmN pr) ++ [cmN pr L[i]]:=by rw [List.take_succ_eq_append_getElem hix,List.map_append]; rfl
   have hI:∀ {w' a0 Z},St F0 w0 w' ps→s.a=some a0→Z ⟨ivs .u8 L[i].id⟩→ldA w' (Addr.add (a0.add (i * 42)) 0) 20 Z:=fun h ha hz=>by
    refine ⟨⟨ivs .u8 L[i].id⟩,by simp [L[i].hid],fun o ho=>?_,hz⟩
    have hr:=h.rdb s
    rw [qdg,qdg,show i * 42+(0+o)=i * 42+o by omega,← qdg,hr.rcell ha hix (by omega)]
    unfold ndC
    rw [List.getElem?_append_left (by rw [qw,L[i].hid]; exact ho)]
    simp
   have hT:∀ {w' a0 Z},St F0 w0 w' ps→s.a=some a0→Z ⟨ivs .u8 L[i].qaf⟩→ldA w' (Addr.add (a0.add (i * 42)) 20) 20 Z:=fun h ha hz=>by
    refine ⟨⟨ivs .u8 L[i].qaf⟩,by simp [L[i].htr],fun o ho=>?_,hz⟩
    have hr:=h.rdb s
    rw [qdg,qdg,← qdg,hr.rcell ha hix (by omega)]
    unfold ndC
    rw [List.getElem?_append_right (by rw [qw,L[i].hid]; omega),qw,L[i].hid,List.getElem?_append_left (by rw [qw,L[i].htr]; omega),show 20+o - 20=o by omega]
    simp
   have hD:∀ {w' a0 Z},St F0 w0 w' ps→s.a=some a0→Z L[i].date→ldI .i64 w' (Addr.add (a0.add (i * 42)) 41) Z:=fun h ha hz =>
    (h.rdb s).rI ha hix (by decide) (ndC_date _) hz
   haveI hPi:=hP _ (List.getElem_mem hix)
   have hpi:=hpr _ (List.getElem_mem hix)
   have hC:∀ {w':World} {Z:Sl→World→Prop},St F0 w0 w' (qjb 42 t ((ndX X).flatMap ndC) :: qie (X.map cxA) :: ps)→(∀ r w',St F0 w0 w' (qjb 20 r ((pr L[i]).flatMap nmC) :: qjb 42 t ((ndX X).flatMap ndC) :: qie (X.map cxA) :: ps)→St F0 w0 w' ps→Z r w')→qtc 36 [sV L[i].par] w' Z:=fun h hz=>by
    refine law_Of.c (s:=L[i].par) (P:=pr L[i]) h hpi fun r w' hr h=>⟨r,rfl,?_⟩
    exact hz r w' h h.drop.drop.drop
   rw [qck]
   have fin:∀ r w',St F0 w0 w' (qjb 20 r ((pr L[i]).flatMap nmC) :: qjb 42 t ((ndX X).flatMap ndC) :: qie (X.map cxA) :: ps) →
    nw w' ⟨spl (qke 1 (⟨ndC ndZ⟩:Array Value).toList) 0 ⟨ndC (L[i].setP r)⟩⟩ 52 fun a w14 =>
    rdO w14 (some a) (1 * 42) fun c15=>apK Tryz.prog 52 w14 t.a t.len t.cap 1 c15 fun s16 w17=>lt (IntKind.i64.wrap ((i:Int)+1)) fun x18=>(s=s)∧I s16 x18 w17∧μ s16 x18 w17 < μ t (i:Int) wL:=by
    intro r w' h
    rw [qjf (by rw [qob]; rfl)]
    refine h.pushR (s:=t) (L:=ndX X) (x:=L[i].setP r) (by rw [qhg]; omega) rfl fun s' w hs h=>?_
    refine qy (e':=((i+1:Nat):Int)) (by rw [qm (by omega) (by omega)]; rfl) ?_
    refine ⟨rfl,hin (i+1,X ++ [(L[i].setP r,pr L[i])]) _ _ _ ⟨rfl,by simp only; omega,?_,?_⟩ (by simp only; omega)⟩
    · simp only
      rw [hsn,List.map_append,hX]
      rfl
    · simp only
      have h2:St F0 w0 w (qjb 20 r ((pr L[i]).flatMap nmC) :: qie (X.map cxA) :: qjb 42 s' ((ndX X ++ [L[i].setP r]).flatMap ndC) :: ps):=h.sub
      have h3:St F0 w0 w (qie (((L[i].setP r,pr L[i]) :: X).map cxA) :: qjb 42 s' ((ndX X ++ [L[i].setP r]).flatMap ndC) :: ps):=h2.ro.bagIn
      have h4:=h3.bagP (l':=(X ++ [(L[i].setP r,pr L[i])]).map cxA) ((List.perm_append_singleton _ X).symm.map _)
      have e:ndX (X ++ [(L[i].setP r,pr L[i])])=ndX X ++ [L[i].setP r]:=by rw [ndX_app]; rfl
      rw [e]
      exact h4.sub
   generalize L[i]=n at *
   have di:(⟨ivs .u8 n.id⟩:Array Value).size=20:=by simp [n.hid]
   have dt:(⟨ivs .u8 n.qaf⟩:Array Value).size=20:=by simp [n.htr]
   have dn:∀ r:Sl,(⟨ndC (n.setP r)⟩:Array Value).size=42:=fun r=>qob _
   have bn:∀ r:Sl,List.set (List.set (spl (spl (⟨ndC ndZ⟩:Array Value).toList 0 ⟨ivs .u8 n.id⟩) 20 ⟨ivs .u8 n.qaf⟩) 40 (.slice r.a r.len r.cap)) 41 (.int .i64 n.date)=ndC (n.setP r):=build_nd n
   repeat' first
    | with_reducible refine hI (by assumption) (by assumption) ?_
    | with_reducible refine hT (by assumption) (by assumption) ?_
    | with_reducible refine hD (by assumption) (by assumption) ?_
    | with_reducible refine hC h fun r w' h1 h2=>?_
    | with_reducible refine And.intro ?_ ?_
   all_goals first
    | with_reducible exact di
    | with_reducible exact dt
    | (rw [bn]; with_reducible exact dn _)
    | (rw [bn]; with_reducible exact fin _ _ (by assumption))
 · have:i=L.length:=by omega
   subst this
   rw [List.take_length] at hX
   have h5:=h.rlen (s:=t) (f:=ndC) (L:=ndX X)
   rw [qhg] at h5
   unfold qvb.j2
   exact hk X t wL (by omega) hX h
end
end Go.Proofs.YtigmbblgfnkpbaaGreat
namespace Go.Proofs.YtigmbblgfnkpbaaGreat
open Go Go.Proofs
set_option linter.unusedVariables false
set_option linter.unusedSimpArgs false
attribute [local irreducible] apK cpK mkK br
def qji (L:List Nd) (k:List Int):Option Nd:=L.find? fun n=>decide (n.id=k)
theorem fnd_app (L M:List Nd) (k:List Int):qji (L ++ M) k=(qji L k).or (qji M k):=by unfold qji; exact List.find?_append ..
theorem qim (n:Nd) (L:List Nd) (k:List Int):qji (n :: L) k=if n.id=k then some n else qji L k:=by
 unfold qji
 rw [List.find?_cons]
 by_cases g:n.id=k
 · simp [g]
 · simp [g]
theorem fnd_none {L:List Nd} {k:List Int}:qji L k=none ↔ ∀ n ∈ L,n.id ≠ k:=by
 unfold qji
 rw [List.find?_eq_none]
 simp
theorem qkk {L:List Nd} {k:List Int} {n:Nd} (h:qji L k=some n):n ∈ L∧n.id=k:=⟨List.mem_of_find?_eq_some h,by have:=List.find?_some h; simpa using this⟩
abbrev RisN (R:List Nd):Prop:=R.Pairwise fun x y=>ltN x y=true
theorem RisN.nd {R:List Nd} (h:RisN R):(R.map (·.id)).Nodup:=by
 unfold List.Nodup
 rw [List.pairwise_map]
 exact h.imp fun {a b} hab e=>by
  unfold ltN at hab
  rw [e,qhf] at hab
  cases hab
theorem qfl {R:List Nd} (hn:(R.map (·.id)).Nodup) {n:Nd} (h:n ∈ R):qji R n.id=some n:=by
 induction R with
 | nil=>cases h
 | cons m R ih =>
   have hn':m.id ∉ R.map (·.id)∧(R.map (·.id)).Nodup:=List.nodup_cons.1 hn
   rw [qim]
   rcases List.mem_cons.1 h with rfl | h
   · simp
   · rw [if_neg fun e=>hn'.1 (by rw [e]; exact List.mem_map.2 ⟨n,h,rfl⟩),ih hn'.2 h]
structure SrtN (L R:List Nd):Prop where
 ris:RisN R
 fnd:∀ k,qji R k=qji L k
theorem SrtN.perm {L R:List Nd} (h:SrtN L R) (hn:(L.map (·.id)).Nodup):R.Perm L:=by
 have nd:∀ {A:List Nd},(A.map (·.id)).Nodup→A.Nodup:=fun h=>by
  unfold List.Nodup at h ⊢
  rw [List.pairwise_map] at h
  exact h.imp fun hab e=>hab (by rw [e])
 rw [List.perm_ext_iff_of_nodup (nd h.ris.nd) (nd hn)]
 intro n
 constructor
 · intro hm
   have:=qfl h.ris.nd hm
   rw [h.fnd] at this
   exact (qkk this).1
 · intro hm
   have:=qfl hn hm
   rw [← h.fnd] at this
   exact (qkk this).1
theorem SrtN.skip {L R:List Nd} {n m:Nd} (h:SrtN L R) (hm:m ∈ R) (e:m.id=n.id):SrtN (L ++ [n]) R:=by
 refine ⟨h.ris,fun k=>?_⟩
 rw [fnd_app,h.fnd,qim]
 by_cases g:n.id=k
 · rw [if_pos g]
   have:=qfl h.ris.nd hm
   rw [e,g,h.fnd] at this
   rw [this]; rfl
 · rw [if_neg g]
   show _=Option.or _ none
   simp
theorem SrtN.ins {L R:List Nd} {n:Nd} {k:Nat} (h:SrtN L R) (hk:k≤R.length) (h1:∀ j (hj:j < R.length),j < k→ltN R[j] n=true) (h2:∀ hj:k < R.length,ltN R[k] n=false∧R[k].id ≠ n.id):SrtN (L ++ [n]) (R.take k ++ [n] ++ R.drop k):=by
 have hlt:∀ x ∈ R.take k,ltN x n=true:=by
  intro x hx
  obtain ⟨j,hj,rfl⟩:=List.getElem_of_mem hx
  rw [List.length_take] at hj
  rw [List.getElem_take]
  exact h1 j (by omega) (by omega)
 have hgt:∀ x ∈ R.drop k,ltN n x=true:=by
  intro x hx
  obtain ⟨j,hj,rfl⟩:=List.getElem_of_mem hx
  rw [List.length_drop] at hj
  rw [List.getElem_drop]
  obtain ⟨a,b⟩:=h2 (by omega)
  have hn:ltN n R[k]=true:=by
   cases hc:ltN n R[k] with
   | true=>rfl
   | false=>exact absurd (qik a hc) b
  rcases Nat.eq_zero_or_pos j with h0 | h0
  · subst h0; exact hn
  · exact qri hn (List.pairwise_iff_getElem.1 h.ris k (k+j) (by omega) (by omega) (by omega))
 have hR:R.take k ++ R.drop k=R:=List.take_append_drop k R
 have hp:RisN (R.take k ++ R.drop k):=by rw [hR]; exact h.ris
 obtain ⟨p1,p2,p3⟩:=List.pairwise_append.1 hp
 refine ⟨?_,fun q=>?_⟩
 · rw [List.append_assoc]
   refine List.pairwise_append.2 ⟨p1,List.pairwise_cons.2 ⟨hgt,p2⟩,fun a ha b hb=>?_⟩
   rcases List.mem_cons.1 hb with rfl | hb
   · exact hlt a ha
   · exact p3 a ha b hb
 · rw [List.append_assoc,fnd_app,fnd_app L,← h.fnd]
   show Option.or _ (qji (n :: R.drop k) q)=Option.or _ (qji (n :: []) q)
   rw [qim,qim]
   have hfR:qji R q=(qji (R.take k) q).or (qji (R.drop k) q):=by rw [← fnd_app,hR]
   by_cases g:n.id=q
   · subst g
     have e1:qji (R.take k) n.id=none:=fnd_none.2 fun x hx e=>by
      have:=hlt x hx
      unfold ltN at this
      rw [e,qhf] at this; cases this
     have e2:qji (R.drop k) n.id=none:=fnd_none.2 fun x hx e=>by
      have:=hgt x hx
      unfold ltN at this
      rw [e,qhf] at this; cases this
     rw [hfR,e1,e2]
     rfl
   · rw [if_neg g,if_neg g,hfR]
     show _=Option.or _ none
     simp
section
variable {F0:List Nat} {w0 w:World} {ps rest:List As} {s t:Sl} {L R:List Nd} {n:Nd} {K:Ending→World→Prop} {k i:Nat}
 {Q:VWP} {nx1:Sl→Sl→Int→World→Prop}
theorem sorted_8 (h:St F0 w0 w (qjb 42 t (R.flatMap ndC) :: ps)) [Rdb F0 w0 s ps 42 (L.flatMap ndC)] (hL:L.length≤1000000) (hR:R.length≤1000000) (hix:i < L.length) (hk:k≤R.length)
 (hnx:∀ t' w',St F0 w0 w' (qjb 42 t' ((R.take k ++ [L[i]] ++ R.drop k).flatMap ndC) :: ps)→qp.j5 s t' (i:Int) Q nx1 w'):qp.j8 s t (i:Int) (k:Int) Q nx1 w:=by
 have hl:=h.rlen (s:=t) (f:=ndC) (L:=R)
 have hcap:=own_cap (by decide) h
 unfold qp.j8
 rw [show zc Tryz.prog 52=⟨ndC ndZ⟩ from qck]
 refine h.drewK fun w h=>?_
 refine qbk (n:=k) rfl (by omega) (qed ?_)
 refine h.rix (s:=s) (f:=ndC) (L:=L) i rfl hix fun a0 ha=>?_
 have hN:∀ {w':World} {qs:List As} {Z:Array Value→Prop},St F0 w0 w' qs→Rdb F0 w0 s qs 42 (L.flatMap ndC)→Z ⟨ndC L[i]⟩→ldA w' (a0.add (i * 42)) 42 Z:=fun h r hz=>by
  haveI:=r
  exact (h.rdb s).rA (f:=ndC) (L:=L) ha hix hz
 generalize L[i]=n at hnx hN
 have dn:(⟨ndC n⟩:Array Value).size=42:=qob _
 have hE:∀ {w':World} {qs:List As} {Z:Addr→World→Prop},St F0 w0 w' qs→(∀ e w1,St F0 w0 w1 (qjb 42 ⟨some ⟨e,0,none⟩,0,0⟩ (([]:List Nd).flatMap ndC) :: qs)→Z ⟨e,0,none⟩ w1)→nw w' ⟨qke 0 (⟨ndC ndZ⟩:Array Value).toList⟩ 52 Z:=fun h hz=>h.new fun e w h=>hz e w (by
  have h:St F0 w0 w (qnb e [] :: _):=h
  exact h.ownBR (n:=0) (by simp))
 have hS:∀ {w':World} {qs:List As} {Z:Addr→World→Prop},St F0 w0 w' qs→(∀ e w1,St F0 w0 w1 (qjb 42 ⟨some ⟨e,0,none⟩,1,1⟩ ([n].flatMap ndC) :: qs)→Z ⟨e,0,none⟩ w1)→nw w' ⟨spl (qke 1 (⟨ndC ndZ⟩:Array Value).toList) 0 ⟨ndC n⟩⟩ 52 Z:=fun h hz=>by
  rw [qjf (by rw [qob]; rfl)]
  refine h.new fun e w h=>hz e w ?_
  have h:St F0 w0 w (qnb e (ndC n) :: _):=h
  rw [qwj]
  exact h.ownBR (n:=1) (by rw [qob])
 have R4:∀ {w':World} {qs:List As} {e:Nat} {Z:Sl→World→Prop},St F0 w0 w' (qjb 42 ⟨some ⟨e,0,none⟩,0,0⟩ (([]:List Nd).flatMap ndC) :: qjb 42 t (R.flatMap ndC) :: qs)→(∀ s9 w1,St F0 w0 w1 (qjb 42 s9 ((R.take k).flatMap ndC) :: qjb 42 t (R.flatMap ndC) :: qs)→Z s9 w1) →
  rdO w' (qwd t.a t.cap 0 42) ((k - 0) * 42) fun c=>apK Tryz.prog 52 w' (some ⟨e,0,none⟩) 0 0 (k - 0) c Z:=fun h hz=>by
  haveI:Rdb F0 w0 ⟨qwd t.a t.cap 0 42,k - 0,t.cap - 0⟩ (qjb 42 ⟨some ⟨_,0,none⟩,0,0⟩ (([]:List Nd).flatMap ndC) :: qjb 42 t (R.flatMap ndC) :: _) 42 (((R.drop 0).take (k - 0)).flatMap ndC):=h.cutRR t 0 k _ (by omega) (by omega) hcap
  refine St.appR (s:=⟨some ⟨_,0,none⟩,0,0⟩) (L:=([]:List Nd)) (s2:=⟨qwd t.a t.cap 0 42,k - 0,t.cap - 0⟩) (M:=(R.drop 0).take (k - 0)) h (by simp; omega) fun s' w h1 h=>hz s' w ?_
  simpa using h
 have AP:∀ {w':World} {e:Nat} {s9:Sl} {Z:Sl→World→Prop},St F0 w0 w' (qjb 42 s9 ((R.take k).flatMap ndC) :: qjb 42 ⟨some ⟨e,0,none⟩,1,1⟩ ([n].flatMap ndC) :: qjb 42 t (R.flatMap ndC) :: ps)→(∀ s9 w1,St F0 w0 w1 (qjb 42 s9 ((R.take k ++ [n]).flatMap ndC) :: qjb 42 t (R.flatMap ndC) :: ps)→Z s9 w1) →
  rdO w' (some ⟨e,0,none⟩) (1 * 42) fun c=>apK Tryz.prog 52 w' s9.a s9.len s9.cap 1 c Z:=fun h hz=>by
  refine St.appR (s:=_) (L:=R.take k) (s2:=⟨some ⟨_,0,none⟩,1,1⟩) (M:=[n]) h (by rw [List.length_take]; simp; omega) fun s' w h1 h=>hz s' w ?_
  exact h.sub
 have fin:∀ (s15:Sl) w',St F0 w0 w' (qjb 42 s15 ((R.take k ++ [n]).flatMap ndC) :: qjb 42 t (R.flatMap ndC) :: ps) →
  bd (k:Int) t.len fun n17=>lt (⟨qwd t.a t.cap n17 42,t.len - n17,t.cap - n17⟩:Sl) fun s18=>rdO w' s18.a (s18.len * 42) fun c19=>apK Tryz.prog 52 w' s15.a s15.len s15.cap s18.len c19 fun s20 w21=>qp.j5 s s20 (i:Int) Q nx1 w21:=fun s15 w' h=>by
  refine qbk (n:=k) rfl (by omega) (qed ?_)
  have hrest:((R.drop k).take (t.len - k))=R.drop k:=List.take_of_length_le (by rw [List.length_drop]; omega)
  haveI:Rdb F0 w0 ⟨qwd t.a t.cap k 42,t.len - k,t.cap - k⟩ (qjb 42 s15 ((R.take k ++ [n]).flatMap ndC) :: qjb 42 t (R.flatMap ndC) :: ps) 42 ((R.drop k).flatMap ndC):=by
   have:=h.cutRR t k t.len (t.cap - k) (Nat.le_refl _) (by omega) hcap
   rw [hrest] at this
   exact this
  refine St.appR (s:=s15) (L:=R.take k ++ [n]) (s2:=⟨qwd t.a t.cap k 42,t.len - k,t.cap - k⟩) (M:=R.drop k) h (by simp; omega) fun s' w h1 h=>hnx s' w ?_
  exact h.at1.drop
 have B:∀ {w'},St F0 w0 w' (qjb 42 t (R.flatMap ndC) :: ps)→St F0 w0 w' (qjb 42 t (R.flatMap ndC) :: ps):=fun h=>h
 refine ⟨hE h fun e w h=>⟨?_,hN h inferInstance ⟨?_,dn,?_⟩⟩,hN h inferInstance ⟨hE h fun e w h=>⟨?_,dn,?_⟩,dn,?_⟩⟩
 · exact R4 h fun s9 w h=>hN h inferInstance ⟨dn,hS h fun e2 w h=>AP h.at1 fun s w h=>fin s w h⟩
 · exact R4 h fun s9 w h=>⟨dn,hS h fun e2 w h=>AP h.at1 fun s w h=>fin s w h⟩
 · exact hS h fun e2 w h=>R4 (h.at1.tail fun _ _ _ h=>h.at1) fun s9 w h=>AP (h.tail fun _ _ _ h=>h.at1) fun s w h=>fin s w h
 · exact R4 h fun s9 w h=>⟨dn,hS h fun e2 w h=>AP h.at1 fun s w h=>fin s w h⟩
 · exact hS h fun e2 w h=>R4 (h.at1.tail fun _ _ _ h=>h.at1) fun s9 w h=>AP (h.tail fun _ _ _ h=>h.at1) fun s w h=>fin s w h
 · exact hS h fun e2 w h=>hE h fun e w h=>R4 (h.tail fun _ _ _ h=>h.at1) fun s9 w h=>AP (h.tail fun _ _ _ h=>h.at1) fun s w h=>fin s w h
theorem qxk.c (h:St F0 w0 w ps) [Rdb F0 w0 s ps 42 (L.flatMap ndC)] (hL:L.length≤1000000)
 (hk:∀ R t w',SrtN L R→t.len=R.length→R.length≤L.length→St F0 w0 w' (qjb 42 t (R.flatMap ndC) :: ps)→K (.returned (sV t)) w') :
 Calls Tryz.prog 51 ⟨[sV s]⟩ w K:=by
 have hl:=h.rlen (s:=s) (f:=ndC) (L:=L)
 refine qec (qp.ok _ _ _ ?_)
 unfold qp qp.j1 qp.j3
 refine qbf (fun (a:Nat × List Nd) (t:Sl) (i':Int) w'=>i'=(a.1:Int)∧a.1≤L.length∧a.2.length≤a.1∧SrtN (L.take a.1) a.2∧St F0 w0 w' (qjb 42 t (a.2.flatMap ndC) :: ps)) (fun a=>L.length - a.1) (0,[]) ⟨rfl,Nat.zero_le _,Nat.le_refl _,⟨List.Pairwise.nil,fun k=>rfl⟩,h.nilO⟩ ?_
 clear h
 rintro ⟨i,R⟩ t _ wL I μ ⟨rfl,hi,hRi,hS,h⟩ hin
 simp only at hi hRi hS h hin ⊢
 unfold qp.b1
 have hlR:=h.rlen (s:=t) (f:=ndC) (L:=R)
 refine qmc (fun g=>?_) (fun g=>?_)
 · have hix:i < L.length:=by omega
   have hsn:L.take (i+1)=L.take i ++ [L[i]]:=List.take_succ_eq_append_getElem hix
   have nx5:∀ R' t' w',R'.length≤i+1→SrtN (L.take (i+1)) R'→St F0 w0 w' (qjb 42 t' (R'.flatMap ndC) :: ps)→qp.j5 s t' (i:Int) (fun v w'=>K (.returned v) w') (fun d t3 t4 w=>(d=s)∧I t3 t4 w∧μ t3 t4 w < μ t (i:Int) wL) w':=fun R' t' w' h1 h2 h3=>by
    unfold qp.j5
    refine qy (e':=((i+1:Nat):Int)) (by rw [qm (by omega) (by omega)]; rfl) ?_
    exact ⟨rfl,hin (i+1,R') _ _ _ ⟨rfl,by simp only; omega,h1,h2,h3⟩ (by simp only; omega)⟩
   unfold qp.j4 qp.j6
   refine qud (fun (k:Nat) (k':Int) w'=>k'=(k:Int)∧k≤R.length∧(∀ j (hj:j < R.length),j < k→ltN R[j] L[i]=true)∧St F0 w0 w' (qjb 42 t (R.flatMap ndC) :: ps)) (fun k=>R.length - k) 0 ⟨rfl,Nat.zero_le _,fun j _ hj=>by omega,h⟩ ?_
   clear h
   rintro k _ wL2 I2 μ2 ⟨rfl,hk2,hlt,h⟩ hnx
   have ins:∀ w,(∀ hj:k < R.length,ltN R[k] L[i]=false∧R[k].id ≠ L[i].id)→St F0 w0 w (qjb 42 t (R.flatMap ndC) :: ps)→qp.j8 s t (i:Int) (k:Int) (fun v w'=>K (.returned v) w') (fun d t3 t4 w=>(d=s)∧I t3 t4 w∧μ t3 t4 w < μ t (i:Int) wL) w:=fun w h2 h=>by
    refine sorted_8 (L:=L) (R:=R) h hL (by omega) hix hk2 fun t' w' h=>?_
    refine nx5 _ t' w' ?_ ?_ h
    · simp only [List.length_append,List.length_take,List.length_drop,List.length_singleton]; omega
    · rw [hsn]
      exact hS.ins hk2 hlt h2
   have j7:∀ w,(∀ hj:k < R.length,ltN R[k] L[i]=false)→St F0 w0 w (qjb 42 t (R.flatMap ndC) :: ps)→qp.j7 s t (i:Int) (k:Int) (fun v w'=>K (.returned v) w') (fun d t3 t4 w=>(d=s)∧I t3 t4 w∧μ t3 t4 w < μ t (i:Int) wL) w:=fun w h2 h=>by
    unfold qp.j7
    refine h.drewK fun w h=>?_
    refine qmc (fun g2=>?_) (fun g2=>?_)
    · have hkx:k < R.length:=by omega
      refine h.lrId (s:=t) (L:=R) k rfl hkx ?_
      refine h.lrId (s:=s) (L:=L) i rfl hix ?_
      refine eqA_i (xs:=R[k].id) (ys:=L[i].id) R[k].hid L[i].hid ?_
      refine qnc (fun g3=>?_) (fun g3=>?_)
      · refine nx5 R t w (by omega) ?_ h
        rw [hsn]
        exact hS.skip (List.getElem_mem hkx) (by simpa using g3)
      · exact ins w (fun hj=>⟨h2 hj,by simpa using g3⟩) h
    · exact ins w (fun hj=>by exfalso; omega) h
   unfold qp.b2
   refine h.drewK fun w h=>?_
   refine qmc (fun g2=>?_) (fun g2=>?_)
   · have hkx:k < R.length:=by omega
     refine h.lrId (s:=t) (L:=R) k rfl hkx ?_
     refine h.lrId (s:=s) (L:=L) i rfl hix ?_
     refine ref_Less.c (p:=R[k].nm) (q:=L[i].nm) h fun w h=>⟨_,rfl,?_⟩
     refine qnc (fun g3=>?_) (fun g3=>?_)
     · refine qy (e':=((k+1:Nat):Int)) (by rw [qm (by omega) (by omega)]; rfl) ?_
       refine ⟨⟨rfl,rfl,rfl⟩,hnx (k+1) _ _ ⟨rfl,by omega,fun j hj hjk=>?_,h⟩ (by omega)⟩
       by_cases e:j=k
       · subst e; exact g3
       · exact hlt j hj (by omega)
     · have g3:ltI R[k].nm.1 L[i].nm.1=false:=by simpa using g3
       exact j7 w (fun _=>g3) h
   · exact j7 w (fun hj=>by exfalso; omega) h
 · have:i=L.length:=by omega
   subst this
   rw [List.take_length] at hS
   unfold qp.j2
   exact hk R t wL hS (by omega) hRi h
end
end Go.Proofs.YtigmbblgfnkpbaaGreat
namespace Go.Proofs.YtigmbblgfnkpbaaGreat
open Go Go.Proofs
set_option linter.unusedVariables false
set_option linter.unusedSimpArgs false
attribute [local irreducible] apK cpK mkK br
theorem qaj:∀ {L:List Nd} {q:Nm},atD L q < 0 ↔ q ∉ L.map Nd.nm:=by
 intro L
 induction L with
 | nil=>intro q; simp [atD]
 | cons n L ih =>
   intro q
   rw [atD,List.map_cons,List.mem_cons]
   by_cases g:n.id=q.1
   · rw [if_pos g]
     have:q=n.nm:=(qgk.2 g).symm
     simp [this]
   · rw [if_neg g]
     have hne:¬ q=n.nm:=fun e=>g (qgk.1 e.symm)
     by_cases g2:atD L q < 0
     · rw [if_pos g2]
       have:=ih.1 g2
       simp [hne,this]
     · rw [if_neg g2]
       have:q ∈ L.map Nd.nm:=Classical.byContradiction fun e=>g2 (ih.2 e)
       constructor
       · intro; omega
       · intro h; exact absurd (Or.inr this) h
theorem qlm {U:List Nd} {P:List Nm}:allD U P=true ↔ ∀ p ∈ P,p ∈ U.map Nd.nm:=by
 unfold allD
 rw [List.all_eq_true]
 constructor
 · intro h p hp
   have:=h p hp
   simp only [decide_eq_true_eq] at this
   exact Classical.byContradiction fun e=>by have:=qaj.2 e; omega
 · intro h p hp
   simp only [decide_eq_true_eq]
   have:¬ atD U p < 0:=fun e=>qaj.1 e (h p hp)
   omega
theorem fC_fnd (pr:Nd→List Nm) (L:List Nd) (k:Nm):fC (L.map (cmN pr)) k=(qji L k.1).map pr:=by
 rw [qul,find_cm,Option.map_map]
 rfl
theorem SrtN.sub {L S:List Nd} (h:SrtN L S) {n:Nd} (hn:n ∈ S):n ∈ L∧qji L n.id=some n:=by
 have:=qfl h.ris.nd hn
 rw [h.fnd] at this
 exact ⟨(qkk this).1,this⟩
theorem nm_nodup {S:List Nd} (h:(S.map (·.id)).Nodup):(S.map Nd.nm).Nodup:=by
 unfold List.Nodup at h ⊢
 rw [List.pairwise_map] at h ⊢
 exact h.imp fun hab e=>hab (qgk.1 e)
section
variable {F0:List Nat} {w0 w:World} {ps rest:List As} {s t:Sl} {L R:List Nd} {n:Nd} {pr:Nd→List Nm} {K:Ending→World→Prop}
theorem ref_Closed.c (h:St F0 w0 w ps) [Rdb F0 w0 s ps 42 (L.flatMap ndC)] (hL:L.length≤1000000) (hpr:∀ n ∈ L,(pr n).length≤1000000) (hP:∀ n ∈ L,Rdb F0 w0 n.par ps 20 ((pr n).flatMap nmC))
 (hk:∀ (O:List Nm) R t w',O.Nodup→EnF (fC (L.map (cmN pr))) false O→MostF (fC (L.map (cmN pr))) false O→RisN R→(∀ n,n ∈ R ↔ n.nm ∈ O∧qji L n.id=some n)→t.len=R.length→R.length≤L.length→St F0 w0 w' (qjb 42 t (R.flatMap ndC) :: ps)→K (.returned (sV t)) w') :
 Calls Tryz.prog 15 ⟨[sV s]⟩ w K:=by
 refine qec (qr.ok _ _ _ ?_)
 unfold qr qr.j1
 refine qxk.c h hL fun S s w hS hsl hSL h=>⟨s,rfl,?_⟩
 have hf:∀ k:Nm,fC (L.map (cmN pr)) k=(qji S k.1).map pr:=fun k=>by rw [fC_fnd,hS.fnd]
 generalize fC (L.map (cmN pr))=f at hk hf
 have hndS:=nm_nodup hS.ris.nd
 have hlS:=h.rlen (s:=s) (f:=ndC) (L:=S)
 have hf1:∀ n ∈ S,f n.nm=some (pr n):=fun n hn=>by rw [hf]; show (qji S n.id).map pr=_; rw [qfl hS.ris.nd hn]; rfl
 have ulen:∀ {U:List Nd},(∀ n ∈ U,n ∈ S)→(U.map Nd.nm).Nodup→U.length≤S.length:=fun {U} h1 h2=>by
  have:=qkg (O:=U.map Nd.nm) (S:=S.map Nd.nm) h2 fun x hx=>by
   obtain ⟨n,hn,rfl⟩:=List.mem_map.1 hx
   exact List.mem_map.2 ⟨n,h1 n hn,rfl⟩
  simpa using this
 unfold qr.j2 qr.j4
 refine qbf (fun (a:List Nd × Bool) (o:Sl) (ag:Bool) w'=>ag=a.2∧(∀ n ∈ a.1,n ∈ S)∧(a.1.map Nd.nm).Nodup∧EnF f false (a.1.map Nd.nm)∧(a.2=false→MostF f false (a.1.map Nd.nm))∧St F0 w0 w' (qjb 42 o (a.1.flatMap ndC) :: qjb 42 s (S.flatMap ndC) :: ps)) (fun a=>2 * (S.length - a.1.length)+a.2.toNat) ([],true) ⟨rfl,by simp,List.nodup_nil,.nil,(fun e=>by cases e),h.nilO⟩ ?_
 clear h
 rintro ⟨U,ag⟩ o0 _ wL I μ ⟨rfl,hU,hnd,hen,hmo,h⟩ hin
 simp only at hU hnd hen hmo h hin ⊢
 have hUl:=ulen hU hnd
 unfold qr.b1
 refine qnc (fun g=>?_) (fun g=>?_)
 · subst g
   unfold qr.j5 qr.j6
   refine loop3 (fun (a:List Nd × Nat) (o:Sl) (ag:Bool) (i':Int) w'=>i'=(a.2:Int)∧a.2≤S.length∧(∀ n ∈ a.1,n ∈ S)∧(a.1.map Nd.nm).Nodup∧EnF f false (a.1.map Nd.nm)∧U.length≤a.1.length∧ag=decide (U.length < a.1.length)∧(a.1.length=U.length→∀ j (hj:j < S.length),j < a.2→S[j].nm ∈ a.1.map Nd.nm ∨ allD a.1 (pr S[j])=false)∧St F0 w0 w' (qjb 42 o (a.1.flatMap ndC) :: qjb 42 s (S.flatMap ndC) :: ps)) (fun a=>S.length - a.2) (U,0)
    ⟨rfl,Nat.zero_le _,hU,hnd,hen,Nat.le_refl _,by simp,fun _ j _ hj=>by omega,h⟩ ?_
   clear h hU hnd hen hmo
   rintro ⟨V,i⟩ o _ _ wL2 I2 μ2 ⟨rfl,hi,hV,hnd,hen,hUV,rfl,hmo,h⟩ hnx
   simp only at hi hV hnd hen hUV hmo h hnx ⊢
   have hVl:=ulen hV hnd
   unfold qr.b2
   refine qmc (fun g=>?_) (fun g=>?_)
   · have hix:i < S.length:=by omega
     have hSi:=List.getElem_mem hix
     have hLi:=hS.sub hSi
     have skip:∀ w,(S[i].nm ∈ V.map Nd.nm ∨ allD V (pr S[i])=false)→St F0 w0 w (qjb 42 o (V.flatMap ndC) :: qjb 42 s (S.flatMap ndC) :: ps)→qr.j8 s o (decide (U.length < V.length)) (i:Int) (fun v w'=>K (.returned v) w') (fun s_3' out_4' again_5' w'=>(s_3'=s)∧I out_4' again_5' w'∧μ out_4' again_5' w' < μ o0 true wL) (fun s_3' out_4' again_5' i_6' w'=>(s_3'=s)∧I2 out_4' again_5' i_6' w'∧μ2 out_4' again_5' i_6' w' < μ2 o (decide (U.length < V.length)) (i:Int) wL2) w:=fun w hs h=>by
      unfold qr.j8
      refine qy (e':=((i+1:Nat):Int)) (by rw [qm (by omega) (by omega)]; rfl) ?_
      refine ⟨rfl,hnx (V,i+1) _ _ _ _ ⟨rfl,by simp only; omega,hV,hnd,hen,hUV,rfl,fun e j hj hji=>?_,h⟩ (by simp only; omega)⟩
      by_cases e2:j=i
      · subst e2; exact hs
      · exact hmo e j hj (by simp only at hji; omega)
     unfold qr.j7
     have h2:St F0 w0 wL2 (qjb 42 s (S.flatMap ndC) :: qjb 42 o (V.flatMap ndC) :: ps):=h.at1
     refine h2.lrId (s:=s) (L:=S) i rfl hix ?_
     refine quj.c (L:=V) (q:=S[i].nm) h (by omega) fun w h=>⟨_,rfl,?_⟩
     refine qmc (fun g2=>?_) (fun g2=>?_)
     · have hno:S[i].nm ∉ V.map Nd.nm:=qaj.1 g2
       refine h.lr (s:=s) (f:=ndC) (L:=S) i rfl hix ?_
       haveI:=hP _ hLi.1
       refine ref_all.c (n:=S[i]) (L:=V) (P:=pr S[i]) h (by omega) (hpr _ hLi.1) fun w h=>⟨_,rfl,?_⟩
       unfold qr.j9
       refine qnc (fun g3=>?_) (fun g3=>?_)
       · refine h.lr (s:=s) (f:=ndC) (L:=S) i rfl hix ⟨qob _,?_⟩
         rw [qjf (by rw [qob,qck]; rfl)]
         refine h.pushR (s:=o) (L:=V) (x:=S[i]) (by omega) rfl fun s' w' hs h=>?_
         unfold qr.j8
         refine qy (e':=((i+1:Nat):Int)) (by rw [qm (by omega) (by omega)]; rfl) ?_
         have em:(V ++ [S[i]]).map Nd.nm=V.map Nd.nm ++ [S[i].nm]:=by simp
         refine ⟨rfl,hnx (V ++ [S[i]],i+1) _ _ _ _ ⟨rfl,by simp only; omega,fun n hn=>?_,?_,?_,?_,?_,fun e=>?_,h.sub⟩ (by simp only; omega)⟩
         · rcases List.mem_append.1 hn with hn | hn
           · exact hV n hn
           · have:n=S[i]:=by simpa using hn
             rw [this]; exact hSi
         · simp only
           rw [em,List.nodup_append]
           exact ⟨hnd,by simp,fun a ha b hb e=>hno (by
            have:b=S[i].nm:=by simpa using hb
            rw [← this,← e]; exact ha)⟩
         · simp only
           rw [em]
           have hall:=qlm.1 g3
           refine .snoc hen (hf1 _ hSi) ?_ fun p hp _=>hall p hp
           unfold fineF
           rw [Bool.false_or,List.all_eq_true]
           intro p hp
           obtain ⟨m,hm,e⟩:=List.mem_map.1 (hall p hp)
           rw [← e,hf1 m (hV m hm)]
           rfl
         · simp only [List.length_append,List.length_singleton]; omega
         · simp only [List.length_append,List.length_singleton]
           exact (decide_eq_true (by omega)).symm
         · simp only [List.length_append,List.length_singleton] at e
           exfalso; omega
       · exact skip w (Or.inr (by simpa using g3)) h
     · unfold qr.j9
       refine qnc (fun g3=>by cases g3) (fun _=>?_)
       exact skip w (Or.inl (Classical.byContradiction fun e=>g2 (qaj.2 e))) h
   · have:i=S.length:=by omega
     subst this
     refine ⟨rfl,hin (V,decide (U.length < V.length)) _ _ _ ⟨rfl,hV,hnd,hen,fun e=>?_,h⟩ ?_⟩
     · have e:V.length=U.length:=by
        have:=of_decide_eq_false e
        omega
       intro k qs hfk hfine hall
       rw [hf] at hfk
       cases hn:qji S k.1 with
       | none=>rw [hn] at hfk; cases hfk
       | some n =>
         rw [hn] at hfk
         injection hfk with hfk
         subst hfk
         obtain ⟨hnS,hnk⟩:=qkk hn
         have hk':n.nm=k:=qgk.2 hnk
         obtain ⟨j,hj,rfl⟩:=List.getElem_of_mem hnS
         rcases hmo e j hj hj with h1 | h1
         · rw [← hk']; exact h1
         · exfalso
           have:allD V (pr S[j])=true:=qlm.2 fun p hp=>hall p hp (by
            unfold fineF at hfine
            rw [Bool.false_or,List.all_eq_true] at hfine
            exact hfine p hp)
           rw [this] at h1; cases h1
     · simp only
       by_cases e:U.length < V.length
       · rw [decide_eq_true e]; simp only [Bool.toNat_true]; omega
       · rw [decide_eq_false e]; simp only [Bool.toNat_true,Bool.toNat_false]; omega
 · unfold qr.j3
   refine qxk.c (s:=o0) (L:=U) h (by omega) fun R t w hR ht hRU h=>⟨t,rfl,?_⟩
   refine hk (U.map Nd.nm) R t w hnd hen (hmo g) hR.ris (fun n=>?_) ht (by omega) (h.tail fun _ _ _ h=>h.drop.drop)
   have hUi:(U.map (·.id)).Nodup:=by
    unfold List.Nodup at hnd ⊢
    rw [List.pairwise_map] at hnd ⊢
    exact hnd.imp fun hab e=>hab (qgk.2 e)
   have hRm:=(hR.perm hUi).mem_iff (a:=n)
   rw [hRm]
   constructor
   · intro hm
     exact ⟨List.mem_map.2 ⟨n,hm,rfl⟩,(hS.sub (hU n hm)).2⟩
   · rintro ⟨h1,h2⟩
     obtain ⟨u,hu,e⟩:=List.mem_map.1 h1
     have h3:=(hS.sub (hU u hu)).2
     have e:u.id=n.id:=qgk.1 e
     rw [e,h2] at h3
     injection h3 with h3
     rw [h3]; exact hu
end
end Go.Proofs.YtigmbblgfnkpbaaGreat
namespace Go.Proofs.YtigmbblgfnkpbaaGreat
open Go Go.Proofs
set_option linter.unusedVariables false
set_option linter.unusedSimpArgs false
attribute [local irreducible] apK cpK mkK br
theorem atD_get:∀ {L:List Nd} {q:Nm} (h:0≤atD L q),∃ hj:(atD L q).toNat < L.length,L[(atD L q).toNat].nm=q:=by
 intro L q h
 have hm:q ∈ L.map Nd.nm:=Classical.byContradiction fun e=>by have:=qaj.2 e; omega
 obtain ⟨n,hn,e⟩:=List.mem_map.1 hm
 have:∀ {M:List Nd},0≤atD M q→∃ hj:(atD M q).toNat < M.length,M[(atD M q).toNat].nm=q:=by
  intro M
  induction M with
  | nil=>intro h; simp [atD] at h
  | cons m M ih =>
    intro h
    rw [atD] at h
    by_cases g:m.id=q.1
    · have e:atD (m :: M) q=0:=by rw [atD,if_pos g]
      simp only [e]
      exact ⟨by simp,qgk.2 g⟩
    · rw [if_neg g] at h
      by_cases g2:atD M q < 0
      · rw [if_pos g2] at h; omega
      · obtain ⟨hj,e1⟩:=ih (by omega)
        have e:(atD (m :: M) q).toNat=(atD M q).toNat+1:=by rw [atD,if_neg g,if_neg g2]; omega
        simp only [e]
        exact ⟨by rw [List.length_cons]; omega,by simpa using e1⟩
 exact this h
theorem qmn {L:List Nd} (hn:(L.map (·.id)).Nodup) {i:Nat} (hi:i < L.length):atD L L[i].nm=i :=
 atD_hit hi rfl fun j hj hji e=>by
  unfold List.Nodup at hn
  rw [List.pairwise_map] at hn
  exact List.pairwise_iff_getElem.1 hn j i hj hi hji e
theorem nd_of_at {L:List Nd} (h:∀ i (hi:i < L.length),atD L L[i].nm=i):(L.map (·.id)).Nodup:=by
 unfold List.Nodup
 rw [List.pairwise_map,List.pairwise_iff_getElem]
 intro a b ha hb hab e
 have h1:=h a ha
 have h2:=h b hb
 have:L[a].nm=L[b].nm:=qgk.2 e
 rw [this,h2] at h1
 omega
theorem mxF_app (g:Nm→Int) (O:List Nm) (p:Nm):∀ ps,mxF g O (ps ++ [p])=max (mxF g O ps) (if p ∈ O then g p+1 else 0):=by
 intro ps
 induction ps with
 | nil=>show (if p ∈ O then max (g p+1) 0 else 0)=max 0 (if p ∈ O then g p+1 else 0); split <;> omega
 | cons q ps ih =>
   rw [List.cons_append,mxF,mxF,ih]
   split
   · omega
   · rfl
def gF (L:List Nd) (gl:List Int) (q:Nm):Int:=if atD L q < 0 then 0 else gl.getD (atD L q).toNat 0
structure GnS (L:List Nd) (f:Nm→Option (List Nm)) (gl:List Int) (O:List Nm):Prop where
 len:gl.length=L.length
 nd:O.Nodup
 en:EnF f true O
 dn:∀ j (h:j < L.length),(L[j].nm ∈ O→1≤gl.getD j 0)∧(L[j].nm ∉ O→gl.getD j 0=0)
 gens:∀ c ps,c ∈ O→f c=some ps→gF L gl c=max 1 (mxF (gF L gl) O ps)
 bd:∀ q,gF L gl q≤O.length
theorem mxF_le {g:Nm→Int} {B:Int} (hB:0≤B) (h:∀ q,g q+1≤B) (O:List Nm):∀ ps,mxF g O ps≤B:=by
 intro ps
 induction ps with
 | nil=>exact hB
 | cons p ps ih =>
   rw [mxF]
   have:=h p
   split <;> omega
theorem GnS.step {L:List Nd} {f:Nm→Option (List Nm)} {gl:List Int} {O:List Nm} (h:GnS L f gl O) (hn:(L.map (·.id)).Nodup) {pr:Nd→List Nm} (hf:∀ k:Nm,f k=(qji L k.1).map pr) {i:Nat} (hi:i < L.length) (hO:L[i].nm ∉ O) (hp:∀ p ∈ pr L[i],(f p).isSome=true→p ∈ O) :
 GnS L f (gl.set i (max 1 (mxF (gF L gl) O (pr L[i])))) (O ++ [L[i].nm]):=by
 have hfi:f L[i].nm=some (pr L[i]):=by
  rw [hf]
  show (qji L L[i].id).map pr=_
  rw [qfl hn (List.getElem_mem hi)]
  rfl
 generalize hv:max 1 (mxF (gF L gl) O (pr L[i]))=v
 have hset:∀ j,j < L.length→(gl.set i v).getD j 0=if i=j then v else gl.getD j 0:=fun j hj=>getD_setL (by rw [h.len]; exact hi)
 have hgF:∀ q,q ≠ L[i].nm→gF L (gl.set i v) q=gF L gl q:=by
  intro q hq
  unfold gF
  by_cases g:atD L q < 0
  · rw [if_pos g,if_pos g]
  · rw [if_neg g,if_neg g]
    obtain ⟨hj,e⟩:=atD_get (L:=L) (q:=q) (by omega)
    rw [hset _ hj,if_neg fun e2=>hq (by
     subst e2
     exact e.symm)]
 have hgi:gF L (gl.set i v) L[i].nm=v:=by
  unfold gF
  rw [qmn hn hi,if_neg (by omega),Int.toNat_natCast,hset i hi,if_pos rfl]
 have hno:L[i].nm ∉ pr L[i]:=fun e=>hO (hp _ e (by rw [hfi]; rfl))
 have hmx:∀ ps,L[i].nm ∉ ps→mxF (gF L (gl.set i v)) (O ++ [L[i].nm]) ps=mxF (gF L gl) O ps:=by
  intro ps hps
  refine mxF_same fun p hpp=>?_
  have hne:p ≠ L[i].nm:=fun e=>hps (e ▸ hpp)
  exact ⟨by simp [hne],fun _=>hgF p hne⟩
 refine ⟨by rw [List.length_set]; exact h.len,?_,.snoc h.en hfi rfl hp,fun j hj=>?_,fun c ps hc hfc=>?_,fun q=>?_⟩
 · rw [List.nodup_append]
   exact ⟨h.nd,by simp,fun a ha b hb e=>hO (by
    have:b=L[i].nm:=by simpa using hb
    rw [← this,← e]; exact ha)⟩
 · rw [hset j hj]
   by_cases e:i=j
   · subst e
     rw [if_pos rfl]
     exact ⟨fun _=>by omega,fun e=>absurd (by simp) e⟩
   · rw [if_neg e]
     have hne:L[j].nm ≠ L[i].nm:=fun e2=>by
      have h1:=qmn hn hj
      rw [e2,qmn hn hi] at h1
      omega
     have:=h.dn j hj
     exact ⟨fun hm=>this.1 (by simpa [hne] using hm),fun hm=>this.2 fun h2=>hm (by simp [h2])⟩
 · rcases List.mem_append.1 hc with hc | hc
   · have hne:c ≠ L[i].nm:=fun e=>hO (e ▸ hc)
     rw [hgF c hne,h.gens c ps hc hfc,hmx]
     intro hps
     obtain ⟨ms,k1,_,k3⟩:=h.en.dom c hc
     rw [hfc] at k1
     injection k1 with k1
     subst k1
     exact hO (k3 _ hps (by rw [hfi]; rfl))
   · have:c=L[i].nm:=by simpa using hc
     subst this
     rw [hfi] at hfc
     injection hfc with hfc
     subst hfc
     rw [hgi,hmx _ hno]
     exact hv.symm
 · rw [List.length_append,List.length_singleton]
   have hb:=h.bd
   by_cases e:q=L[i].nm
   · subst e
     rw [hgi]
     have:=mxF_le (g:=gF L gl) (B:=(O.length:Int)+1) (by omega) (fun q=>by have:=hb q; omega) O (pr L[i])
     omega
   · rw [hgF q e]
     have:=hb q
     omega
end Go.Proofs.YtigmbblgfnkpbaaGreat
namespace Go.Proofs.YtigmbblgfnkpbaaGreat
open Go Go.Proofs
set_option linter.unusedVariables false
set_option linter.unusedSimpArgs false
attribute [local irreducible] apK cpK mkK br
section
variable {F0:List Nat} {w0 w:World} {ps rest:List As} {s t:Sl} {L R:List Nd} {n:Nd} {pr:Nd→List Nm} {K:Ending→World→Prop} {gl:List Int} {O:List Nm}
theorem qgl {p:Nm}:(fC (L.map (cmN pr)) p).isSome=true ↔ 0≤atD L p:=by
 rw [qrh,List.map_map]
 have e:(fun c:Cm=>c.id) ∘ cmN pr=Nd.nm:=by funext n; rfl
 rw [e]
 have:=qaj (L:=L) (q:=p)
 constructor
 · intro h
   exact Classical.byContradiction fun e=>this.1 (by omega) h
 · intro h
   exact Classical.byContradiction fun e=>by have:=this.2 e; omega
theorem GnS.at (h:GnS L (fC (L.map (cmN pr))) gl O) {p:Nm} (hp:0≤atD L p):∃ hj:(atD L p).toNat < L.length,gl.getD (atD L p).toNat 0=gF L gl p∧(p ∈ O→1≤gF L gl p)∧(p ∉ O→gF L gl p=0):=by
 obtain ⟨hj,e⟩:=atD_get hp
 have:=h.dn _ hj
 rw [e] at this
 have e2:gl.getD (atD L p).toNat 0=gF L gl p:=by unfold gF; rw [if_neg (by omega)]
 rw [e2] at this
 exact ⟨hj,e2,this⟩
theorem GnS.le (h:GnS L (fC (L.map (cmN pr))) gl O):O.length≤L.length:=by
 have:=qkg (O:=O) (S:=L.map Nd.nm) h.nd fun q hq=>by
  obtain ⟨ps,h1,_⟩:=h.en.dom q hq
  have:(fC (L.map (cmN pr)) q).isSome=true:=by rw [h1]; rfl
  rw [qrh,List.map_map] at this
  exact this
 simpa using this
theorem qoi.c (h:St F0 w0 w ps) [Rdb F0 w0 s ps 42 (L.flatMap ndC)] (hL:L.length≤1000000) (hpr:∀ n ∈ L,(pr n).length≤1000000) (hP:∀ n ∈ L,Rdb F0 w0 n.par ps 20 ((pr n).flatMap nmC))
 (hk1:¬ (L.map (·.id)).Nodup→∀ w',St F0 w0 w' ps→K (.returned (.tuple ⟨[.slice none 0 0,.int .i64 9]⟩)) w')
 (hk2:(L.map (·.id)).Nodup→∀ O g w',Wk (fC (L.map (cmN pr))) true O g→O.length < L.length→St F0 w0 w' ps→K (.returned (.tuple ⟨[.slice none 0 0,.int .i64 12]⟩)) w')
 (hk3:(L.map (·.id)).Nodup→∀ O gl t w',Wk (fC (L.map (cmN pr))) true O (gF L gl)→L.length≤O.length→GnS L (fC (L.map (cmN pr))) gl O→t.len=L.length→St F0 w0 w' (qjb 1 t (ivs .i64 gl) :: ps)→K (.returned (.tuple ⟨[sV t,.int .i64 0]⟩)) w') :
 Calls Tryz.prog 18 ⟨[sV s]⟩ w K:=by
 have hl:=h.rlen (s:=s) (f:=ndC) (L:=L)
 refine qec (qe.ok _ _ _ ?_)
 unfold qe qe.j1 qe.j13
 refine qud (fun (i:Nat) (i':Int) w'=>i'=(i:Int)∧i≤L.length∧(∀ j (hj:j < L.length),j < i→atD L L[j].nm=j)∧St F0 w0 w' ps) (fun i=>L.length - i) 0 ⟨rfl,Nat.zero_le _,fun j _ hj=>by omega,h⟩ ?_
 clear h
 rintro i _ wL I μ ⟨rfl,hi,hat,h⟩ hin
 unfold qe.b4
 refine qmc (fun g=>?_) (fun g=>?_)
 · have hix:i < L.length:=by omega
   refine h.lrId (s:=s) (L:=L) i rfl hix ?_
   refine quj.c (L:=L) (q:=L[i].nm) h hL fun w h=>⟨_,rfl,?_⟩
   refine qnc (fun g2=>?_) (fun g2=>?_)
   · refine hk1 (fun hn=>?_) w h
     rw [qmn hn hix] at g2
     simp at g2
   · refine qy (e':=((i+1:Nat):Int)) (by rw [qm (by omega) (by omega)]; rfl) ?_
     refine ⟨rfl,hin (i+1) _ _ ⟨rfl,by omega,fun j hj hji=>?_,h⟩ (by omega)⟩
     by_cases e:j=i
     · subst e; simpa using g2
     · exact hat j hj (by omega)
 have hix:i=L.length:=by omega
 subst hix
 have hn:(L.map (·.id)).Nodup:=nd_of_at fun j hj=>hat j hj hj
 clear hat hin hk1
 unfold qe.j2
 refine h.makeI (n:=L.length) (k:=.i64) (by omega) (by omega) (by omega) fun o w ho _ h=>?_
 have hf:∀ k:Nm,fC (L.map (cmN pr)) k=(qji L k.1).map pr:=fC_fnd pr L
 have hg0:∀ q,gF L (List.replicate L.length 0) q=0:=fun q=>by
  unfold gF
  split
  · rfl
  · simp [List.getD,List.getElem?_replicate]
    split <;> rfl
 unfold qe.j3 qe.j5
 refine qbf (fun (a:List Int × List Nm × Bool) (c:Int) (ag:Bool) w'=>c=(a.2.1.length:Int)∧ag=a.2.2∧GnS L (fC (L.map (cmN pr))) a.1 a.2.1∧(a.2.2=false→MostF (fC (L.map (cmN pr))) true a.2.1)∧St F0 w0 w' (qjb 1 o (ivs .i64 a.1) :: ps)) (fun a=>2 * (L.length - a.2.1.length)+a.2.2.toNat) (List.replicate L.length 0,[],true)
  ⟨rfl,rfl,⟨by simp,List.nodup_nil,.nil,fun j hj=>⟨(fun e=>by cases e),fun _=>by simp [List.getD,hj]⟩,(fun c ps hc=>by cases hc),fun q=>by rw [hg0]; exact Int.le_refl _⟩,(fun e=>by cases e),h⟩ ?_
 clear h hg0
 rintro ⟨gl0,O0,ag⟩ _ _ w1 I1 μ1 ⟨rfl,rfl,hG,hmo,h⟩ hin
 simp only at hG hmo h hin ⊢
 have hle:=hG.le
 unfold qe.b1
 refine qnc (fun g=>?_) (fun g=>?_)
 · subst g
   unfold qe.j6 qe.j7
   refine loop3 (fun (a:List Int × List Nm × Nat) (c:Int) (ag:Bool) (i':Int) w'=>c=(a.2.1.length:Int)∧ag=decide (O0.length < a.2.1.length)∧i'=(a.2.2:Int)∧a.2.2≤L.length∧O0.length≤a.2.1.length∧GnS L (fC (L.map (cmN pr))) a.1 a.2.1∧(a.2.1.length=O0.length→∀ j (hj:j < L.length),j < a.2.2→L[j].nm ∈ a.2.1 ∨ ∃ p ∈ pr L[j],0≤atD L p∧p ∉ a.2.1)∧St F0 w0 w' (qjb 1 o (ivs .i64 a.1) :: ps)) (fun a=>L.length - a.2.2) (gl0,O0,0)
    ⟨rfl,by simp,rfl,Nat.zero_le _,Nat.le_refl _,hG,fun _ j _ hj=>absurd hj (Nat.not_lt_zero _),h⟩ ?_
   clear h hG hmo
   rintro ⟨gl,O,i⟩ _ _ _ w2 I2 μ2 ⟨rfl,rfl,rfl,hi,hOO,hG,hmo,h⟩ hnx
   simp only at hi hOO hG hmo h hnx ⊢
   have hle:=hG.le
   unfold qe.b2
   refine qmc (fun g=>?_) (fun g=>?_)
   · have hix:i < L.length:=by omega
     have hgll:=hG.len
     have nx9:∀ w,(L[i].nm ∈ O ∨ ∃ p ∈ pr L[i],0≤atD L p∧p ∉ O)→St F0 w0 w (qjb 1 o (ivs .i64 gl) :: ps)→qe.j9 s o (O.length:Int) (decide (O0.length < O.length)) (i:Int) (fun v w'=>K (.returned v) w') (fun d_0' t5' t6' t7' w'=>(d_0'=s∧t5'=o)∧I1 t6' t7' w'∧μ1 t6' t7' w' < μ1 (O0.length:Int) true w1) (fun d_0' t5' t6' t7' t8' w'=>(d_0'=s∧t5'=o)∧I2 t6' t7' t8' w'∧μ2 t6' t7' t8' w' < μ2 (O.length:Int) (decide (O0.length < O.length)) (i:Int) w2) w:=fun w hs h=>by
      unfold qe.j9
      refine qy (e':=((i+1:Nat):Int)) (by rw [qm (by omega) (by omega)]; rfl) ?_
      refine ⟨⟨rfl,rfl⟩,hnx (gl,O,i+1) _ _ _ _ ⟨rfl,rfl,rfl,by simp only; omega,hOO,hG,fun e j hj hji=>?_,h⟩ (by simp only; omega)⟩
      by_cases e2:j=i
      · subst e2; exact hs
      · exact hmo e j hj (by simp only at hji; omega)
     unfold qe.j8
     refine h.lx (s:=o) i rfl (by omega) ?_
     have hdn:=hG.dn i hix
     refine qmc (fun g2=>?_) (fun g2=>?_)
     · refine nx9 _ (Or.inl (Classical.byContradiction fun e=>?_)) h
       have:=hdn.2 e
       omega
     · have hO:L[i].nm ∉ O:=fun e=>by have:=hdn.1 e; omega
       have hLi:=List.getElem_mem hix
       haveI:=hP _ hLi
       have hpi:=hpr _ hLi
       have hpl:=h.rlen (s:=L[i].par) (f:=nmC) (L:=pr L[i])
       unfold qe.j10 qe.j12
       refine qbf (fun (k:Nat) (m k':Int) w'=>k'=(k:Int)∧k≤(pr L[i]).length∧((m=max 1 (mxF (gF L gl) O ((pr L[i]).take k)) - 1∧∀ p ∈ (pr L[i]).take k,0≤atD L p→p ∈ O) ∨ (m = -1∧∃ p ∈ pr L[i],0≤atD L p∧p ∉ O))∧St F0 w0 w' (qjb 1 o (ivs .i64 gl) :: ps)) (fun k=>(pr L[i]).length - k) 0
        ⟨rfl,Nat.zero_le _,Or.inl ⟨rfl,by simp⟩,h⟩ ?_
       clear h
       rintro k m _ w3 I3 μ3 ⟨rfl,hk,hm,h⟩ hny
       have hmb:m≤1000000:=by
        rcases hm with ⟨rfl,_⟩ | ⟨rfl,_⟩
        · have:=mxF_le (g:=gF L gl) (B:=(O.length:Int)+1) (by omega) (fun q=>by have:=hG.bd q; omega) O ((pr L[i]).take k)
          omega
        · omega
       have j11:(m < 0 ∨ k=(pr L[i]).length)→qe.j11 s o (O.length:Int) (decide (O0.length < O.length)) (i:Int) m (fun v w'=>K (.returned v) w') (fun d_0' t5' t6' t7' w'=>(d_0'=s∧t5'=o)∧I1 t6' t7' w'∧μ1 t6' t7' w' < μ1 (O0.length:Int) true w1) (fun d_0' t5' t6' t7' t8' w'=>(d_0'=s∧t5'=o)∧I2 t6' t7' t8' w'∧μ2 t6' t7' t8' w' < μ2 (O.length:Int) (decide (O0.length < O.length)) (i:Int) w2) w3:=fun hend=>by
        unfold qe.j11
        refine qmc (fun g3=>?_) (fun g3=>?_)
        · have hkk:=hend.resolve_left (by omega)
          rcases hm with ⟨e,hall⟩ | ⟨e,_⟩
          · rw [hkk,List.take_length] at e hall
            subst e
            refine qy (e':=max 1 (mxF (gF L gl) O (pr L[i]))) (by rw [qm (by omega) (by omega)]; omega) ?_
            refine h.sx (s:=o) i rfl (by omega) fun w h=>?_
            refine qy (e':=((O.length+1:Nat):Int)) (by rw [qm (by omega) (by omega)]; rfl) ?_
            unfold qe.j9
            refine qy (e':=((i+1:Nat):Int)) (by rw [qm (by omega) (by omega)]; rfl) ?_
            have hst:=hG.step hn hf hix hO fun p hp hs=>hall p hp (qgl.1 hs)
            have el:(O ++ [L[i].nm]).length=O.length+1:=by simp
            refine ⟨⟨rfl,rfl⟩,hnx (_,O ++ [L[i].nm],i+1) _ _ _ _ ⟨by simp only [el],?_,rfl,by simp only; omega,by simp only [el]; omega,hst,fun e=>?_,h⟩ (by simp only; omega)⟩
            · simp only [el]
              exact (decide_eq_true (by omega)).symm
            · simp only [el] at e
              exfalso; omega
          · exfalso; omega
        · refine nx9 _ (Or.inr ?_) h
          rcases hm with ⟨e,_⟩ | ⟨_,hex⟩
          · exfalso; omega
          · exact hex
       unfold qe.b3
       refine h.lrL (s:=s) (L:=L) (o:=40) i rfl hix (by decide) (qyj _) ?_
       refine qmc (fun g3=>?_) (fun g3=>j11 (Or.inr (by omega)))
       refine qmc (fun g4=>?_) (fun g4=>j11 (Or.inl (by omega)))
       have hkx:k < (pr L[i]).length:=by omega
       refine h.lrL (s:=s) (L:=L) (o:=40) i rfl hix (by decide) (qyj _) ?_
       refine h.lr (s:=L[i].par) (f:=nmC) (L:=pr L[i]) k rfl hkx ?_
       have hsn:(pr L[i]).take (k+1)=(pr L[i]).take k ++ [(pr L[i])[k]]:=List.take_succ_eq_append_getElem hkx
       have hpm:(pr L[i])[k] ∈ pr L[i]:=List.getElem_mem hkx
       generalize (pr L[i])[k]=p at hsn hpm ⊢
       obtain ⟨hm,hall⟩:=hm.resolve_right fun ⟨e,_⟩=>by omega
       have nxt:∀ m' w,(m'=max 1 (mxF (gF L gl) O ((pr L[i]).take (k+1))) - 1∧(0≤atD L p→p ∈ O) ∨ (m' = -1∧0≤atD L p∧p ∉ O))→St F0 w0 w (qjb 1 o (ivs .i64 gl) :: ps)→lt (IntKind.i64.wrap ((k:Int)+1)) fun x=>(s=s∧o=o∧(O.length:Int)=(O.length:Int)∧decide (O0.length < O.length)=decide (O0.length < O.length)∧(i:Int)=(i:Int))∧I3 m' x w∧μ3 m' x w < μ3 m (k:Int) w3:=fun m' w hc h=>by
        refine qy (e':=((k+1:Nat):Int)) (by rw [qm (by omega) (by omega)]; rfl) ?_
        refine ⟨⟨rfl,rfl,rfl,rfl,rfl⟩,hny (k+1) _ _ _ ⟨rfl,by omega,?_,h⟩ (by omega)⟩
        rcases hc with ⟨h1,h2⟩ | ⟨h1,h2⟩
        · refine Or.inl ⟨h1,fun q hq=>?_⟩
          rw [hsn] at hq
          rcases List.mem_append.1 hq with hq | hq
          · exact hall q hq
          · have:q=p:=by simpa using hq
            rw [this]; exact h2
        · exact Or.inr ⟨h1,p,hpm,h2⟩
       have hap:=mxF_app (gF L gl) O p ((pr L[i]).take k)
       rw [← hsn] at hap
       refine quj.c (L:=L) (q:=p) h hL fun w h=>⟨_,rfl,?_⟩
       refine qmc (fun g5=>?_) (fun g5=>?_)
       · refine nxt m w (Or.inl ⟨?_,fun e=>by omega⟩) h
         have:p ∉ O:=fun e=>by
          obtain ⟨qs,h1,_⟩:=hG.en.dom p e
          have:=qgl.1 (show (fC (L.map (cmN pr)) p).isSome=true by rw [h1]; rfl)
          omega
         rw [if_neg this] at hap
         rw [hap,hm]
         omega
       · obtain ⟨hj,e1,e2,e3⟩:=hG.at (p:=p) (by omega)
         refine h.lx (s:=o) (atD L p).toNat (by omega) (by omega) ?_
         rw [e1]
         refine qnc (fun g6=>?_) (fun g6=>?_)
         · have g6:gF L gl p=0:=by simpa using g6
           exact nxt (-1) w (Or.inr ⟨rfl,by omega,fun e=>by have:=e2 e; omega⟩) h
         · have g6:¬ gF L gl p=0:=by simpa using g6
           have hpO:p ∈ O:=Classical.byContradiction fun e=>g6 (e3 e)
           have:=e2 hpO
           rw [if_pos hpO] at hap
           refine h.lx (s:=o) (atD L p).toNat (by omega) (by omega) ?_
           rw [e1]
           refine qmc (fun g7=>?_) (fun g7=>?_)
           · refine h.lx (s:=o) (atD L p).toNat (by omega) (by omega) ?_
             rw [e1]
             exact nxt _ w (Or.inl ⟨by rw [hap]; omega,fun _=>hpO⟩) h
           · exact nxt _ w (Or.inl ⟨by rw [hap]; omega,fun _=>hpO⟩) h
   · have:i=L.length:=by omega
     subst this
     refine ⟨⟨rfl,rfl⟩,hin (gl,O,decide (O0.length < O.length)) _ _ _ ⟨rfl,rfl,hG,fun e=>?_,h⟩ ?_⟩
     · have e:O.length=O0.length:=by
        have:=of_decide_eq_false e
        omega
       intro k qs hfk _ hall
       rw [hf] at hfk
       cases hnk:qji L k.1 with
       | none=>rw [hnk] at hfk; cases hfk
       | some n =>
         rw [hnk] at hfk
         injection hfk with hfk
         subst hfk
         obtain ⟨hnL,hnk⟩:=qkk hnk
         have hk':n.nm=k:=qgk.2 hnk
         obtain ⟨j,hj,rfl⟩:=List.getElem_of_mem hnL
         rcases hmo e j hj hj with h1 | ⟨p,h1,h2,h3⟩
         · rw [← hk']; exact h1
         · exact absurd (hall p h1 (qgl.2 h2)) h3
     · simp only
       by_cases e:O0.length < O.length
       · rw [decide_eq_true e]; simp only [Bool.toNat_true]; omega
       · rw [decide_eq_false e]; simp only [Bool.toNat_true,Bool.toNat_false]; omega
 · unfold qe.j4
   have hW:Wk (fC (L.map (cmN pr))) true O0 (gF L gl0):=⟨hG.nd,hG.en,hmo g,hG.gens⟩
   refine qmc (fun g2=>?_) (fun g2=>?_)
   · exact hk2 hn O0 _ w1 hW (by omega) h.drop
   · exact hk3 hn O0 gl0 o w1 hW (by omega) hG ho h
end
end Go.Proofs.YtigmbblgfnkpbaaGreat
