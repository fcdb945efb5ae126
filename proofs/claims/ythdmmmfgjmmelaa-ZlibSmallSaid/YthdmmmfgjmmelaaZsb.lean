/- Own texts as one, only what is reached (shake.py). -/
import Derived.Test.YthdmmmfgjmmelaaZsa
import Derived.ChangeSlices
import Derived.Deep.Slices
import Derived.Test.YthdmmmfgjmmelaaProg
namespace Go.Proofs.Ythdmmmfgjmmelaa
open Go Go.Proofs
set_option linter.unusedVariables false
set_option maxRecDepth 100000
def qie  (Q:VWP) (w:World):Prop :=
 lt (⟨World.heapSize w,0,none⟩:Addr) fun a1 =>
 lt (World.alloc w (.cells (⟨[.slice none 0 0,.int .u64 0,.int .i64 0]⟩:Array Value) 92)) fun w2 =>
 Q (.pointer (some a1)) w2
theorem qie.ok  (Q:VWP) (w:World) (h:qie  Q w):Calls Try.prog 18 ⟨[]⟩ w (Ret Q):=by
 refine qn [.tmp 0] Try.func18 rfl rfl rfl rfl ?_
 exact qg qpb _ (Eq.mp (by kernel_rfl) h)
def qdb.b1 (d_0:OAd) (Q:VWP) (nx1:OAd→World→Prop) (w:World):Prop :=
 nz d_0 fun a1 =>
 ldI .i64 w (Addr.add a1 2) fun x2 =>
 br (decide ((x2:Int) ≥ 8)) (
 lt (World.drew w) fun w3 =>
 nz d_0 fun a4 =>
 ldL w3 (Addr.add a4 0) fun x5 =>
 nz d_0 fun a6 =>
 ldI .u64 w3 (Addr.add a6 1) fun x7 =>
 lt (IntKind.u8.wrap x7) fun x8 =>
 lt (⟨World.heapSize w3,0,none⟩:Addr) fun a9 =>
 lt (World.alloc w3 (.cells ⟨[.int .u8 x8]⟩ 5)) fun w10 =>
 rdO w10 (some a9) (1 * 1) fun c11 =>
 apK Try.prog 5 w10 x5.a x5.len x5.cap 1 c11 fun s12 w13 =>
 nz d_0 fun a14 =>
 st w13 (Addr.add a14 0) (.slice s12.a s12.len s12.cap) fun w15 =>
 nz d_0 fun a16 =>
 ldI .u64 w15 (Addr.add a16 1) fun x17 =>
 (0:Int)≤8 ∧
 lt (shrV .u64 x17 8) fun x18 =>
 nz d_0 fun a19 =>
 st w15 (Addr.add a19 1) (.int .u64 x18) fun w20 =>
 nz d_0 fun a21 =>
 ldI .i64 w20 (Addr.add a21 2) fun x22 =>
 lt (IntKind.i64.wrap (x22 - 8)) fun x23 =>
 nz d_0 fun a24 =>
 st w20 (Addr.add a24 2) (.int .i64 x23) fun w25 =>
 nx1 d_0 w25) (
 Q (.tuple ⟨[]⟩) w)
def qdb.l1 (d_0:OAd) (Q:VWP) (w:World):Prop :=
 ∃ (I:World→Prop) (μ:World→Nat),I  w∧∀ w:World,I  w→qdb.b1 d_0 Q (fun d_0' w'=>(d_0'=d_0)∧I  w'∧μ  w' < μ  w) w
def qdb.j2 (d_0:OAd) (Q:VWP) (w:World):Prop :=
 qdb.l1 d_0 Q w
def qdb.j1 (d_0:OAd) (i_1:Int) (t2:Int) (Q:VWP) (w:World):Prop :=
 lt (World.drew w) fun w26 =>
 nz d_0 fun a27 =>
 ldI .u64 w26 (Addr.add a27 1) fun x28 =>
 lt (IntKind.u64.wrap i_1) fun x29 =>
 (0:Int)≤t2 ∧
 lt (qej .u64 1 t2) fun x30 =>
 lt (IntKind.u64.wrap (x30 - 1)) fun x31 =>
 lt (andV .u64 x29 x31) fun x32 =>
 nz d_0 fun a33 =>
 ldI .i64 w26 (Addr.add a33 2) fun x34 =>
 (0:Int)≤x34 ∧
 lt (qej .u64 x32 x34) fun x35 =>
 lt (orV .u64 x28 x35) fun x36 =>
 nz d_0 fun a37 =>
 st w26 (Addr.add a37 1) (.int .u64 x36) fun w38 =>
 nz d_0 fun a39 =>
 ldI .i64 w38 (Addr.add a39 2) fun x40 =>
 lt (IntKind.i64.wrap (x40+t2)) fun x41 =>
 nz d_0 fun a42 =>
 st w38 (Addr.add a42 2) (.int .i64 x41) fun w43 =>
 qdb.j2 d_0 Q w43
def qdb (d_0:OAd) (i_1:Int) (t2:Int) (Q:VWP) (w:World):Prop :=
 br (decide ((t2:Int) < 0)) (
 Q (.tuple ⟨[]⟩) w) (
 br (decide ((t2:Int) > 24)) (
 Q (.tuple ⟨[]⟩) w) (
 qdb.j1 d_0 i_1 t2 Q w))
theorem qdb.ok (d_0:OAd) (i_1:Int) (t2:Int) (Q:VWP) (w:World) (h:qdb d_0 i_1 t2 Q w):Calls Try.prog 91 ⟨[.pointer d_0,.int .i64 i_1,.int .i64 t2]⟩ w (Ret Q):=by
 refine qn [] Try.func91 rfl rfl rfl rfl ?_
 refine qr (fun ρ w=>asP (ρ 0) fun d_0=>asI .i64 (ρ 1) fun i_1=>asI .i64 (ρ 2) fun t2=>qdb.j1 d_0 i_1 t2 Q w) ?_ ?_
 · skip
   exact qg qpb _ (Eq.mp (by kernel_rfl) h)
 · intro ρ w h
   obtain ⟨d_0,e0,h⟩:=qw h
   obtain ⟨i_1,e1,h⟩:=qe h
   obtain ⟨t2,e2,h⟩:=qe h
   refine qb e0 (qb (qa e1 rfl) (qb (qa (qa e2 rfl) rfl) ?_))
   refine qib qpb (fun ρ w=>asP (ρ 0) fun d_0=>qdb.j2 d_0 Q w) (Eq.mp (by kernel_rfl) h) ?_
   intro ρ w h
   obtain ⟨d_0,e0,h⟩:=qw h
   refine qb e0 ?_
   refine qcb ?_
   obtain ⟨I,μ,hI,hr⟩:=h
   refine qhb (α:=Unit) (fun s ρ=>ρ 0=.pointer d_0) (fun s w=>I  w) (fun s w=>μ  w) () rfl hI ?_
   rintro ⟨⟩ ρ w e0 hI
   have h:=hr  w hI
   clear hr
   obtain ⟨nx1,hnx⟩:∃ nx:OAd→World→Prop,nx=(fun d_0' w'=>(d_0'=d_0)∧I  w'∧μ  w' < μ  w):=⟨_,rfl⟩
   rw [← hnx] at h
   refine qob (M:=fun ρ w=>asP (ρ 0) fun d_0=>nx1 d_0 w) ?_ (fun ρ w h=>?_)
   · skip
     refine qb e0 ?_
     exact qg qpb _ (Eq.mp (by kernel_rfl) h)
   · skip
     obtain ⟨d_0',e0',h⟩:=qw h
     rw [hnx] at h
     obtain ⟨hu,hI2,hμ⟩:=h
     obtain rfl:=hu
     exact ⟨(),e0',hI2,hμ⟩
def qoe (w_0:OAd) (v_1:Int) (n_2:Int) (Q:VWP) (w:World):Prop :=
 Calls Try.prog 92 ⟨[.int .i64 v_1,.int .i64 n_2]⟩ w fun e1 w2 =>
 ∃ r3:Int,e1=.returned (.int .i64 r3) ∧
 Calls Try.prog 91 ⟨[.pointer w_0,.int .i64 r3,.int .i64 n_2]⟩ w2 fun e4 w5 =>
 e4=.returned (.tuple ⟨[]⟩) ∧
 Q (.tuple ⟨[]⟩) w5
theorem qoe.ok (w_0:OAd) (v_1:Int) (n_2:Int) (Q:VWP) (w:World) (h:qoe w_0 v_1 n_2 Q w):Calls Try.prog 49 ⟨[.pointer w_0,.int .i64 v_1,.int .i64 n_2]⟩ w (Ret Q):=by
 refine qn [] Try.func49 rfl rfl rfl rfl ?_
 exact qg qpb _ (Eq.mp (by kernel_rfl) h)
def qif (b_0:Sl) (Q:VWP) (w:World):Prop :=
 Calls Try.prog 50 ⟨[.slice b_0.a b_0.len b_0.cap]⟩ w fun e1 w2 =>
 ∃ r3:Sl,e1=.returned (.slice r3.a r3.len r3.cap) ∧
 lt (⟨World.heapSize w2,0,none⟩:Addr) fun a4 =>
 lt (World.alloc w2 (.cells (⟨[.slice r3.a r3.len r3.cap,.int .i64 0]⟩:Array Value) 96)) fun w5 =>
 Q (.pointer (some a4)) w5
theorem qif.ok (b_0:Sl) (Q:VWP) (w:World) (h:qif b_0 Q w):Calls Try.prog 21 ⟨[.slice b_0.a b_0.len b_0.cap]⟩ w (Ret Q):=by
 refine qn [.tmp 2] Try.func21 rfl rfl rfl rfl ?_
 exact qg qpb _ (Eq.mp (by kernel_rfl) h)
def qsd (w_0:OAd) (Q:VWP) (w:World):Prop :=
 nz w_0 fun a1 =>
 ldL w (Addr.add a1 0) fun x2 =>
 Calls Try.prog 50 ⟨[.slice x2.a x2.len x2.cap]⟩ w fun e3 w4 =>
 ∃ r5:Sl,e3=.returned (.slice r5.a r5.len r5.cap) ∧
 nz w_0 fun a6 =>
 ldI .i64 w4 (Addr.add a6 2) fun x7 =>
 br (decide ((x7:Int) > 0)) (
 nz w_0 fun a8 =>
 ldI .u64 w4 (Addr.add a8 1) fun x9 =>
 lt (IntKind.u8.wrap x9) fun x10 =>
 lt (⟨World.heapSize w4,0,none⟩:Addr) fun a11 =>
 lt (World.alloc w4 (.cells ⟨[.int .u8 x10]⟩ 5)) fun w12 =>
 rdO w12 (some a11) (1 * 1) fun c13 =>
 apK Try.prog 5 w12 r5.a r5.len r5.cap 1 c13 fun s14 w15 =>
 Calls Try.prog 51 ⟨[.slice s14.a s14.len s14.cap]⟩ w15 fun e16 w17 =>
 ∃ r18:Sl,e16=.returned (.slice r18.a r18.len r18.cap) ∧
 Q (.slice r18.a r18.len r18.cap) w17) (
 Calls Try.prog 51 ⟨[.slice r5.a r5.len r5.cap]⟩ w4 fun e19 w20 =>
 ∃ r21:Sl,e19=.returned (.slice r21.a r21.len r21.cap) ∧
 Q (.slice r21.a r21.len r21.cap) w20)
theorem qsd.ok (w_0:OAd) (Q:VWP) (w:World) (h:qsd w_0 Q w):Calls Try.prog 22 ⟨[.pointer w_0]⟩ w (Ret Q):=by
 refine qn [.tmp 2] Try.func22 rfl rfl rfl rfl ?_
 exact qg qpb _ (Eq.mp (by kernel_rfl) h)
def qlb.j3 (t6:Int) (Q:VWP) (w:World):Prop :=
 Q (.tuple ⟨[.int .i64 t6,.bool true]⟩) w
def qlb.b1 (d_0:OAd) (i_1:Int) (t6 t7:Int) (Q:VWP) (nx1:OAd→Int→Int→Int→World→Prop) (w:World):Prop :=
 br (decide ((t7:Int) < i_1)) (
 nz d_0 fun a1 =>
 ldI .i64 w (Addr.add a1 1) fun x2 =>
 (8:Int) ≠ 0 ∧
 lt (Int.tmod x2 8) fun x3 =>
 lt (IntKind.i64.wrap (8 - x3)) fun x4 =>
 lt (IntKind.i64.wrap (i_1 - t7)) fun x5 =>
 lt (if (x5:Int) < x4 then x5 else x4) fun x6 =>
 lt (World.drew w) fun w7 =>
 nz d_0 fun a8 =>
 ldL w7 (Addr.add a8 0) fun x9 =>
 nz d_0 fun a10 =>
 ldI .i64 w7 (Addr.add a10 1) fun x11 =>
 (8:Int) ≠ 0 ∧
 lt (IntKind.i64.wrap (Int.tdiv x11 8)) fun x12 =>
 ixS x9.a x9.len x12 1 fun a13 =>
 ldI .u8 w7 a13 fun x14 =>
 lt (IntKind.i64.wrap x14) fun x15 =>
 nz d_0 fun a16 =>
 ldI .i64 w7 (Addr.add a16 1) fun x17 =>
 (8:Int) ≠ 0 ∧
 lt (Int.tmod x17 8) fun x18 =>
 (0:Int)≤x18 ∧
 lt (shrV .i64 x15 x18) fun x19 =>
 (0:Int)≤x6 ∧
 lt (qej .i64 1 x6) fun x20 =>
 lt (IntKind.i64.wrap (x20 - 1)) fun x21 =>
 lt (andV .i64 x19 x21) fun x22 =>
 (0:Int)≤t7 ∧
 lt (qej .i64 x22 t7) fun x23 =>
 lt (orV .i64 t6 x23) fun x24 =>
 lt (IntKind.i64.wrap (t7+x6)) fun x25 =>
 nz d_0 fun a26 =>
 ldI .i64 w7 (Addr.add a26 1) fun x27 =>
 lt (IntKind.i64.wrap (x27+x6)) fun x28 =>
 nz d_0 fun a29 =>
 st w7 (Addr.add a29 1) (.int .i64 x28) fun w30 =>
 nx1 d_0 i_1 x24 x25 w30) (
 qlb.j3 t6 Q w)
def qlb.l1 (d_0:OAd) (i_1:Int) (t6 t7:Int) (Q:VWP) (w:World):Prop :=
 ∃ (I:Int→Int→World→Prop) (μ:Int→Int→World→Nat),I t6 t7 w∧∀ t6:Int,∀ t7:Int,∀ w:World,I t6 t7 w→qlb.b1 d_0 i_1 t6 t7 Q (fun d_0' i_1' t6' t7' w'=>(d_0'=d_0∧i_1'=i_1)∧I t6' t7' w'∧μ t6' t7' w' < μ t6 t7 w) w
def qlb.j4 (d_0:OAd) (i_1:Int) (t6 t7:Int) (Q:VWP) (w:World):Prop :=
 qlb.l1 d_0 i_1 t6 t7 Q w
def qlb.j2 (d_0:OAd) (i_1:Int) (t6:Int) (Q:VWP) (w:World):Prop :=
 qlb.j4 d_0 i_1 t6 0 Q w
def qlb.j1 (d_0:OAd) (i_1:Int) (Q:VWP) (w:World):Prop :=
 br (decide ((i_1:Int) < 0)) (
 Q (.tuple ⟨[.int .i64 0,.bool false]⟩) w) (
 br (decide ((i_1:Int) > 24)) (
 Q (.tuple ⟨[.int .i64 0,.bool false]⟩) w) (
 Calls Try.prog 93 ⟨[.pointer d_0]⟩ w fun e31 w32 =>
 ∃ r33:Int,e31=.returned (.int .i64 r33) ∧
 br (decide ((i_1:Int) > r33)) (
 Q (.tuple ⟨[.int .i64 0,.bool false]⟩) w32) (
 qlb.j2 d_0 i_1 0 Q w32)))
def qlb (d_0:OAd) (i_1:Int) (Q:VWP) (w:World):Prop :=
 qlb.j1 d_0 i_1 Q w
theorem qlb.ok (d_0:OAd) (i_1:Int) (Q:VWP) (w:World) (h:qlb d_0 i_1 Q w):Calls Try.prog 52 ⟨[.pointer d_0,.int .i64 i_1]⟩ w (Ret Q):=by
 refine qn [.tmp 4,.tmp 5] Try.func52 rfl rfl rfl rfl ?_
 refine qr (fun ρ w=>asP (ρ 0) fun d_0=>asI .i64 (ρ 1) fun i_1=>qlb.j1 d_0 i_1 Q w) ?_ ?_
 · skip
   exact qg qpb _ (Eq.mp (by kernel_rfl) h)
 · intro ρ w h
   obtain ⟨d_0,e0,h⟩:=qw h
   obtain ⟨i_1,e1,h⟩:=qe h
   refine qb e0 (qb (qa e1 rfl) ?_)
   refine qib qpb (fun ρ w=>asP (ρ 0) fun d_0=>asI .i64 (ρ 1) fun i_1=>asI .i64 (ρ 6) fun t6=>qlb.j2 d_0 i_1 t6 Q w) (Eq.mp (by kernel_rfl) h) ?_
   intro ρ w h
   obtain ⟨d_0,e0,h⟩:=qw h
   obtain ⟨i_1,e1,h⟩:=qe h
   obtain ⟨t6,e6,h⟩:=qe h
   refine qb e0 (qb (qa e1 rfl) (qb (qa (qa e6 rfl) rfl) ?_))
   refine qr (fun ρ w=>asI .i64 (ρ 6) fun t6=>qlb.j3 t6 Q w) ?_ ?_
   · skip
     refine qr (fun ρ w=>asP (ρ 0) fun d_0=>asI .i64 (ρ 1) fun i_1=>asI .i64 (ρ 6) fun t6=>asI .i64 (ρ 7) fun t7=>qlb.j4 d_0 i_1 t6 t7 Q w) ?_ ?_
     · skip
       exact qg qpb _ (Eq.mp (by kernel_rfl) h)
     · intro ρ w h
       obtain ⟨d_0,e0,h⟩:=qw h
       obtain ⟨i_1,e1,h⟩:=qe h
       obtain ⟨t6,e6,h⟩:=qe h
       obtain ⟨t7,e7,h⟩:=qe h
       refine qb e0 (qb (qa e1 rfl) (qb (qa (qa e6 rfl) rfl) (qb (qa (qa (qa e7 rfl) rfl) rfl) ?_)))
       refine qcb ?_
       obtain ⟨I,μ,hI,hr⟩:=h
       refine qhb (α:=Int × Int) (fun s ρ=>ρ 6=.int .i64 s.1∧ρ 7=.int .i64 s.2∧ρ 0=.pointer d_0∧ρ 1=.int .i64 i_1) (fun s w=>I s.1 s.2 w) (fun s w=>μ s.1 s.2 w) (t6,t7) ⟨rfl,rfl,rfl,rfl⟩ hI ?_
       rintro ⟨t6,t7⟩ ρ w ⟨e6,e7,e0,e1⟩ hI
       have h:=hr t6 t7 w hI
       clear hr
       obtain ⟨nx1,hnx⟩:∃ nx:OAd→Int→Int→Int→World→Prop,nx=(fun d_0' i_1' t6' t7' w'=>(d_0'=d_0∧i_1'=i_1)∧I t6' t7' w'∧μ t6' t7' w' < μ t6 t7 w):=⟨_,rfl⟩
       rw [← hnx] at h
       refine qob (M:=fun ρ w=>asP (ρ 0) fun d_0=>asI .i64 (ρ 1) fun i_1=>asI .i64 (ρ 6) fun t6=>asI .i64 (ρ 7) fun t7=>nx1 d_0 i_1 t6 t7 w) ?_ (fun ρ w h=>?_)
       · skip
         refine qb e0 (qb (qa e1 rfl) (qb (qa (qa e6 rfl) rfl) (qb (qa (qa (qa e7 rfl) rfl) rfl) ?_)))
         exact qg qpb _ (Eq.mp (by kernel_rfl) h)
       · skip
         obtain ⟨d_0',e0',h⟩:=qw h
         obtain ⟨i_1',e1',h⟩:=qe h
         obtain ⟨t6',e6',h⟩:=qe h
         obtain ⟨t7',e7',h⟩:=qe h
         rw [hnx] at h
         obtain ⟨hu,hI2,hμ⟩:=h
         obtain ⟨rfl,rfl⟩:=hu
         exact ⟨(t6',t7'),⟨e6',e7',e0',e1'⟩,hI2,hμ⟩
   · intro ρ w h
     obtain ⟨t6,e6,h⟩:=qe h
     refine qb e6 ?_
     exact qg qpb _ (Eq.mp (by kernel_rfl) h)
def qrc.j3 (out_5:Int) (Q:VWP) (w:World):Prop :=
 Q (.int .i64 out_5) w
def qrc.b1 (t12 v_0 out_5 t13:Int) (Q:VWP) (nx1:Int→Int→Int→Int→World→Prop) (w:World):Prop :=
 br (decide ((t13:Int) < t12)) (
 (0:Int)≤1 ∧
 lt (qej .i64 out_5 1) fun x1 =>
 lt (andV .i64 v_0 1) fun x2 =>
 lt (orV .i64 x1 x2) fun x3 =>
 (0:Int)≤1 ∧
 lt (shrV .i64 v_0 1) fun x4 =>
 lt (IntKind.i64.wrap (t13+1)) fun x5 =>
 nx1 t12 x4 x3 x5 w) (
 qrc.j3 out_5 Q w)
def qrc.l1 (t12 v_0 out_5 t13:Int) (Q:VWP) (w:World):Prop :=
 ∃ (I:Int→Int→Int→World→Prop) (μ:Int→Int→Int→World→Nat),I v_0 out_5 t13 w∧∀ v_0:Int,∀ out_5:Int,∀ t13:Int,∀ w:World,I v_0 out_5 t13 w→qrc.b1 t12 v_0 out_5 t13 Q (fun t12' v_0' out_5' t13' w'=>(t12'=t12)∧I v_0' out_5' t13' w'∧μ v_0' out_5' t13' w' < μ v_0 out_5 t13 w) w
def qrc.j4 (v_0 out_5 t12 t13:Int) (Q:VWP) (w:World):Prop :=
 qrc.l1 t12 v_0 out_5 t13 Q w
def qrc.j2 (v_0 n_1 out_5:Int) (Q:VWP) (w:World):Prop :=
 qrc.j4 v_0 out_5 n_1 0 Q w
def qrc.j1 (v_0 n_1:Int) (Q:VWP) (w:World):Prop :=
 br (decide ((n_1:Int) < 0)) (
 Q (.int .i64 0) w) (
 br (decide ((n_1:Int) > 24)) (
 Q (.int .i64 0) w) (
 qrc.j2 v_0 n_1 0 Q w))
def qrc (v_0 n_1:Int) (Q:VWP) (w:World):Prop :=
 qrc.j1 v_0 n_1 Q w
theorem qrc.ok (v_0:Int) (n_1:Int) (Q:VWP) (w:World) (h:qrc v_0 n_1 Q w):Calls Try.prog 92 ⟨[.int .i64 v_0,.int .i64 n_1]⟩ w (Ret Q):=by
 refine qn [.tmp 4] Try.func92 rfl rfl rfl rfl ?_
 refine qr (fun ρ w=>asI .i64 (ρ 0) fun v_0=>asI .i64 (ρ 1) fun n_1=>qrc.j1 v_0 n_1 Q w) ?_ ?_
 · skip
   exact qg qpb _ (Eq.mp (by kernel_rfl) h)
 · intro ρ w h
   obtain ⟨v_0,e0,h⟩:=qe h
   obtain ⟨n_1,e1,h⟩:=qe h
   refine qb e0 (qb (qa e1 rfl) ?_)
   refine qib qpb (fun ρ w=>asI .i64 (ρ 0) fun v_0=>asI .i64 (ρ 1) fun n_1=>asI .i64 (ρ 5) fun out_5=>qrc.j2 v_0 n_1 out_5 Q w) (Eq.mp (by kernel_rfl) h) ?_
   intro ρ w h
   obtain ⟨v_0,e0,h⟩:=qe h
   obtain ⟨n_1,e1,h⟩:=qe h
   obtain ⟨out_5,e5,h⟩:=qe h
   refine qb e0 (qb (qa e1 rfl) (qb (qa (qa e5 rfl) rfl) ?_))
   refine qr (fun ρ w=>asI .i64 (ρ 5) fun out_5=>qrc.j3 out_5 Q w) ?_ ?_
   · skip
     refine qr (fun ρ w=>asI .i64 (ρ 0) fun v_0=>asI .i64 (ρ 5) fun out_5=>asI .i64 (ρ 12) fun t12=>asI .i64 (ρ 13) fun t13=>qrc.j4 v_0 out_5 t12 t13 Q w) ?_ ?_
     · skip
       exact qg qpb _ (Eq.mp (by kernel_rfl) h)
     · intro ρ w h
       obtain ⟨v_0,e0,h⟩:=qe h
       obtain ⟨out_5,e5,h⟩:=qe h
       obtain ⟨t12,e12,h⟩:=qe h
       obtain ⟨t13,e13,h⟩:=qe h
       refine qb e0 (qb (qa e5 rfl) (qb (qa (qa e12 rfl) rfl) (qb (qa (qa (qa e13 rfl) rfl) rfl) ?_)))
       refine qcb ?_
       obtain ⟨I,μ,hI,hr⟩:=h
       refine qhb (α:=Int × Int × Int) (fun s ρ=>ρ 0=.int .i64 s.1∧ρ 5=.int .i64 s.2.1∧ρ 13=.int .i64 s.2.2∧ρ 12=.int .i64 t12) (fun s w=>I s.1 s.2.1 s.2.2 w) (fun s w=>μ s.1 s.2.1 s.2.2 w) (v_0,out_5,t13) ⟨rfl,rfl,rfl,rfl⟩ hI ?_
       rintro ⟨v_0,out_5,t13⟩ ρ w ⟨e0,e5,e13,e12⟩ hI
       have h:=hr v_0 out_5 t13 w hI
       clear hr
       obtain ⟨nx1,hnx⟩:∃ nx:Int→Int→Int→Int→World→Prop,nx=(fun t12' v_0' out_5' t13' w'=>(t12'=t12)∧I v_0' out_5' t13' w'∧μ v_0' out_5' t13' w' < μ v_0 out_5 t13 w):=⟨_,rfl⟩
       rw [← hnx] at h
       refine qob (M:=fun ρ w=>asI .i64 (ρ 12) fun t12=>asI .i64 (ρ 0) fun v_0=>asI .i64 (ρ 5) fun out_5=>asI .i64 (ρ 13) fun t13=>nx1 t12 v_0 out_5 t13 w) ?_ (fun ρ w h=>?_)
       · skip
         refine qb e0 (qb (qa e5 rfl) (qb (qa (qa e12 rfl) rfl) (qb (qa (qa (qa e13 rfl) rfl) rfl) ?_)))
         exact qg qpb _ (Eq.mp (by kernel_rfl) h)
       · skip
         obtain ⟨t12',e12',h⟩:=qe h
         obtain ⟨v_0',e0',h⟩:=qe h
         obtain ⟨out_5',e5',h⟩:=qe h
         obtain ⟨t13',e13',h⟩:=qe h
         rw [hnx] at h
         obtain ⟨hu,hI2,hμ⟩:=h
         obtain rfl:=hu
         exact ⟨(v_0',out_5',t13'),⟨e0',e5',e13',e12'⟩,hI2,hμ⟩
   · intro ρ w h
     obtain ⟨out_5,e5,h⟩:=qe h
     refine qb e5 ?_
     exact qg qpb _ (Eq.mp (by kernel_rfl) h)
def qqe (r_0:OAd) (Q:VWP) (w:World):Prop :=
 lt (World.drew w) fun w1 =>
 nz r_0 fun a2 =>
 ldL w1 (Addr.add a2 0) fun x3 =>
 lt (IntKind.i64.wrap (8 * ((x3.len:Nat):Int))) fun x4 =>
 nz r_0 fun a5 =>
 ldI .i64 w1 (Addr.add a5 1) fun x6 =>
 lt (IntKind.i64.wrap (x4 - x6)) fun x7 =>
 Q (.int .i64 x7) w1
theorem qqe.ok (r_0:OAd) (Q:VWP) (w:World) (h:qqe r_0 Q w):Calls Try.prog 93 ⟨[.pointer r_0]⟩ w (Ret Q):=by
 refine qn [.tmp 2] Try.func93 rfl rfl rfl rfl ?_
 exact qg qpb _ (Eq.mp (by kernel_rfl) h)
def qpe (w_0:OAd) (b_1:Int) (Q:VWP) (w:World):Prop :=
 Calls Try.prog 124 ⟨[.pointer w_0]⟩ w fun e1 w2 =>
 e1=.returned (.tuple ⟨[]⟩) ∧
 nz w_0 fun a3 =>
 ldL w2 (Addr.add a3 0) fun x4 =>
 lt (⟨World.heapSize w2,0,none⟩:Addr) fun a5 =>
 lt (World.alloc w2 (.cells ⟨[.int .u8 b_1]⟩ 5)) fun w6 =>
 rdO w6 (some a5) (1 * 1) fun c7 =>
 apK Try.prog 5 w6 x4.a x4.len x4.cap 1 c7 fun s8 w9 =>
 nz w_0 fun a10 =>
 st w9 (Addr.add a10 0) (.slice s8.a s8.len s8.cap) fun w11 =>
 Q (.tuple ⟨[]⟩) w11
theorem qpe.ok (w_0:OAd) (b_1:Int) (Q:VWP) (w:World) (h:qpe w_0 b_1 Q w):Calls Try.prog 125 ⟨[.pointer w_0,.int .u8 b_1]⟩ w (Ret Q):=by
 refine qn [] Try.func125 rfl rfl rfl rfl ?_
 exact qg qpb _ (Eq.mp (by kernel_rfl) h)
def qwd (w_0:OAd) (Q:VWP) (w:World):Prop :=
 nz w_0 fun a1 =>
 ldI .i64 w (Addr.add a1 2) fun x2 =>
 br (decide ((x2:Int) > 0)) (
 nz w_0 fun a3 =>
 ldI .i64 w (Addr.add a3 2) fun x4 =>
 lt (IntKind.i64.wrap (8 - x4)) fun x5 =>
 Calls Try.prog 91 ⟨[.pointer w_0,.int .i64 0,.int .i64 x5]⟩ w fun e6 w7 =>
 e6=.returned (.tuple ⟨[]⟩) ∧
 Q (.tuple ⟨[]⟩) w7) (
 Q (.tuple ⟨[]⟩) w)
theorem qwd.ok (w_0:OAd) (Q:VWP) (w:World) (h:qwd w_0 Q w):Calls Try.prog 124 ⟨[.pointer w_0]⟩ w (Ret Q):=by
 refine qn [] Try.func124 rfl rfl rfl rfl ?_
 exact qg qpb _ (Eq.mp (by kernel_rfl) h)
def qke (r_0:OAd) (Q:VWP) (w:World):Prop :=
 Calls Try.prog 157 ⟨[.pointer r_0]⟩ w fun e1 w2 =>
 ∃ r3:Int,e1=.returned (.int .i64 r3) ∧
 lt (IntKind.i64.wrap (8 * r3)) fun x4 =>
 nz r_0 fun a5 =>
 st w2 (Addr.add a5 1) (.int .i64 x4) fun w6 =>
 Q (.tuple ⟨[]⟩) w6
theorem qke.ok (r_0:OAd) (Q:VWP) (w:World) (h:qke r_0 Q w):Calls Try.prog 181 ⟨[.pointer r_0]⟩ w (Ret Q):=by
 refine qn [] Try.func181 rfl rfl rfl rfl ?_
 exact qg qpb _ (Eq.mp (by kernel_rfl) h)
def qtd (r_0:OAd) (Q:VWP) (w:World):Prop :=
 nz r_0 fun a1 =>
 ldI .i64 w (Addr.add a1 1) fun x2 =>
 lt (IntKind.i64.wrap (x2+7)) fun x3 =>
 (8:Int) ≠ 0 ∧
 lt (IntKind.i64.wrap (Int.tdiv x3 8)) fun x4 =>
 Q (.int .i64 x4) w
theorem qtd.ok (r_0:OAd) (Q:VWP) (w:World) (h:qtd r_0 Q w):Calls Try.prog 157 ⟨[.pointer r_0]⟩ w (Ret Q):=by
 refine qn [.tmp 2] Try.func157 rfl rfl rfl rfl ?_
 exact qg qpb _ (Eq.mp (by kernel_rfl) h)
end Go.Proofs.Ythdmmmfgjmmelaa
namespace Go.Proofs.Ythdmmmfgjmmelaa
open Go Go.Proofs
set_option linter.unusedVariables false
set_option maxRecDepth 100000
def qed (s_0:Sl) (Q:VWP) (w:World):Prop :=
 br (Option.isNone s_0.a) (
 Q (.slice none 0 0) w) (
 lt (⟨World.heapSize w,0,none⟩:Addr) fun a1 =>
 lt (World.alloc w (.cells ⟨[]⟩ 5)) fun w2 =>
 rdO w2 s_0.a (s_0.len * 1) fun c3 =>
 apK Try.prog 5 w2 (some a1) 0 0 s_0.len c3 fun s4 w5 =>
 Q (.slice s4.a s4.len s4.cap) w5)
theorem qed.ok (s_0:Sl) (Q:VWP) (w:World) (h:qed s_0 Q w):Calls Try.prog 50 ⟨[.slice s_0.a s_0.len s_0.cap]⟩ w (Ret Q):=by
 refine qn [.tmp 2] Try.func50 rfl rfl rfl rfl ?_
 exact qg qpb _ (Eq.mp (by kernel_rfl) h)
def qcd (s_0:Sl) (Q:VWP) (w:World):Prop :=
 bd ((s_0.len:Nat):Int) s_0.cap fun n1 =>
 bd ((s_0.len:Nat):Int) n1 fun n2 =>
 lt (⟨qzf s_0.a n1 0 1,n2 - 0,n1 - 0⟩:Sl) fun s3 =>
 Q (.slice s3.a s3.len s3.cap) w
theorem qcd.ok (s_0:Sl) (Q:VWP) (w:World) (h:qcd s_0 Q w):Calls Try.prog 51 ⟨[.slice s_0.a s_0.len s_0.cap]⟩ w (Ret Q):=by
 refine qn [.tmp 2] Try.func51 rfl rfl rfl rfl ?_
 exact qg qpb _ (Eq.mp (by kernel_rfl) h)
def qng (s_0:Sl) (Q:VWP) (w:World):Prop :=
 bd ((s_0.len:Nat):Int) s_0.cap fun n1 =>
 bd ((s_0.len:Nat):Int) n1 fun n2 =>
 lt (⟨qzf s_0.a n1 0 1,n2 - 0,n1 - 0⟩:Sl) fun s3 =>
 Q (.slice s3.a s3.len s3.cap) w
theorem qng.ok (s_0:Sl) (Q:VWP) (w:World) (h:qng s_0 Q w):Calls Try.prog 163 ⟨[.slice s_0.a s_0.len s_0.cap]⟩ w (Ret Q):=by
 refine qn [.tmp 2] Try.func163 rfl rfl rfl rfl ?_
 exact qg qpb _ (Eq.mp (by kernel_rfl) h)
end Go.Proofs.Ythdmmmfgjmmelaa
namespace Go.Proofs.Ythdmmmfgjmmelaa
open Go Go.Proofs
set_option linter.unusedVariables false
set_option linter.unusedSimpArgs false
attribute [local irreducible] apK cpK mkK
def byt (V k:Nat):List Int:=(List.range k).map fun i=>((V / 2 ^ (8 * i) % 256:Nat):Int)
theorem quf (V k:Nat):(byt V k).length=k:=by simp [byt]
theorem qxm (V k:Nat):byt V (k+1)=byt V k ++ [((V / 2 ^ (8 * k) % 256:Nat):Int)]:=by simp [byt,List.range_succ]
theorem byt_above (V W k L:Nat) (h:8 * k≤L):byt (V+2 ^ L * W) k=byt V k:=by
 unfold byt
 apply List.map_congr_left
 intro i hi
 have hi:=List.mem_range.1 hi
 congr 1
 have e:2 ^ L * W=2 ^ (8 * i) * (256 * (2 ^ (L - 8 * i - 8) * W)):=by
  rw [← Nat.mul_assoc,← Nat.mul_assoc]
  congr 1
  rw [show (256:Nat)=2 ^ 8 from rfl,← Nat.pow_add,← Nat.pow_add]
  congr 1
  omega
 rw [e,Nat.add_mul_div_left _ _ (Nat.pow_pos (by decide)),Nat.add_mul_mod_self_left]
abbrev u8s (l:List Int):List Value:=l.map (Value.int .u8)
theorem u8s_append (a b:List Int):u8s (a ++ b)=u8s a ++ u8s b:=by simp [u8s]
theorem qfg (a:List Int):(u8s a).length=a.length:=by simp [u8s]
theorem info_u8:Try.prog.info? 5=some Try.t5:=by kernel_rfl
theorem zc_u8:zc Try.prog 5=#[.int .u8 0]:=by kernel_rfl
section
variable {F0:List Nat} {w0 w:World} {ps:List As}
theorem St.rdB {b k:Nat} {l:List Value} {K:Array Value→Prop} (h:St F0 w0 w (qxc b l :: ps)) (hk:k=l.length) (hK:K ⟨l⟩):rdO w (some ⟨b,0,none⟩) k K:=by
 subst hk
 refine ⟨⟨l⟩,rfl,fun i hi=>?_,hK⟩
 rw [qme,h.blk.cell,Nat.zero_add]
 simp
theorem St.append_u8 {s:Sl} {xs:List Int} {c:Array Value} {x:Int} {K:Sl→World→Prop} (h:St F0 w0 w (qdc 1 s (u8s xs) :: ps)) (hlen:xs.length≤35184372088832) (hc:c=⟨[.int .u8 x]⟩)
 (hk:∀ s' w',St F0 w0 w' (qdc 1 s' (u8s (xs ++ [x])) :: ps)→K s' w'):apK Try.prog 5 w s.a s.len s.cap 1 c K:=by
 subst hc
 have hl:=h.len
 rw [qfg] at hl
 have h1:(Try.t5).size=1:=rfl
 have h2:(Try.t5).bytes=1:=rfl
 have h4:(zc Try.prog 5).size=1:=by rw [zc_u8]; rfl
 have h5:(Try.t5).bytes ≠ 0:=by rw [h2]; decide
 have h6:(⟨[.int .u8 x]⟩:Array Value).size=1 * 1:=rfl
 have h7:∀ v ∈ (⟨[.int .u8 x]⟩:Array Value),storable v:=by simp [storable]
 refine St.append (i:=Try.t5) (sz:=1) (m:=1) info_u8 h1 (by decide) h4 h5 (by rw [h2]; omega) h h6 h7 ?_
 intro s' w' ho _
 refine hk s' w' ?_
 rw [u8s_append]
 exact ho
end
def wrK (wb L V k:Nat):As:=exA fun s:Sl=>ifA (8 * k≤L∧V < 2 ^ L) <| andA
 (qxc wb [.slice s.a s.len s.cap,.int .u64 ((V / 2 ^ (8 * k):Nat):Int),.int .i64 ((L - 8 * k:Nat):Int)]) (qdc 1 s (u8s (byt V k)))
def wrA (wb L V:Nat):As:=wrK wb L V (L / 8)
def putL (L:Nat) (n:Int):Nat:=if 0≤n∧n≤24 then L+n.toNat else L
def putV (L V:Nat) (v n:Int):Nat:=if 0≤n∧n≤24 then V+2 ^ L * (v % 2 ^ n.toNat).toNat else V
theorem low_lt (v:Int) (t:Nat):(v % 2 ^ t).toNat < 2 ^ t:=by
 have h1:(0:Int) < 2 ^ t:=Int.pow_pos (by decide)
 have h2:=Int.emod_lt_of_pos v h1
 have h3:=Int.emod_nonneg v (show (2:Int) ^ t ≠ 0 by omega)
 have h4:((2 ^ t:Nat):Int)=2 ^ t:=by simp
 omega
theorem put_lt {L V W t:Nat} (hV:V < 2 ^ L) (hW:W < 2 ^ t):V+2 ^ L * W < 2 ^ (L+t):=by
 rw [Nat.pow_add]
 have:2 ^ L * (W+1)≤2 ^ L * 2 ^ t:=Nat.mul_le_mul_left _ hW
 rw [Nat.mul_add,Nat.mul_one] at this
 omega
theorem div_pow_lt {V L k:Nat} (hV:V < 2 ^ L) (hk:8 * k≤L):V / 2 ^ (8 * k) < 2 ^ (L - 8 * k):=by
 rw [Nat.div_lt_iff_lt_mul (Nat.pow_pos (by decide)),← Nat.pow_add]
 rw [show L - 8 * k+8 * k=L by omega]
 exact hV
theorem div_above {V W L k:Nat} (h:8 * k≤L):(V+2 ^ L * W) / 2 ^ (8 * k)=V / 2 ^ (8 * k)+W * 2 ^ (L - 8 * k):=by
 have e:2 ^ L * W=2 ^ (8 * k) * (W * 2 ^ (L - 8 * k)):=by
  rw [Nat.mul_comm W,← Nat.mul_assoc,← Nat.pow_add]
  congr 2
  omega
 rw [e,Nat.add_mul_div_left _ _ (Nat.pow_pos (by decide))]
section
variable {F0:List Nat} {w0 w:World} {ps:List As}
theorem qdb.loop {wb L V k:Nat} {Q:VWP} (h:St F0 w0 w (wrK wb L V k :: ps)) (hL:L≤1099511627776) (hs:L - 8 * k < 64)
 (hq:∀ w',St F0 w0 w' (wrA wb L V :: ps)→Q (.tuple ⟨[]⟩) w'):qdb.l1 (some ⟨wb,0,none⟩) Q w:=by
 refine loop0 (fun k w=>St F0 w0 w (wrK wb L V k :: ps)∧L - 8 * k < 64) (fun k=>L - 8 * k) k ⟨h,hs⟩ ?_
 clear h hs
 rintro k w I μ ⟨h,hs⟩ hin
 obtain ⟨s,h⟩:=h.exE
 obtain ⟨⟨hk,hV⟩,h⟩:=h.ifE
 have h:=h.split
 unfold qdb.b1
 refine qrd (h.blk.ldI (o:=2) rfl ?_)
 refine qzc (fun h8=>?_) (fun h8=>?_)
 · have hk8:8 * (k+1)≤L:=by omega
   refine h.drewK fun w h=>?_
   refine qrd (h.blk.ldL (o:=0) rfl ?_)
   refine qrd (h.blk.ldI (o:=1) rfl ?_)
   refine qy (qhn _) ?_
   refine h.new fun nb w h=>?_
   refine h.rdB rfl ?_
   have h:=h.at2
   refine h.append_u8 (by rw [quf]; omega) rfl fun s3 w h=>?_
   have h:=h.at2
   refine qrd (h.st (o:=0) (by simp) trivial fun w h=>?_)
   refine qrd (h.blk.ldI (o:=1) rfl ?_)
   refine ⟨by omega,?_⟩
   refine qy (qdl .u64 _ (t:=8) (by decide)) ?_
   refine qrd (h.st (o:=1) (by simp) trivial fun w h=>?_)
   refine qrd (h.blk.ldI (o:=2) rfl ?_)
   refine qy (qk (by omega) (by omega)) ?_
   refine qrd (h.st (o:=2) (by simp) trivial fun w h=>?_)
   refine ⟨rfl,hin (k+1) w ⟨?_,by omega⟩ (by omega)⟩
   have e1:((V / 2 ^ (8 * k):Nat):Int) / 2 ^ 8=((V / 2 ^ (8 * (k+1)):Nat):Int):=by
    rw [show 8 * (k+1)=8 * k+8 by omega,Nat.pow_add,← Nat.div_div_eq_div_mul]
    simp
   have e2:((L - 8 * k:Nat):Int) - 8=((L - 8 * (k+1):Nat):Int):=by omega
   have e3:((V / 2 ^ (8 * k):Nat):Int) % 256=((V / 2 ^ (8 * k) % 256:Nat):Int):=by omega
   rw [e1,e2,e3,← qxm] at h
   have h:=h.join
   have h:=h.ifI (c:=8 * (k+1)≤L∧V < 2 ^ L) ⟨hk8,hV⟩
   exact (h.exI (p:=fun s:Sl=>ifA (8 * (k+1)≤L∧V < 2 ^ L) <| andA (qxc wb [.slice s.a s.len s.cap,.int .u64 ((V / 2 ^ (8 * (k+1)):Nat):Int),.int .i64 ((L - 8 * (k+1):Nat):Int)]) (qdc 1 s (u8s (byt V (k+1))))) s3).tail (fun _ _ _ h=>h.drop)
 · have hkk:k=L / 8:=by omega
   subst hkk
   exact hq w ((h.join.ifI ⟨hk,hV⟩).exI s)
theorem qdb.c {wb L V:Nat} {v n:Int} {K:Ending→World→Prop} (h:St F0 w0 w (wrA wb L V :: ps)) (hL:L≤549755813888)
 (hk:∀ w',St F0 w0 w' (wrA wb (putL L n) (putV L V v n) :: ps)→K (.returned (.tuple ⟨[]⟩)) w'):Calls Try.prog 91 ⟨[.pointer (some ⟨wb,0,none⟩),.int .i64 v,.int .i64 n]⟩ w K:=by
 refine qoc (qdb.ok _ _ _ _ _ ?_)
 unfold qdb
 refine qzc (fun h1=>?_) (fun h1=>?_)
 · rw [putL,putV,if_neg (by omega),if_neg (by omega)] at hk
   exact hk w h
 refine qzc (fun h2=>?_) (fun h2=>?_)
 · rw [putL,putV,if_neg (by omega),if_neg (by omega)] at hk
   exact hk w h
 rw [putL,putV,if_pos (by omega),if_pos (by omega)] at hk
 obtain ⟨t,rfl⟩:∃ t:Nat,n=t:=⟨n.toNat,by omega⟩
 have ht:t≤24:=by omega
 rw [Int.toNat_natCast] at hk
 obtain ⟨s,h⟩:=h.exE
 obtain ⟨⟨hk8,hV⟩,h⟩:=h.ifE
 have h:=h.split
 unfold qdb.j1
 refine h.drewK fun w h=>?_
 refine qrd (h.blk.ldI (o:=1) rfl ?_)
 refine qy (wrap_u64 _) ?_
 refine ⟨by omega,?_⟩
 have hp:(1:Int) * 2 ^ t < 2 ^ (IntKind.u64.bits - 1):=by
  rw [Int.one_mul]
  exact_mod_cast Nat.pow_lt_pow_right (by decide) (show t < IntKind.u64.bits - 1 from Nat.lt_of_le_of_lt ht (by decide))
 have hp0:(0:Int) < 2 ^ t:=Int.pow_pos (by decide)
 refine qy (qoi .u64 (show t≤64 by omega) (by omega) hp) ?_
 rw [Int.one_mul] at hp ⊢
 refine qy (wrap_fit .u64 (by omega) (by omega)) ?_
 refine qy (qym .u64 _ (show t < 64 by omega)) ?_
 have e0:v % 18446744073709551616 % 2 ^ t=v % 2 ^ t:=Int.emod_emod_of_dvd _ ⟨2 ^ (64 - t),by rw [← Int.pow_add,show t+(64 - t)=64 by omega]; rfl⟩
 rw [e0]
 have hW:=low_lt v t
 have e1:v % 2 ^ t=(((v % 2 ^ t).toNat:Nat):Int):=by
  have:=Int.emod_nonneg v (show (2:Int) ^ t ≠ 0 by omega)
  omega
 rw [e1]
 generalize (v % 2 ^ t).toNat=W at hW hk
 refine qrd (h.blk.ldI (o:=2) rfl ?_)
 refine ⟨by omega,?_⟩
 have hr:L - 8 * (L / 8) < 8:=by omega
 have hbig:W * 2 ^ (L - 8 * (L / 8)) < 2 ^ 32:=by
  have a1:2 ^ (L - 8 * (L / 8))≤2 ^ 7:=Nat.pow_le_pow_right (by decide) (by omega)
  have a2:(2:Nat) ^ t≤2 ^ 24:=Nat.pow_le_pow_right (by decide) ht
  have:=Nat.mul_le_mul (show W≤2 ^ 24 by omega) a1
  omega
 refine qy (qoi .u64 (show L - 8 * (L / 8)≤64 by omega) (by omega) (by
  have:((W * 2 ^ (L - 8 * (L / 8)):Nat):Int)=(W:Int) * 2 ^ (L - 8 * (L / 8)):=by simp
  rw [← this]
  exact_mod_cast Nat.lt_of_lt_of_le hbig (by decide))) ?_
 have hword:=div_pow_lt hV hk8
 have hword2:2 ^ (L - 8 * (L / 8))≤2 ^ 7:=Nat.pow_le_pow_right (by decide) (by omega)
 refine qy (orV_add .u64 hword (show _ < (2:Nat) ^ (64 - 1) by omega)) ?_
 have e2:((V / 2 ^ (8 * (L / 8)):Nat):Int)+(W:Int) * 2 ^ (L - 8 * (L / 8))=(((V+2 ^ L * W) / 2 ^ (8 * (L / 8)):Nat):Int):=by
  rw [div_above hk8]
  simp
 rw [e2]
 refine qrd (h.st (o:=1) (by simp) trivial fun w h=>?_)
 refine qrd (h.blk.ldI (o:=2) rfl ?_)
 refine qy (qk (by omega) (by omega)) ?_
 refine qrd (h.st (o:=2) (by simp) trivial fun w h=>?_)
 have e3:((L - 8 * (L / 8):Nat):Int)+(t:Int)=((L+t - 8 * (L / 8):Nat):Int):=by omega
 rw [e3] at h
 rw [← byt_above V W (L / 8) L hk8] at h
 refine qdb.loop (k:=L / 8) ((h.join.ifI (c:=8 * (L / 8)≤L+t∧V+2 ^ L * W < 2 ^ (L+t)) ⟨by omega,put_lt hV hW⟩).exI (p:=fun s:Sl=>ifA (8 * (L / 8)≤L+t∧V+2 ^ L * W < 2 ^ (L+t)) <| andA
  (qxc wb [.slice s.a s.len s.cap,.int .u64 (((V+2 ^ L * W) / 2 ^ (8 * (L / 8)):Nat):Int),.int .i64 ((L+t - 8 * (L / 8):Nat):Int)]) (qdc 1 s (u8s (byt (V+2 ^ L * W) (L / 8))))) s) (by omega) (by omega) hk
end
end Go.Proofs.Ythdmmmfgjmmelaa
namespace Go.Proofs.Ythdmmmfgjmmelaa
open Go Go.Proofs
set_option linter.unusedVariables false
set_option linter.unusedSimpArgs false
attribute [local irreducible] apK cpK mkK
def Rd (w:World) (sz:Nat) (s:Sl) (cs:List Value):Prop:=cs.length=s.len * sz∧∀ i,i < cs.length→∃ a,s.a=some a∧w.cell? (a.add i)=cs[i]?
theorem Own.rd {sz:Nat} {w:World} {s:Sl} {cs:List Value} {F:List Nat} (h:Own sz w s cs F):Rd w sz s cs:=by
 refine ⟨h.len,fun i hi=>?_⟩
 obtain ⟨ob,h1,h2⟩:=h.cell hi
 exact ⟨⟨ob,0,none⟩,h1,by rw [qme,Nat.zero_add]; exact h2⟩
theorem Rd.rdO {sz k:Nat} {w:World} {s:Sl} {cs:List Value} {K:Array Value→Prop} (h:Rd w sz s cs) (hk:k=cs.length) (hK:K ⟨cs⟩):rdO w s.a k K:=by
 subst hk
 obtain ⟨h1,h2⟩:=h
 cases e:s.a with
 | none =>
   cases cs with
   | nil=>exact ⟨rfl,hK⟩
   | cons c cs =>
     obtain ⟨a,ha,_⟩:=h2 0 (by simp)
     rw [e] at ha; cases ha
 | some a =>
   refine ⟨⟨cs⟩,rfl,fun i hi=>?_,hK⟩
   obtain ⟨a',ha,hc⟩:=h2 i hi
   rw [e] at ha; cases ha
   rw [hc]; simp
theorem Rd.ix {sz:Nat} {w:World} {s:Sl} {cs:List Value} {i:Int} {K:Addr→Prop} (h:Rd w sz s cs) (hsz:0 < sz) (h0:0≤i) (h1:i < s.len) (hk:∀ a,s.a=some a→K (a.add (i.toNat * sz))):ixS s.a s.len i sz K:=by
 have hl:=h.1
 have:i.toNat * sz < cs.length:=by
  rw [hl]
  exact Nat.mul_lt_mul_of_pos_right (by omega) hsz
 obtain ⟨a,ha,_⟩:=h.2 _ this
 unfold ixS
 rw [ha]
 exact ⟨⟨h0,h1⟩,hk a ha⟩
theorem Rd.cell {sz:Nat} {w:World} {s:Sl} {cs:List Value} (h:Rd w sz s cs) {a:Addr} (ha:s.a=some a) {i:Nat} (hi:i < cs.length):w.cell? (a.add i)=cs[i]?:=by
 obtain ⟨a',ha',hc⟩:=h.2 i hi
 rw [ha] at ha'; cases ha'
 exact hc
theorem qwk (a:Addr) (i j:Nat):(a.add i).add j=a.add (i+j):=by
 obtain ⟨b,o,p⟩:=a
 cases p with
 | none=>rw [qme,qme,qme,Nat.add_assoc]
 | some p =>
   unfold Addr.add
   by_cases hi:i=0
   · by_cases hj:j=0
     · simp [hi,hj]
     · simp [hi,hj]
   · by_cases hj:j=0
     · simp [hi,hj]
     · simp [hi,hj,Nat.add_assoc]
theorem ldI_c {k:IntKind} {w:World} {a:Addr} {n:Int} {K:Int→Prop} (hc:w.cell? a=some (.int k n)) (hk:K n):ldI k w a K:=⟨n,hc,hk⟩
theorem ldL_c {w:World} {a:Addr} {n:Sl} {K:Sl→Prop} (hc:w.cell? a=some (.slice n.a n.len n.cap)) (hk:K n):ldL w a K:=⟨n,hc,hk⟩
theorem Rd.ldI {k:IntKind} {sz:Nat} {w:World} {s:Sl} {cs:List Value} {a:Addr} {i:Nat} {n:Int} {K:Int→Prop} (h:Rd w sz s cs) (ha:s.a=some a) (hv:cs[i]?=some (.int k n)) (hk:K n):ldI k w (a.add i) K:=by
 refine ⟨n,?_,hk⟩
 have hi:i < cs.length:=by
  rcases Nat.lt_or_ge i cs.length with h1 | h1
  · exact h1
  · rw [List.getElem?_eq_none h1] at hv; cases hv
 rw [h.cell ha hi]; exact hv
theorem Rd.ldB {sz:Nat} {w:World} {s:Sl} {cs:List Value} {a:Addr} {i:Nat} {n:Bool} {K:Bool→Prop} (h:Rd w sz s cs) (ha:s.a=some a) (hv:cs[i]?=some (.bool n)) (hk:K n):ldB w (a.add i) K:=by
 refine ⟨n,?_,hk⟩
 have hi:i < cs.length:=by
  rcases Nat.lt_or_ge i cs.length with h1 | h1
  · exact h1
  · rw [List.getElem?_eq_none h1] at hv; cases hv
 rw [h.cell ha hi]; exact hv
theorem cell_lt {w:World} {a:Addr} {v:Value} (h:w.cell? a=some v):a.block < w.heap.size:=by
 unfold World.cell? at h
 rcases Nat.lt_or_ge a.block w.heap.size with h1 | h1
 · exact h1
 · have:w.heap[a.block]?=none:=Array.getElem?_eq_none h1
   simp [this] at h
theorem add_block (a:Addr) (i:Nat):(a.add i).block=a.block:=by unfold Addr.add; split <;> rfl
theorem cell_congr {w w':World} {a:Addr} (h:w'.heap[a.block]?=w.heap[a.block]?):w'.cell? a=w.cell? a:=by
 unfold World.cell?
 rw [h]
theorem Rd.keep {sz:Nat} {w w':World} {s:Sl} {cs:List Value} {G:List Nat} (h:Rd w sz s cs) (m:Mod G w w') (hG:∀ a,s.a=some a→a.block ∉ G):Rd w' sz s cs:=by
 refine ⟨h.1,fun i hi=>?_⟩
 obtain ⟨a,ha,hc⟩:=h.2 i hi
 refine ⟨a,ha,?_⟩
 rw [← hc]
 rw [List.getElem?_eq_getElem hi] at hc
 have hlt:=cell_lt hc
 rw [add_block] at hlt
 apply cell_congr
 rw [add_block]
 exact m.frame _ hlt (hG a ha)
def RBlk (w:World) (b:Nat) (l:List Value):Prop:=∃ t f,w.heap[b]?=some (.cells ⟨l⟩ t f)
theorem Blk.rb {w:World} {b:Nat} {l:List Value} (h:Blk w b l):RBlk w b l:=by
 obtain ⟨t,h⟩:=h
 exact ⟨t,_,h⟩
theorem RBlk.lt {w:World} {b:Nat} {l:List Value} (h:RBlk w b l):b < w.heap.size:=by
 obtain ⟨t,f,h⟩:=h
 exact (Array.getElem?_eq_some_iff.1 h).1
theorem RBlk.keep {F:List Nat} {w w':World} {b:Nat} {l:List Value} (h:RBlk w b l) (m:Mod F w w') (hb:b ∉ F):RBlk w' b l:=by
 have hl:=h.lt
 obtain ⟨t,f,h⟩:=h
 exact ⟨t,f,by rw [m.frame b hl hb]; exact h⟩
theorem RBlk.cell {w:World} {b:Nat} {l:List Value} (h:RBlk w b l) (o:Nat):w.cell? ⟨b,o,none⟩=l[o]?:=by
 obtain ⟨t,f,h⟩:=h
 simp [World.cell?,h]
def rdA (sz:Nat) (s:Sl) (cs:List Value):As where
 hd w F:=cs.length=s.len * sz∧((cs=[]∧F=[]) ∨ ∃ b o l,s.a=some ⟨b,o,none⟩∧RBlk w b l∧F=[b]∧∀ i,i < cs.length→l[o+i]?=cs[i]?)
 keep:=by
  rintro w w' F G ⟨hl,h⟩ m hd
  refine ⟨hl,?_⟩
  rcases h with h | ⟨b,o,l,h1,h2,rfl,h3⟩
  · exact Or.inl h
  · exact Or.inr ⟨b,o,l,h1,h2.keep m (hd b (by simp)),rfl,h3⟩
 lt:=by
  rintro w F ⟨hl,⟨_,rfl⟩ | ⟨b,o,l,h1,h2,rfl,h3⟩⟩ x hx
  · cases hx
  · have:x=b:=by simpa using hx
    subst this; exact h2.lt
section
variable {F0:List Nat} {w0 w:World} {p:As} {ps:List As} {sz:Nat} {s:Sl} {cs:List Value}
theorem St.rd (h:St F0 w0 w (rdA sz s cs :: ps)):Rd w sz s cs:=by
 obtain ⟨F,hl,⟨rfl,rfl⟩ | ⟨b,o,l,h1,h2,rfl,h3⟩⟩:=h.get
 · exact ⟨hl,fun i hi=>by simp at hi⟩
 · refine ⟨hl,fun i hi=>⟨_,h1,?_⟩⟩
   rw [qme,h2.cell]
   exact h3 i hi
theorem St.ord (h:St F0 w0 w (qdc sz s cs :: ps)):Rd w sz s cs:=by
 obtain ⟨F,h⟩:=h.own; exact h.rd
theorem Own.ro {F:List Nat} (h:Own sz w s cs F):∃ F',(rdA sz s cs).hd w F'∧∀ x ∈ F',x ∈ F:=by
 refine ⟨F,⟨h.len,?_⟩,fun _ h=>h⟩
 rcases h with ⟨_,h1,h2⟩ | ⟨ob,rest,h1,hb,_,_,rfl⟩
 · exact Or.inl ⟨h1,h2⟩
 · exact Or.inr ⟨ob,0,cs ++ rest,h1,hb.rb,rfl,fun i hi=>by rw [Nat.zero_add,List.getElem?_append_left hi]⟩
theorem St.ro (h:St F0 w0 w (qdc sz s cs :: ps)):St F0 w0 w (rdA sz s cs :: ps):=by
 refine h.mp fun F h=>?_
 refine ⟨Own.len h,?_⟩
 rcases h with ⟨_,h1,h2⟩ | ⟨ob,rest,h1,hb,_,_,rfl⟩
 · exact Or.inl ⟨h1,h2⟩
 · exact Or.inr ⟨ob,0,cs ++ rest,h1,hb.rb,rfl,fun i hi=>by rw [Nat.zero_add,List.getElem?_append_left hi]⟩
theorem St.recap {s':Sl} (h:St F0 w0 w (rdA sz s cs :: ps)) (ha:s'.a=s.a) (hl:s'.len=s.len):St F0 w0 w (rdA sz s' cs :: ps):=by
 refine h.mp fun F h=>?_
 unfold rdA at h ⊢
 simp only at h ⊢
 rw [ha,hl]; exact h
end
theorem mkStr_i {F0:List Nat} {w0 w:World} {ps:List As} {b n:Nat} {l:List Value} {K:World→Prop} (h:St F0 w0 w (qxc b l :: ps)) (hn:l.length=n) (hk:∀ w',St F0 w0 w' (rdA 1 ⟨some ⟨b,0,none⟩,n,n⟩ l :: ps)→K w'):mkStr w (some ⟨b,0,none⟩) K:=by
 obtain ⟨f,⟨hb,rfl⟩,hstep⟩:=h.step
 obtain ⟨t,hs⟩:=hb.shape
 have e:w.freeze ⟨b,l.length,none⟩ 1={ w with heap:=w.heap.modify b fun
  | .cells c elem (lo,hi)=>.cells c elem (if (lo == hi)=true then (l.length,l.length+1) else (min lo l.length,max hi (l.length+1)))
  | o=>o }:=rfl
 refine ⟨t,l.length,hs,hk _ (hstep _ [b] _ ?_ (Gr.refl _ _) ⟨by simp [hn],Or.inr ⟨b,0,l,rfl,?_,rfl,fun i hi=>by rw [Nat.zero_add]⟩⟩)⟩
 · rw [e]
   refine ⟨rfl,rfl,rfl,by simp,fun x hx hF=>?_⟩
   simp only [Array.getElem?_modify]
   rw [if_neg]
   intro h
   exact hF (by simp [h])
 · obtain ⟨t,hb⟩:=hb
   refine ⟨t,(l.length,l.length+1),?_⟩
   rw [e]
   simp only [Array.getElem?_modify,if_true,hb,Option.map_some]
   rfl
def val:List Bool→Nat
 | []=>0
 | b :: l=>b.toNat+2 * val l
theorem val_lt (l:List Bool):val l < 2 ^ l.length:=by
 induction l with
 | nil=>simp [val]
 | cons b l ih =>
   rw [val,List.length_cons,Nat.pow_succ]
   have:b.toNat≤1:=by cases b <;> simp
   omega
theorem qml (a b:List Bool):val (a ++ b)=val a+2 ^ a.length * val b:=by
 induction a with
 | nil=>simp [val]
 | cons x a ih =>
   rw [List.cons_append,val,val,ih,List.length_cons,Nat.pow_succ,Nat.mul_add,← Nat.mul_assoc,Nat.mul_comm 2 (2 ^ a.length)]
   omega
def bt (v:Int) (i:Nat):Bool:=v / 2 ^ i % 2 == 1
def qo (v:Int) (n:Nat):List Bool:=(List.range n).map (bt v)
theorem ql (v:Int) (n:Nat):(qo v n).length=n:=by simp [qo]
theorem bitsOf_succ (v:Int) (n:Nat):qo v (n+1)=qo v n ++ [bt v n]:=by simp [qo,List.range_succ]
theorem bt_toNat (v:Int) (i:Nat):(((bt v i).toNat:Nat):Int)=v / 2 ^ i % 2:=by
 unfold bt
 have h1:0≤v / 2 ^ i % 2:=by omega
 have h2:v / 2 ^ i % 2 < 2:=by omega
 generalize v / 2 ^ i % 2=x at h1 h2
 by_cases h:x=1
 · subst h; rfl
 · have:x=0:=by omega
   subst this; rfl
theorem mod_pow_succ (v:Int) (n:Nat):v % 2 ^ (n+1)=v % 2 ^ n+2 ^ n * (v / 2 ^ n % 2):=by
 have hp:(0:Int) < 2 ^ n:=Int.pow_pos (by decide)
 have h1:=Int.mul_ediv_add_emod v (2 ^ n)
 have h2:=Int.mul_ediv_add_emod (v / 2 ^ n) 2
 have h3:=Int.mul_ediv_add_emod v (2 ^ (n+1))
 have h4:v / 2 ^ (n+1)=v / 2 ^ n / 2:=by
  rw [Int.pow_succ,Int.ediv_ediv_of_nonneg (by omega)]
 rw [h4] at h3
 have e:(2:Int) ^ (n+1) * (v / 2 ^ n / 2)=2 ^ n * (2 * (v / 2 ^ n / 2)):=by
  rw [Int.pow_succ,Int.mul_assoc]
 rw [e] at h3
 have e2:(2:Int) ^ n * (2 * (v / 2 ^ n / 2))=2 ^ n * (v / 2 ^ n) - 2 ^ n * (v / 2 ^ n % 2):=by
  rw [← Int.mul_sub]
  congr 1
  omega
 omega
theorem qai (v:Int) (n:Nat):((val (qo v n):Nat):Int)=v % 2 ^ n:=by
 induction n with
 | zero=>simp [qo,val,Int.emod_one]
 | succ n ih =>
   rw [bitsOf_succ,qml,ql,mod_pow_succ,← ih]
   have:val [bt v n]=(bt v n).toNat:=by simp [val]
   rw [this,Int.natCast_add,Int.natCast_mul,bt_toNat]
   simp
theorem qkn (v:Int) (n:Nat):val (qo v n)=(v % 2 ^ n).toNat:=by
 have:=qai v n
 omega
theorem bt_nat (V i:Nat):bt (V:Int) i=V.testBit i:=by
 unfold bt Nat.testBit
 have e:((V:Int) / 2 ^ i % 2)=((V / 2 ^ i % 2:Nat):Int):=by simp
 rw [e]
 rw [Nat.shiftRight_eq_div_pow]
 have h:V / 2 ^ i % 2 < 2:=Nat.mod_lt _ (by decide)
 generalize V / 2 ^ i=x at h
 rw [Nat.and_comm,Nat.and_one_is_mod]
 generalize x % 2=y at h
 have:y=0 ∨ y=1:=by omega
 rcases this with rfl | rfl <;> rfl
theorem qmk (l:List Bool):qo (val l) l.length=l:=by
 induction l with
 | nil=>rfl
 | cons b l ih =>
   rw [List.length_cons]
   unfold qo at ih ⊢
   rw [List.range_succ_eq_map,List.map_cons,List.map_map]
   congr 1
   · unfold bt
     rw [val]
     cases b <;> simp <;> omega
   · conv=>rhs; rw [← ih]
     apply List.map_congr_left
     intro i _
     unfold bt
     simp only [Function.comp]
     rw [val]
     congr 2
     have:((b.toNat+2 * val l:Nat):Int) / 2 ^ (i+1)=((val l:Nat):Int) / 2 ^ i:=by
      rw [Int.pow_succ,Int.mul_comm,← Int.ediv_ediv_of_nonneg (by decide)]
      congr 1
      have:b.toNat≤1:=by cases b <;> simp
      omega
     exact this
theorem val_inj {a b:List Bool} (hl:a.length=b.length) (h:val a=val b):a=b:=by
 rw [← qmk a,← qmk b,h,hl]
def turnN:Nat→Int→Nat→Nat
 | 0,_,out=>out
 | t+1,v,out=>turnN t (v / 2) (2 * out+(v % 2).toNat)
theorem turnN_val (t:Nat):∀ (v:Int) (l:List Bool),turnN t v (val l)=val ((qo v t).reverse ++ l):=by
 induction t with
 | zero=>intro v l; rfl
 | succ t ih =>
   intro v l
   have e:2 * val l+(v % 2).toNat=val (bt v 0 :: l):=by
    rw [val]
    have:=bt_toNat v 0
    rw [Int.pow_zero,Int.ediv_one] at this
    omega
   rw [turnN,e,ih]
   congr 1
   have:qo v (t+1)=bt v 0 :: qo (v / 2) t:=by
    unfold qo
    rw [List.range_succ_eq_map,List.map_cons,List.map_map]
    congr 1
    apply List.map_congr_left
    intro i _
    simp only [Function.comp,bt]
    congr 2
    rw [Int.pow_succ,Int.mul_comm,← Int.ediv_ediv_of_nonneg (by decide)]
   rw [this,List.reverse_cons,List.append_assoc]
   rfl
theorem turnN_eq (t:Nat) (v:Int):turnN t v 0=val (qo v t).reverse:=by
 have:=turnN_val t v []
 simpa [val] using this
theorem bitsOf_turn (t:Nat) (v:Int):qo (turnN t v 0:Nat) t=(qo v t).reverse:=by
 rw [turnN_eq]
 have:=qmk (qo v t).reverse
 rwa [List.length_reverse,ql] at this
def turn (v n:Int):Int:=if 0≤n∧n≤24 then (turnN n.toNat v 0:Nat) else 0
def pb (v n:Int):List Bool:=if 0≤n∧n≤24 then qo v n.toNat else []
theorem pb_turn (v n:Int):pb (turn v n) n=(pb v n).reverse:=by
 unfold pb turn
 split
 · rw [bitsOf_turn]
 · rfl
theorem putL_pb (l:List Bool) (v n:Int):putL l.length n=(l ++ pb v n).length:=by
 unfold putL pb
 split
 · rw [List.length_append,ql]
 · simp
theorem putV_pb (l:List Bool) (v n:Int):putV l.length (val l) v n=val (l ++ pb v n):=by
 unfold putV pb
 split
 · rw [qml,qkn]
 · simp
end Go.Proofs.Ythdmmmfgjmmelaa
namespace Go.Proofs.Ythdmmmfgjmmelaa
set_option linter.unusedVariables false
set_option linter.unusedSimpArgs false
def hc (l:List Int) (n:Nat):Nat:=if n=0 then 0 else l.count (n:Int)
def hf (l:List Int):Nat→Nat
 | 0=>0
 | n+1=>2 * (hf l n+hc l n)
def kr (l:List Int):Nat:=(l.map fun x=>if 0 < x then 2 ^ (15 - x.toNat) else 0).sum
def okL (l:List Int):Prop:=∀ x ∈ l,0≤x∧x≤15
def krN (l:List Int):Nat→Nat
 | 0=>0
 | n+1=>krN l n+hc l (n+1) * 2 ^ (15 - (n+1))
theorem quk (l:List Int) (x:Int) (n:Nat):hc (l ++ [x]) n=hc l n+if 0 < n∧x=n then 1 else 0:=by
 unfold hc
 by_cases h:n=0
 · simp [h]
 · rw [if_neg h,if_neg h,List.count_append,List.count_singleton]
   by_cases h2:x=n
   · simp [h2]; omega
   · simp [h2]
theorem kr_snoc (l:List Int) (x:Int):kr (l ++ [x])=kr l+if 0 < x then 2 ^ (15 - x.toNat) else 0:=by simp [kr]
theorem krN_snoc (l:List Int) (x:Int) (n:Nat) (h0:0≤x):krN (l ++ [x]) n=krN l n+if 0 < x∧x≤n then 2 ^ (15 - x.toNat) else 0:=by
 induction n with
 | zero=>rw [krN,krN,if_neg (by omega)]
 | succ n ih =>
   rw [krN,krN,ih,quk,Nat.add_mul]
   by_cases h:x=((n+1:Nat):Int)
   · rw [if_neg (by omega),if_pos ⟨by omega,h⟩,if_pos (by omega),show x.toNat=n+1 by omega]; omega
   · rw [if_neg (show ¬ (0 < n+1∧x=((n+1:Nat):Int)) from fun e=>h e.2)]
     by_cases h2:0 < x∧x≤(n:Int)
     · rw [if_pos h2,if_pos (by omega)]; omega
     · rw [if_neg h2,if_neg (by omega)]; omega
theorem qmi {P:List Int→Prop} (h0:P []) (h1:∀ l x,P l→P (l ++ [x])) (l:List Int):P l:=by
 have key:∀ l:List Int,P l.reverse:=by
  intro l
  induction l with
  | nil=>exact h0
  | cons x l ih=>rw [List.reverse_cons]; exact h1 _ _ ih
 have:=key l.reverse
 rwa [List.reverse_reverse] at this
theorem kr_eq (l:List Int) (h:okL l):kr l=krN l 15:=by
 induction l using qmi with
 | h0=>simp [kr,krN,hc]
 | h1 l x ih =>
   have hx:=h x (by simp)
   rw [kr_snoc,krN_snoc _ _ _ hx.1,ih (fun y hy=>h y (by simp [hy]))]
   congr 1
   by_cases h2:0 < x
   · rw [if_pos h2,if_pos ⟨h2,by omega⟩]
   · rw [if_neg h2,if_neg (by omega)]
theorem krN_mono (l:List Int):∀ (m n:Nat),n≤m→krN l n≤krN l m:=by
 intro m
 induction m with
 | zero=>intro n h; rw [show n=0 by omega]; omega
 | succ m ih =>
   intro n h
   rcases Nat.lt_or_ge m n with h1 | h1
   · rw [show n=m+1 by omega]; omega
   · have:=ih n h1; rw [krN]; omega
theorem hf_kr (l:List Int):∀ n,n≤15→(hf l n+hc l n) * 2 ^ (15 - n)=krN l n:=by
 intro n
 induction n with
 | zero=>intro _; simp [hf,hc,krN]
 | succ n ih =>
   intro h
   rw [krN,← ih (by omega),hf,Nat.add_mul,show 15 - n=(15 - (n+1))+1 by omega,Nat.pow_succ]
   congr 1
   rw [Nat.mul_comm 2,Nat.mul_assoc,Nat.mul_comm 2]
theorem hf_le (l:List Int) (h:okL l) (hk:kr l≤2 ^ 15) {n:Nat} (hn:n≤15):hf l n+hc l n≤2 ^ n:=by
 have h1:=hf_kr l n hn
 have h2:=krN_mono l 15 n hn
 rw [kr_eq l h] at hk
 have h3:(hf l n+hc l n) * 2 ^ (15 - n)≤2 ^ n * 2 ^ (15 - n):=by
  rw [h1,← Nat.pow_add,show n+(15 - n)=15 by omega]; omega
 exact Nat.le_of_mul_le_mul_right h3 (Nat.pow_pos (by decide))
theorem hf_step (l:List Int) (n:Nat):∀ d,(hf l n+hc l n) * 2 ^ (d+1)≤hf l (n+d+1):=by
 intro d
 induction d with
 | zero=>rw [hf]; omega
 | succ d ih =>
   rw [show n+(d+1)+1=(n+d+1)+1 by omega,hf,Nat.pow_succ,← Nat.mul_assoc]
   omega
def qef (l:List Int) (i:Nat):Nat:=if 0 < l.getD i 0 then hf l (l.getD i 0).toNat+(l.take i).count (l.getD i 0) else 0
def hcodes (l:List Int):List Int:=(List.range l.length).map fun i=>(qef l i:Int)
def qxi (l:List Int) (n:Nat):List Nat:=(List.range l.length).filter fun i=>l.getD i 0 == (n:Int)
def qnd (l:List Int):Nat→List Nat
 | 0=>[]
 | n+1=>qnd l n ++ qxi l (n+1)
theorem qil (l:List Int) (x:Int):(l ++ [x]).getD l.length 0=x:=by simp [List.getD]
theorem qah {l m:List Int} {i:Nat} (h:i < l.length):(l ++ m).getD i 0=l.getD i 0:=by simp [List.getD,List.getElem?_append_left h]
theorem qqj (l:List Int) (x:Int) (n:Nat):qxi (l ++ [x]) n=qxi l n ++ if x=n then [l.length] else []:=by
 unfold qxi
 rw [List.length_append,List.length_singleton,List.range_succ,List.filter_append]
 congr 1
 · apply List.filter_congr
   intro i hi
   rw [qah (List.mem_range.1 hi)]
 · rw [List.filter_cons,qil,List.filter_nil]
   by_cases h:x=n <;> simp [h]
theorem qte (l:List Int) (n:Nat):(qxi l n).length=l.count (n:Int):=by
 induction l using qmi with
 | h0=>rfl
 | h1 l x ih =>
   rw [qqj,List.length_append,ih,List.count_append,List.count_singleton]
   by_cases h:x=n <;> simp [h]
theorem hpos_get (l:List Int) (n:Nat):∀ {k i:Nat},(qxi l n)[k]?=some i→i < l.length∧l.getD i 0=n∧(l.take i).count (n:Int)=k:=by
 induction l using qmi with
 | h0=>intro k i h; simp [qxi] at h
 | h1 l x ih =>
   intro k i h
   rw [qqj] at h
   rcases Nat.lt_or_ge k (qxi l n).length with hk | hk
   · rw [List.getElem?_append_left hk] at h
     obtain ⟨h1,h2,h3⟩:=ih h
     refine ⟨by simp; omega,by rw [qah h1]; exact h2,?_⟩
     rw [List.take_append_of_le_length (by omega)]
     exact h3
   · rw [List.getElem?_append_right hk] at h
     by_cases hx:x=n
     · rw [if_pos hx] at h
       have hk2:k - (qxi l n).length=0:=by
        rcases Nat.lt_or_ge (k - (qxi l n).length) 1 with h1 | h1
        · omega
        · rw [List.getElem?_eq_none (by simpa using h1)] at h; cases h
       rw [hk2] at h
       have hi:l.length=i:=by simpa using h
       subst hi
       refine ⟨by simp,by rw [qil]; exact hx,?_⟩
       rw [List.take_left' rfl,← qte]
       omega
     · rw [if_neg hx] at h; simp at h
theorem hpos_at (l:List Int):∀ {i:Nat},i < l.length→∀ n:Nat,l.getD i 0=n→(qxi l n)[(l.take i).count (n:Int)]?=some i:=by
 induction l using qmi with
 | h0=>intro i h; simp at h
 | h1 l x ih =>
   intro i h n hn
   rw [qqj]
   rcases Nat.lt_or_ge i l.length with hi | hi
   · rw [qah hi] at hn
     have h1:=ih hi n hn
     rw [List.take_append_of_le_length (by omega),List.getElem?_append_left]
     · exact h1
     · rcases Nat.lt_or_ge ((l.take i).count (n:Int)) (qxi l n).length with h2 | h2
       · exact h2
       · rw [List.getElem?_eq_none h2] at h1; cases h1
   · have:i=l.length:=by simp at h; omega
     subst this
     rw [qil] at hn
     rw [List.take_left' rfl,← qte,List.getElem?_append_right (Nat.le_refl _),Nat.sub_self,if_pos hn]
     rfl
theorem rank_lt {l:List Int} {i n:Nat} (hi:i < l.length) (hn:l.getD i 0=n):(l.take i).count (n:Int) < l.count (n:Int):=by
 have h:=hpos_at l hi n hn
 rw [← qte l]
 rcases Nat.lt_or_ge ((l.take i).count (n:Int)) (qxi l n).length with h2 | h2
 · exact h2
 · rw [List.getElem?_eq_none h2] at h; cases h
theorem hcode_ge {l:List Int} {i m n:Nat} (hm:l.getD i 0=m) (hn:n < m):(hf l n+hc l n) * 2 ^ (m - n)≤qef l i:=by
 unfold qef
 rw [hm,if_pos (by omega)]
 have:=hf_step l n (m - n - 1)
 rw [show m - n - 1+1=m - n by omega,show n+(m - n - 1)+1=m by omega] at this
 simp only [Int.toNat_natCast]
 omega
theorem hcode_lt {l:List Int} {i m:Nat} (hi:i < l.length) (hm:l.getD i 0=m) (h0:0 < m):hf l m≤qef l i∧qef l i < hf l m+hc l m:=by
 unfold qef hc
 rw [hm,if_pos (by omega),if_neg (by omega)]
 have:=rank_lt hi hm
 simp only [Int.toNat_natCast]
 omega
def hlong (l:List Int):Nat→Nat
 | 0=>1
 | n+1=>if 0 < l.count ((n+1:Nat):Int) then n+1 else hlong l n
def hdec (l:List Int) (b:List Bool):Nat→Nat→Nat→Nat→Int × Int × Nat
 | 0,_,_,p=>(0,2,p)
 | f+1,n,v,p =>
   match b[p]? with
   | none=>(0,3,p)
   | some x =>
     if 2 * v+x.toNat < hf l n+hc l n then (((qxi l n).getD (2 * v+x.toNat - hf l n) 0:Nat),0,p+1)
     else hdec l b f (n+1) (2 * v+x.toNat) (p+1)
def hnext (l:List Int) (b:List Bool) (p:Nat):Int × Int × Nat:=hdec l b (hlong l 15) 1 0 p
def cbits (c n:Nat):List Bool:=(List.range n).map fun i=>c.testBit (n - 1 - i)
theorem qwj (c n:Nat):(cbits c n).length=n:=by simp [cbits]
theorem long_ge {l:List Int} {m:Nat} (h:0 < l.count (m:Int)):∀ n,m≤n→m≤hlong l n:=by
 intro n
 induction n with
 | zero=>intro h; rw [hlong]; omega
 | succ n ih =>
   intro h1
   rw [hlong]
   split
   · omega
   · rename_i h2
     rcases Nat.lt_or_ge n m with h3 | h3
     · have:m=n+1:=by omega
       subst this; exact absurd h h2
     · exact ih h3
theorem div_bit (c k:Nat):c / 2 ^ k=2 * (c / 2 ^ (k+1))+(c.testBit k).toNat:=by
 rw [Nat.pow_succ,← Nat.div_div_eq_div_mul,Nat.testBit_eq_decide_div_mod_eq]
 by_cases h:c / 2 ^ k % 2=1
 · simp [h]; omega
 · simp [h]; omega
theorem hdec_code {l:List Int} {i m:Nat} (hi:i < l.length) (hm:l.getD i 0=m) (h0:0 < m) {b:List Bool} {p:Nat} (hb:(b.drop p).take m=cbits (qef l i) m) (hsz:qef l i < 2 ^ m) :
 ∀ f j,j < m→m≤f+j→hdec l b f (j+1) (qef l i / 2 ^ (m - j)) (p+j)=((i:Int),0,p+m):=by
 intro f
 induction f with
 | zero=>intro j h1 h2; omega
 | succ f ih =>
   intro j h1 h2
   have hx:b[p+j]?=some ((qef l i).testBit (m - 1 - j)):=by
    have e:((b.drop p).take m)[j]?=some ((qef l i).testBit (m - 1 - j)):=by
     rw [hb]
     unfold cbits
     rw [List.getElem?_map,List.getElem?_range h1]
     rfl
    rw [List.getElem?_take,if_pos h1,List.getElem?_drop] at e
    exact e
   rw [hdec,hx]
   simp only
   have hv:2 * (qef l i / 2 ^ (m - j))+((qef l i).testBit (m - 1 - j)).toNat=qef l i / 2 ^ (m - (j+1)):=by
    rw [div_bit (qef l i) (m - (j+1)),show m - (j+1)+1=m - j by omega,show m - 1 - j=m - (j+1) by omega]
   rw [hv]
   by_cases hj:j+1=m
   · obtain ⟨g1,g2⟩:=hcode_lt hi hm h0
     rw [hj,Nat.sub_self,Nat.pow_zero,Nat.div_one,if_pos g2]
     refine Prod.ext ?_ (Prod.ext rfl ?_)
     · have hh:=hpos_at l hi m hm
       have e:qef l i - hf l m=(l.take i).count (m:Int):=by
        unfold qef
        rw [hm,if_pos (by omega)]
        simp
       show (((qxi l m).getD (qef l i - hf l m) 0:Nat):Int)=(i:Int)
       rw [e,List.getD_eq_getElem?_getD,hh]
       rfl
     · show p+j+1=p+m
       omega
   · have hge:=hcode_ge (l:=l) hm (show j+1 < m by omega)
     have:¬ qef l i / 2 ^ (m - (j+1)) < hf l (j+1)+hc l (j+1):=by
      have:=(Nat.le_div_iff_mul_le (Nat.pow_pos (by decide):0 < 2 ^ (m - (j+1)))).2 hge
      omega
     rw [if_neg this]
     have:=ih (j+1) (by omega) (by omega)
     rw [show p+j+1=p+(j+1) by omega]
     exact this
theorem hnext_code {l:List Int} (hl:okL l) {i m:Nat} (hi:i < l.length) (hm:l.getD i 0=m) (h0:0 < m) {b:List Bool} {p:Nat} (hb:(b.drop p).take m=cbits (qef l i) m) (hsz:qef l i < 2 ^ m):hnext l b p=((i:Int),0,p+m):=by
 have hmem:(m:Int) ∈ l:=by
  rw [← hm]
  simp [List.getD,List.getElem?_eq_getElem hi]
 have hm15:m≤15:=by have:=(hl _ hmem).2; omega
 have:=hdec_code hi hm h0 hb hsz (hlong l 15) 0 h0 (by have:=long_ge (List.count_pos_iff.2 hmem) 15 hm15; omega)
 rw [Nat.sub_zero,Nat.div_eq_of_lt hsz,Nat.add_zero] at this
 exact this
end Go.Proofs.Ythdmmmfgjmmelaa
namespace Go.Proofs.Ythdmmmfgjmmelaa
set_option linter.unusedVariables false
set_option linter.unusedSimpArgs false
theorem lext {l m:List Int} (hl:l.length=m.length) (h:∀ j,j < l.length→l.getD j 0=m.getD j 0):l=m:=by
 apply List.ext_getElem hl
 intro j h1 h2
 have:=h j h1
 simpa [List.getD,List.getElem?_eq_getElem h1,List.getElem?_eq_getElem h2] using this
theorem getD_setL {l:List Int} {i j:Nat} {v:Int} (h:i < l.length):(l.set i v).getD j 0=if i=j then v else l.getD j 0:=by
 rw [List.getD_eq_getElem?_getD,List.getElem?_set]
 split
 · rename_i e; subst e; simp [h]
 · rw [List.getD_eq_getElem?_getD]
theorem qsk {xs:List Int} {i:Nat} (h:i < xs.length):xs.take (i+1)=xs.take i ++ [xs.getD i 0]:=by
 rw [List.take_succ_eq_append_getElem h]
 simp [List.getD,List.getElem?_eq_getElem h]
theorem qrf {xs:List Int} {i:Nat} (h:i < xs.length):xs.getD i 0 ∈ xs:=by simp [List.getD,List.getElem?_eq_getElem h]
def qek (n:Nat) (f:Nat→Int):List Int:=(List.range n).map f
theorem quc (n:Nat) (f:Nat→Int):(qek n f).length=n:=by simp [qek]
theorem qse {n i:Nat} {f:Nat→Int} (h:i < n):(qek n f).getD i 0=f i:=by
 unfold qek
 rw [List.getD_eq_getElem?_getD,List.getElem?_map,List.getElem?_range h]
 rfl
theorem qkd {n:Nat} {f g:Nat→Int} (h:∀ i,i < n→f i=g i):qek n f=qek n g:=by
 unfold qek
 exact List.map_congr_left fun i hi=>h i (List.mem_range.1 hi)
theorem qpi {n i:Nat} {f:Nat→Int} {v:Int}:(qek n f).set i v=qek n fun m=>if m=i then v else f m:=by
 apply lext
 · simp [qek]
 · intro j hj
   rw [List.length_set,quc] at hj
   rw [qse hj]
   by_cases hi:i < n
   · rw [getD_setL (by rw [quc]; exact hi),qse hj]
     by_cases e:i=j
     · rw [if_pos e,if_pos e.symm]
     · rw [if_neg e,if_neg fun h=>e h.symm]
   · rw [List.set_eq_of_length_le (by rw [quc]; omega),qse hj,if_neg (by omega)]
theorem qbk (n:Nat):List.replicate n 0=qek n fun _=>0:=by
 apply lext
 · simp [qek]
 · intro j hj
   have hj:j < n:=by simpa using hj
   rw [qse hj]
   simp [List.getD,List.getElem?_replicate,hj]
end Go.Proofs.Ythdmmmfgjmmelaa
namespace Go.Proofs.Ythdmmmfgjmmelaa
set_option linter.unusedVariables false
set_option linter.unusedSimpArgs false
instance (l:List Int):Decidable (okL l):=inferInstanceAs (Decidable (∀ x ∈ l,0≤x∧x≤15))
def hchk (l:List Int):Bool × Int:=if 288 < l.length then (false,1) else if ¬ okL l then (false,1) else if 32768 < kr l then (false,2) else (decide (kr l=32768),0)
theorem hchk_ok {l:List Int} (h:(hchk l).2=0):okL l∧kr l≤32768∧l.length≤288∧(hchk l).1=decide (kr l=32768):=by
 unfold hchk at h ⊢
 split at h
 · cases h
 · split at h
   · cases h
   · split at h
     · cases h
     · rename_i h1 h2 h3
       rw [if_neg h1,if_neg h2,if_neg h3]
       exact ⟨Decidable.not_not.1 h2,by omega,by omega,rfl⟩
theorem okL_snoc {l:List Int} {x:Int} (h:okL (l ++ [x])):okL l∧0≤x∧x≤15:=⟨fun y hy=>h y (by simp [hy]),h x (by simp)⟩
def clL (l:List Int):List Int:=qek 16 fun n=>(hc l n:Int)
theorem qae (l:List Int):(clL l).length=16:=quc _ _
theorem qwm (l:List Int) {n:Nat} (h:n < 16):(clL l).getD n 0=hc l n:=qse h
theorem clL_nil:clL []=List.replicate 16 0:=by decide
theorem clL_pos {l:List Int} {x:Int} (h0:0 < x) (h1:x≤15):(clL l).set x.toNat ((hc l x.toNat:Int)+1)=clL (l ++ [x]):=by
 unfold clL
 rw [qpi]
 refine qkd fun i hi=>?_
 rw [quk]
 by_cases h:i=x.toNat
 · rw [if_pos h,if_pos (by omega),h]; omega
 · rw [if_neg h,if_neg (by omega)]; omega
theorem clL_no {l:List Int} {x:Int} (h0:x≤0):clL (l ++ [x])=clL l:=by
 unfold clL
 refine qkd fun i hi=>?_
 rw [quk,if_neg (by omega)]
 omega
theorem hc_le (l:List Int) (n:Nat):hc l n≤l.length:=by
 unfold hc
 split
 · omega
 · exact List.count_le_length
theorem kr_le (l:List Int):kr l≤l.length * 16384:=by
 induction l using qmi with
 | h0=>simp [kr]
 | h1 l x ih =>
   rw [kr_snoc,List.length_append,List.length_singleton]
   have:(if 0 < x then 2 ^ (15 - x.toNat) else 0)≤16384:=by
    split
    · exact Nat.le_trans (Nat.pow_le_pow_right (by decide) (show 15 - x.toNat≤14 by omega)) (by decide)
    · omega
   omega
theorem hsyms_snoc {l:List Int} {x:Int} (h0:0≤x) (n:Nat):(qnd (l ++ [x]) n).length=(qnd l n).length+if 0 < x∧x≤n then 1 else 0:=by
 induction n with
 | zero=>rw [qnd,qnd,if_neg (by omega)]; rfl
 | succ n ih =>
   rw [qnd,qnd,List.length_append,List.length_append,ih,qqj,List.length_append]
   by_cases h:x=((n+1:Nat):Int)
   · rw [if_neg (by omega),if_pos h,if_pos (by omega)]; simp; omega
   · rw [if_neg h]
     by_cases h2:0 < x∧x≤(n:Int)
     · rw [if_pos h2,if_pos (by omega)]; simp; omega
     · rw [if_neg h2,if_neg (by omega)]; simp
theorem sum_syms (l:List Int) (h:okL l):(2 * (qnd l 15).length:Int) - hc l 1≤(l.filter (0 < ·)).sum∧hc l 1≤(qnd l 15).length∧(hc l 1=(qnd l 15).length→(l.filter (0 < ·)).sum=((qnd l 15).length:Int)):=by
 induction l using qmi with
 | h0=>simp [qnd,qxi,hc]
 | h1 l x ih =>
   obtain ⟨hl,hx0,hx1⟩:=okL_snoc h
   obtain ⟨i1,i2,i3⟩:=ih hl
   rw [hsyms_snoc hx0,quk,List.filter_append,List.sum_append]
   by_cases h0:0 < x
   · have e:([x].filter (0 < ·)).sum=x:=by simp [h0]
     rw [e,if_pos (show 0 < x∧x≤((15:Nat):Int) by omega)]
     by_cases h1:x=((1:Nat):Int)
     · rw [if_pos ⟨by decide,h1⟩]
       refine ⟨by omega,by omega,fun e=>?_⟩
       have:=i3 (by omega)
       omega
     · rw [if_neg (fun e=>h1 e.2)]
       refine ⟨by omega,by omega,fun e=>by omega⟩
   · have e:([x].filter (0 < ·)).sum=0:=by simp [h0]
     rw [e,if_neg (by omega),if_neg (by omega)]
     simpa using ⟨i1,i2,i3⟩
def hhalf (l:List Int):Bool:=decide ((qnd l 15).length=0 ∨ ((qnd l 15).length=1∧hc l 1=1))
theorem hhalf_eq {l:List Int} (h:okL l):hhalf l=decide ((l.filter (0 < ·)).sum≤1):=by
 obtain ⟨h1,h2,h3⟩:=sum_syms l h
 unfold hhalf
 apply Bool.eq_iff_iff.2
 rw [decide_eq_true_eq,decide_eq_true_eq]
 constructor
 · rintro (h4 | ⟨h4,h5⟩)
   · have:=h3 (by omega); omega
   · have:=h3 (by omega); omega
 · intro h4; omega
def qih (l:List Int) (half:Bool):Int:=if (hchk l).2 ≠ 0 then (hchk l).2 else if (hchk l).1=false∧(half && hhalf l)=false then 2 else 0
theorem hnew_ok {l:List Int} {half:Bool} (h:qih l half=0):(hchk l).2=0:=by
 unfold qih at h
 split at h
 · rename_i h1; exact absurd h h1
 · rename_i h1; exact Decidable.not_not.1 h1
theorem hsyms_last {l:List Int}:∀ n,hlong l n=if qnd l n=[] then 1 else (l.getD ((qnd l n).getD ((qnd l n).length - 1) 0) 0).toNat:=by
 intro n
 induction n with
 | zero=>rfl
 | succ n ih =>
   rw [hlong,qnd]
   have hl:=qte l (n+1)
   by_cases h:0 < l.count ((n+1:Nat):Int)
   · rw [if_pos h,if_neg (by intro e; have:=congrArg List.length e; rw [List.length_append,hl,List.length_nil] at this; omega)]
     have e:(qnd l n ++ qxi l (n+1)).getD ((qnd l n ++ qxi l (n+1)).length - 1) 0=(qxi l (n+1)).getD ((qxi l (n+1)).length - 1) 0:=by
      rw [List.length_append,List.getD_eq_getElem?_getD,List.getElem?_append_right (by omega),List.getD_eq_getElem?_getD]
      congr 2; omega
     rw [e]
     have hk:(qxi l (n+1)).length - 1 < (qxi l (n+1)).length:=by omega
     have:=hpos_get l (n+1) (List.getElem?_eq_getElem hk)
     have e2:(qxi l (n+1)).getD ((qxi l (n+1)).length - 1) 0=(qxi l (n+1))[(qxi l (n+1)).length - 1]:=by
      rw [List.getD_eq_getElem?_getD,List.getElem?_eq_getElem hk]; rfl
     rw [e2,this.2.1]
     omega
   · rw [if_neg h]
     have:qxi l (n+1)=[]:=List.eq_nil_of_length_eq_zero (by omega)
     rw [this,List.append_nil,ih]
theorem hsyms_mem {l:List Int}:∀ n,∀ i ∈ qnd l n,i < l.length∧0 < l.getD i 0:=by
 intro n
 induction n with
 | zero=>intro i h; simp [qnd] at h
 | succ n ih =>
   intro i h
   rw [qnd] at h
   rcases List.mem_append.1 h with h | h
   · exact ih i h
   · obtain ⟨k,hk⟩:=List.getElem?_of_mem h
     obtain ⟨h1,h2,_⟩:=hpos_get l (n+1) hk
     exact ⟨h1,by omega⟩
theorem hlong_le (l:List Int):∀ n,1≤n→1≤hlong l n∧hlong l n≤n:=by
 intro n
 induction n with
 | zero=>intro h; omega
 | succ n ih =>
   intro _
   rw [hlong]
   split
   · omega
   · cases n with
     | zero=>rw [hlong]; omega
     | succ n=>have:=ih (by omega); omega
theorem hsyms_at (l:List Int):∀ (m n k:Nat),0 < n→n≤m→k < l.count (n:Int)→(qnd l m)[(qnd l (n - 1)).length+k]?=(qxi l n)[k]?:=by
 intro m
 induction m with
 | zero=>intro n k h1 h2; omega
 | succ m ih =>
   intro n k h1 h2 h3
   rw [qnd]
   by_cases e:n=m+1
   · subst e
     rw [Nat.add_sub_cancel,List.getElem?_append_right (by omega)]
     congr 1; omega
   · have:=ih n k h1 (by omega) h3
     rw [List.getElem?_append_left,this]
     rw [← qte] at h3
     rw [List.getElem?_eq_getElem h3] at this
     exact (List.getElem?_eq_some_iff.1 this).1
theorem hcodes_length (l:List Int):(hcodes l).length=l.length:=by simp [hcodes]
theorem hcodes_getD (l:List Int) {i:Nat} (h:i < l.length):(hcodes l).getD i 0=qef l i:=qse (f:=fun i=>(qef l i:Int)) h
theorem hcode_eq {l:List Int} {i m:Nat} (hm:l.getD i 0=m) (h0:0 < m):qef l i=hf l m+hc (l.take i) m:=by
 unfold qef hc
 rw [hm,if_pos (by omega),if_neg (by omega)]
 simp
theorem hcode_no {l:List Int} {i:Nat} (h:l.getD i 0≤0):qef l i=0:=by unfold qef; rw [if_neg (by omega)]
theorem qwl (l:List Int) (h:okL l) (hk:kr l≤32768) {n:Nat} (hn:n≤15):hf l n+hc l n≤32768:=by
 have:=hf_le l h (by rw [show (2:Nat) ^ 15=32768 by decide]; exact hk) hn
 exact Nat.le_trans this (Nat.le_trans (Nat.pow_le_pow_right (by decide) hn) (by decide))
theorem qip {l:List Int} (h:okL l) (hk:kr l≤32768) {i m:Nat} (hi:i < l.length) (hm:l.getD i 0=m) (h0:0 < m):qef l i < 2 ^ m:=by
 have h15:m≤15:=by have:=(h _ (qrf hi)).2; omega
 have:=(hcode_lt hi hm h0).2
 have:=hf_le l h (by rw [show (2:Nat) ^ 15=32768 by decide]; exact hk) h15
 omega
end Go.Proofs.Ythdmmmfgjmmelaa
namespace Go.Proofs.Ythdmmmfgjmmelaa
open Go Go.Proofs
set_option linter.unusedVariables false
set_option linter.unusedSimpArgs false
attribute [local irreducible] apK cpK mkK
theorem orV_comm (k:IntKind) (a b:Int):orV k a b=orV k b a:=by unfold orV; rw [BitVec.or_comm]
theorem orV_add' (k:IntKind) {a b:Nat} {t:Nat} (ha:a < 2 ^ t) (hs:a+b * 2 ^ t < 2 ^ (k.bits - 1)):orV k ((b:Int) * 2 ^ t) (a:Int)=(a:Int)+(b:Int) * 2 ^ t:=by
 rw [orV_comm,orV_add k ha hs]
theorem andV_one (k:IntKind) (x:Int):andV k x 1=x % 2:=by
 have h:=qym k x (t:=1) (Nat.lt_of_lt_of_le (by decide) (bits_pos k))
 simpa using h
section
variable {F0:List Nat} {w0 w:World} {ps:List As}
theorem St.nil (sz:Nat) (h:St F0 w0 w ps):St F0 w0 w (qdc sz ⟨none,0,0⟩ [] :: ps) :=
 h.add (f':=[]) (Mod.refl _ _) (Or.inl ⟨rfl,rfl,rfl⟩) (Gr.refl _ _)
def wrL (wb:Nat) (l:List Bool):As:=wrA wb l.length (val l)
theorem wrL_o {wb:Nat} {l:List Bool} (h:St F0 w0 w (wrL wb l :: ps)):∃ s:Sl,St F0 w0 w (qxc wb [.slice s.a s.len s.cap,.int .u64 ((val l / 2 ^ (8 * (l.length / 8)):Nat):Int),.int .i64 ((l.length - 8 * (l.length / 8):Nat):Int)] :: qdc 1 s (u8s (byt (val l) (l.length / 8))) :: ps):=by
 obtain ⟨s,h⟩:=h.exE
 obtain ⟨_,h⟩:=h.ifE
 exact ⟨s,h.split⟩
theorem wrL_i {wb:Nat} {l:List Bool} {s:Sl} (h:St F0 w0 w (qxc wb [.slice s.a s.len s.cap,.int .u64 ((val l / 2 ^ (8 * (l.length / 8)):Nat):Int),.int .i64 ((l.length - 8 * (l.length / 8):Nat):Int)] :: qdc 1 s (u8s (byt (val l) (l.length / 8))) :: ps)):St F0 w0 w (wrL wb l :: ps) :=
 (h.join.ifI (c:=8 * (l.length / 8)≤l.length∧val l < 2 ^ l.length) ⟨by omega,val_lt l⟩).exI (p:=fun s:Sl=>ifA (8 * (l.length / 8)≤l.length∧val l < 2 ^ l.length) <| andA
 (qxc wb [.slice s.a s.len s.cap,.int .u64 ((val l / 2 ^ (8 * (l.length / 8)):Nat):Int),.int .i64 ((l.length - 8 * (l.length / 8):Nat):Int)]) (qdc 1 s (u8s (byt (val l) (l.length / 8))))) s
theorem qie.c {K:Ending→World→Prop} (h:St F0 w0 w ps)
 (hk:∀ wb w',St F0 w0 w' (wrL wb [] :: ps)→K (.returned (.pointer (some ⟨wb,0,none⟩))) w'):Calls Try.prog 18 ⟨[]⟩ w K:=by
 refine qoc (qie.ok _ _ ?_)
 unfold qie
 refine (h.nil 1).new fun nb w h=>?_
 refine hk nb w ?_
 exact wrL_i (s:=⟨none,0,0⟩) (l:=[]) h
theorem qdb.cl {wb:Nat} {l:List Bool} {v n:Int} {K:Ending→World→Prop} (h:St F0 w0 w (wrL wb l :: ps)) (hL:l.length≤549755813888)
 (hk:∀ w',St F0 w0 w' (wrL wb (l ++ pb v n) :: ps)→K (.returned (.tuple ⟨[]⟩)) w'):Calls Try.prog 91 ⟨[.pointer (some ⟨wb,0,none⟩),.int .i64 v,.int .i64 n]⟩ w K:=by
 refine qdb.c h hL fun w h=>hk w ?_
 rw [putL_pb l v n,putV_pb] at h
 exact h
theorem turn_step {out:Nat} {v:Int} {i:Nat} (ho:out < 2 ^ i) (hi:i < 24):orV .i64 (qej .i64 (out:Int) 1) (andV .i64 v 1)=((2 * out+(v % 2).toNat:Nat):Int):=by
 have hb:out < 2 ^ 24:=Nat.lt_of_lt_of_le ho (Nat.pow_le_pow_right (by decide) (by omega))
 rw [andV_one,shlV_lit .i64 (x:=(out:Int)) (y:=1) (t:=1) rfl (by decide) (by omega) (by
  show (out:Int) * 2 ^ 1 < 2 ^ 63
  omega)]
 have e:v % 2=((v % 2).toNat:Int):=by omega
 have h2:(v % 2).toNat < 2:=by omega
 rw [e,orV_add' .i64 (t:=1) (by omega) (by
  show _ < 2 ^ 63
  omega)]
 omega
theorem qrc.loop {v:Int} {n out i:Nat} {Q:VWP} (hi:i≤n) (hn:n≤24) (ho:out < 2 ^ i) (hq:Q (.int .i64 (turnN (n - i) v out:Nat)) w):qrc.l1 n v out i Q w:=by
 refine loop3 (fun (a:Nat × Nat) v' (out':Int) (i':Int) w'=>out'=a.1∧i'=a.2∧a.2≤n∧a.1 < 2 ^ a.2∧turnN (n - a.2) v' a.1=turnN (n - i) v out∧w'=w) (fun a=>n - a.2) (out,i) ⟨rfl,rfl,hi,ho,rfl,rfl⟩ ?_
 rintro ⟨o,i⟩ v' out' i' w' I μ ⟨rfl,rfl,h1,h2,h3,rfl⟩ hin
 simp only at h1 h2 h3 hin ⊢
 unfold qrc.b1
 refine qzc (fun h=>?_) (fun h=>?_)
 · refine ⟨by omega,?_⟩
   refine qcj (qcj ?_)
   refine qy (turn_step h2 (by omega)) ?_
   refine ⟨by omega,?_⟩
   refine qy (qdl .i64 _ (t:=1) (by decide)) ?_
   refine qy (qk (by omega) (by omega)) ?_
   refine ⟨rfl,hin (2 * o+(v' % 2).toNat,i+1) _ _ _ _ ⟨rfl,by simp,by simp only; omega,by simp only; rw [Nat.pow_succ]; omega,?_,rfl⟩ (by simp only; omega)⟩
   simp only
   rw [← h3,show n - i=(n - (i+1))+1 by omega,turnN]
   rfl
 · have:i=n:=by omega
   subst this
   unfold qrc.j3
   rw [Nat.sub_self,turnN] at h3
   rw [h3]; exact hq
theorem qrc.c {v n:Int} {K:Ending→World→Prop} (hk:K (.returned (.int .i64 (turn v n))) w):Calls Try.prog 92 ⟨[.int .i64 v,.int .i64 n]⟩ w K:=by
 refine qoc (qrc.ok _ _ _ _ ?_)
 unfold qrc qrc.j1
 refine qzc (fun h1=>?_) (fun h1=>?_)
 · rwa [turn,if_neg (by omega)] at hk
 refine qzc (fun h2=>?_) (fun h2=>?_)
 · rwa [turn,if_neg (by omega)] at hk
 rw [turn,if_pos (by omega)] at hk
 obtain ⟨t,rfl⟩:∃ t:Nat,n=t:=⟨n.toNat,by omega⟩
 exact qrc.loop (i:=0) (out:=0) (by omega) (by omega) (by decide) hk
theorem qoe.c {wb:Nat} {l:List Bool} {v n:Int} {K:Ending→World→Prop} (h:St F0 w0 w (wrL wb l :: ps)) (hL:l.length≤549755813888)
 (hk:∀ w',St F0 w0 w' (wrL wb (l ++ (pb v n).reverse) :: ps)→K (.returned (.tuple ⟨[]⟩)) w'):Calls Try.prog 49 ⟨[.pointer (some ⟨wb,0,none⟩),.int .i64 v,.int .i64 n]⟩ w K:=by
 refine qoc (qoe.ok _ _ _ _ _ ?_)
 unfold qoe
 refine qrc.c ⟨_,rfl,?_⟩
 refine qdb.cl h hL fun w h=>⟨rfl,?_⟩
 rw [pb_turn] at h
 exact hk w h
def pad (l:List Bool):List Bool:=List.replicate ((8 - l.length % 8) % 8) false
theorem pb_no (n:Nat) (h:n≤24):pb 0 n=List.replicate n false:=by
 unfold pb
 rw [if_pos (by omega),Int.toNat_natCast]
 apply List.ext_getElem
 · simp [qo]
 · intro i h1 h2
   simp [qo,bt]
theorem qwd.c {wb:Nat} {l:List Bool} {K:Ending→World→Prop} (h:St F0 w0 w (wrL wb l :: ps)) (hL:l.length≤549755813888)
 (hk:∀ w',St F0 w0 w' (wrL wb (l ++ pad l) :: ps)→K (.returned (.tuple ⟨[]⟩)) w'):Calls Try.prog 124 ⟨[.pointer (some ⟨wb,0,none⟩)]⟩ w K:=by
 refine qoc (qwd.ok _ _ _ ?_)
 unfold qwd
 obtain ⟨s,h⟩:=wrL_o h
 refine qrd (h.blk.ldI (o:=2) rfl ?_)
 refine qzc (fun h1=>?_) (fun h1=>?_)
 · refine qrd (h.blk.ldI (o:=2) rfl ?_)
   refine qy (qk (by omega) (by omega)) ?_
   have e:(8:Int) - ((l.length - 8 * (l.length / 8):Nat):Int)=((8 - l.length % 8:Nat):Int):=by omega
   rw [e]
   refine qdb.cl (wrL_i h) hL fun w h=>⟨rfl,hk w ?_⟩
   rw [pb_no _ (by omega)] at h
   unfold pad
   rwa [Nat.mod_eq_of_lt (by omega)]
 · have:(8 - l.length % 8) % 8=0:=by omega
   refine hk w ?_
   unfold pad
   rw [this]
   simpa using wrL_i h
theorem qpe.c {wb:Nat} {l:List Bool} {v:Int} {K:Ending→World→Prop} (h:St F0 w0 w (wrL wb l :: ps)) (hL:l.length≤274877906944) (hv:0≤v∧v < 256)
 (hk:∀ w',St F0 w0 w' (wrL wb (l ++ pad l ++ qo v 8) :: ps)→K (.returned (.tuple ⟨[]⟩)) w'):Calls Try.prog 125 ⟨[.pointer (some ⟨wb,0,none⟩),.int .u8 v]⟩ w K:=by
 refine qoc (qpe.ok _ _ _ _ ?_)
 unfold qpe
 refine qwd.c h (by omega) fun w h=>⟨rfl,?_⟩
 have hm:(l ++ pad l).length % 8=0:=by
  rw [List.length_append,pad,List.length_replicate]; omega
 have hle:(l ++ pad l).length≤l.length+8:=by
  rw [List.length_append,pad,List.length_replicate]; omega
 generalize l ++ pad l=l' at h hm hle hk
 obtain ⟨s,h⟩:=wrL_o h
 refine qrd (h.blk.ldL (o:=0) rfl ?_)
 refine h.new fun nb w h=>?_
 refine h.rdB rfl ?_
 have h:=h.drop.at1
 refine h.append_u8 (by rw [quf]; omega) rfl fun s3 w h=>?_
 have h:=h.at1
 refine qrd (h.st (o:=0) (by simp) trivial fun w h=>?_)
 refine hk w ?_
 have hV:=val_lt l'
 have e0:8 * (l'.length / 8)=l'.length:=by omega
 have e1:(l' ++ qo v 8).length / 8=l'.length / 8+1:=by rw [List.length_append,ql]; omega
 have hw:=val_lt (qo v 8)
 have hw2:=qai v 8
 rw [ql] at hw
 refine wrL_i (s:=s3) ?_
 have ev:val (l' ++ qo v 8)=val l'+2 ^ l'.length * val (qo v 8):=qml _ _
 have c1:val (l' ++ qo v 8) / 2 ^ (8 * ((l' ++ qo v 8).length / 8))=0:=by
  have:=val_lt (l' ++ qo v 8)
  rw [e1,show 8 * (l'.length / 8+1)=(l' ++ qo v 8).length by rw [List.length_append,ql]; omega]
  exact Nat.div_eq_of_lt this
 have c2:(l' ++ qo v 8).length - 8 * ((l' ++ qo v 8).length / 8)=0:=by
  rw [e1,List.length_append,ql]; omega
 have c3:byt (val (l' ++ qo v 8)) ((l' ++ qo v 8).length / 8)=byt (val l') (l'.length / 8) ++ [v]:=by
  rw [e1,qxm,ev,byt_above _ _ _ _ (by omega)]
  congr 2
  rw [e0,Nat.add_mul_div_left _ _ (Nat.pow_pos (by decide)),Nat.div_eq_of_lt hV]
  omega
 rw [c1,c2,c3]
 have d1:val l' / 2 ^ (8 * (l'.length / 8))=0:=by rw [e0]; exact Nat.div_eq_of_lt hV
 have d2:l'.length - 8 * (l'.length / 8)=0:=by omega
 rw [d1,d2] at h
 exact h
theorem qed.c {s:Sl} {xs:List Int} {K:Ending→World→Prop} (h:St F0 w0 w ps) (hr:Rd w 1 s (u8s xs)) (hlen:xs.length≤35184372088832)
 (hk:∀ s' w',St F0 w0 w' (qdc 1 s' (u8s xs) :: ps)→K (.returned (.slice s'.a s'.len s'.cap)) w'):Calls Try.prog 50 ⟨[.slice s.a s.len s.cap]⟩ w K:=by
 refine qoc (qed.ok _ _ _ ?_)
 unfold qed
 have hl:=hr.1
 rw [qfg] at hl
 refine qpf (fun h1=>?_) (fun h1=>?_)
 · have hx:xs=[]:=by
    cases xs with
    | nil=>rfl
    | cons x xs =>
      obtain ⟨a,ha,_⟩:=hr.2 0 (by simp [u8s])
      rw [ha] at h1; cases h1
   subst hx
   exact hk ⟨none,0,0⟩ w (h.nil 1)
 · refine h.newM fun nb w1 hm h=>?_
   have hr1:=hr.keep hm (by simp)
   refine hr1.rdO (by rw [hr1.1]) ?_
   have h1:(Try.t5).size=1:=rfl
   have h2:(Try.t5).bytes=1:=rfl
   have h4:(zc Try.prog 5).size=1:=by rw [zc_u8]; rfl
   have h5:(Try.t5).bytes ≠ 0:=by rw [h2]; decide
   have h:St F0 w0 w1 (qdc 1 ⟨some ⟨nb,0,none⟩,0,0⟩ [] :: ps):=by
    refine h.mp ?_
    rintro F ⟨hb,rfl⟩
    exact Or.inr ⟨nb,[],rfl,hb,rfl,rfl,rfl⟩
   refine St.append (i:=Try.t5) (sz:=1) (m:=s.len) (s:=⟨some ⟨nb,0,none⟩,0,0⟩) info_u8 h1 (by decide) h4 h5 (by rw [h2]; show (2 * (0+s.len)+1024) * 1≤_; omega) h (by
    show (u8s xs).length=_
    exact hr.1) (by
    intro v hv
    have hv:v ∈ u8s xs:=by simpa using hv
    obtain ⟨n,_,rfl⟩:=List.mem_map.1 hv
    trivial) fun s' w' h _=>hk s' w' h
def bytes (l:List Bool):List Int:=byt (val l) ((l.length+7) / 8)
theorem qcd.c {s:Sl} {cs:List Value} {K:Ending→World→Prop} (h:St F0 w0 w (rdA 1 s cs :: ps)) (hc:s.len≤s.cap)
 (hk:∀ s':Sl,s'.len=s.len→s'.cap=s.len→St F0 w0 w (rdA 1 s' cs :: ps)→K (.returned (.slice s'.a s'.len s'.cap)) w):Calls Try.prog 51 ⟨[.slice s.a s.len s.cap]⟩ w K:=by
 refine qoc (qcd.ok _ _ _ ?_)
 unfold qcd
 refine ⟨⟨by omega,by omega⟩,⟨by omega,by omega⟩,qcj ?_⟩
 refine hk ⟨_,_,_⟩ (by simp) (by simp) (h.recap ?_ (by simp))
 show qzf s.a _ 0 1=s.a
 unfold qzf
 split
 · rfl
 · cases s.a with
   | none=>rfl
   | some a=>simp [Addr.add]
theorem St.cap {sz:Nat} {s:Sl} {cs:List Value} (hsz:0 < sz) (h:St F0 w0 w (qdc sz s cs :: ps)):s.len≤s.cap:=by
 obtain ⟨F,ho⟩:=h.own
 rcases ho with ⟨rfl,_,_⟩ | ⟨ob,rest,_,_,h2,h3,_⟩
 · exact Nat.le_refl 0
 · rw [List.length_append] at h3
   have:s.len * sz≤s.cap * sz:=by omega
   exact Nat.le_of_mul_le_mul_right this hsz
theorem qsd.c {wb:Nat} {l:List Bool} {K:Ending→World→Prop} (h:St F0 w0 w (wrL wb l :: ps)) (hL:l.length≤274877906944)
 (hk:∀ s w',s.len=(l.length+7) / 8→s.cap=s.len→St F0 w0 w' (rdA 1 s (u8s (bytes l)) :: wrL wb l :: ps)→K (.returned (.slice s.a s.len s.cap)) w'):Calls Try.prog 22 ⟨[.pointer (some ⟨wb,0,none⟩)]⟩ w K:=by
 refine qoc (qsd.ok _ _ _ ?_)
 unfold qsd
 obtain ⟨s,h⟩:=wrL_o h
 refine qrd (h.blk.ldL (o:=0) rfl ?_)
 refine qed.c h h.at1.ord (by rw [quf]; omega) fun s1 w h=>⟨s1,rfl,?_⟩
 refine qrd (h.blk1.ldI (o:=2) rfl ?_)
 refine qzc (fun h1=>?_) (fun h1=>?_)
 · refine qrd (h.blk1.ldI (o:=1) rfl ?_)
   refine qy (qhn _) ?_
   refine h.new fun nb w h=>?_
   refine h.rdB rfl ?_
   have h:=h.drop
   refine h.append_u8 (by rw [quf]; omega) rfl fun s2 w h=>?_
   have e:bytes l=byt (val l) (l.length / 8) ++ [((val l / 2 ^ (8 * (l.length / 8)):Nat):Int) % 256]:=by
    unfold bytes
    rw [show (l.length+7) / 8=l.length / 8+1 by omega,qxm]
    congr 1
   rw [← e] at h
   have hcap:=h.cap (by decide)
   have hlen:=h.len
   rw [qfg,bytes,quf] at hlen
   have h:=h.ro
   refine qcd.c h hcap fun s3 hs1 hs2 h=>⟨s3,rfl,hk s3 w (by omega) (by omega) ?_⟩
   exact h.tail fun _ _ _ h=>wrL_i h
 · have e:bytes l=byt (val l) (l.length / 8):=by
    unfold bytes
    rw [show (l.length+7) / 8=l.length / 8 by omega]
   have hcap:=h.cap (by decide)
   rw [← e] at h
   have hlen:=h.len
   rw [qfg,bytes,quf] at hlen
   have h:=h.ro
   refine qcd.c h hcap fun s3 hs1 hs2 h=>⟨s3,rfl,hk s3 w (by omega) (by omega) ?_⟩
   rw [e] at h ⊢
   exact h.tail fun _ _ _ h=>wrL_i h
end
end Go.Proofs.Ythdmmmfgjmmelaa
namespace Go.Proofs.Ythdmmmfgjmmelaa
open Go Go.Proofs
set_option linter.unusedVariables false
set_option linter.unusedSimpArgs false
attribute [local irreducible] apK cpK mkK
def rrA (rb V N at':Nat):As:=exA fun s:Sl=>andA (qxc rb [.slice s.a s.len s.cap,.int .i64 (at':Int)]) (qdc 1 s (u8s (byt V N)))
def getOk (N at':Nat) (n:Int):Bool:=decide (0≤n∧n≤24∧n≤8 * (N:Int) - at')
theorem byt_get {V N i:Nat} (h:i < N):(u8s (byt V N))[i]?=some (.int .u8 ((V / 2 ^ (8 * i) % 256:Nat):Int)):=by
 simp [u8s,byt,h]
theorem get_bits (V at' k:Nat) (h:at' % 8+k≤8):V / 2 ^ (8 * (at' / 8)) % 256 / 2 ^ (at' % 8) % 2 ^ k=V / 2 ^ at' % 2 ^ k:=by
 have e:V / 2 ^ at'=V / 2 ^ (8 * (at' / 8)) / 2 ^ (at' % 8):=by
  rw [Nat.div_div_eq_div_mul,← Nat.pow_add]
  congr 2
  omega
 rw [e]
 generalize V / 2 ^ (8 * (at' / 8))=X
 generalize at' % 8=r at h
 have e2:(256:Nat)=2 ^ r * (2 ^ k * 2 ^ (8 - r - k)):=by
  rw [← Nat.pow_add,← Nat.pow_add,show r+(k+(8 - r - k))=8 by omega]
 rw [e2,Nat.mod_mul_right_div_self,Nat.mod_mul_right_mod]
theorem get_step (V a i k:Nat):V / 2 ^ a % 2 ^ i+V / 2 ^ (a+i) % 2 ^ k * 2 ^ i=V / 2 ^ a % 2 ^ (i+k):=by
 rw [Nat.pow_add 2 i k,Nat.mod_mul,Nat.div_div_eq_div_mul,← Nat.pow_add,Nat.mul_comm]
section
variable {F0:List Nat} {w0 w:World} {ps:List As}
theorem rrA_o {rb V N at':Nat} (h:St F0 w0 w (rrA rb V N at' :: ps)):∃ s:Sl,s.len=N∧St F0 w0 w (qxc rb [.slice s.a s.len s.cap,.int .i64 (at':Int)] :: qdc 1 s (u8s (byt V N)) :: ps):=by
 obtain ⟨s,h⟩:=h.exE
 have h:=h.split
 have hl:=h.at1.len
 rw [qfg,quf] at hl
 exact ⟨s,by omega,h⟩
theorem rrA_i {rb V N at':Nat} {s:Sl} (h:St F0 w0 w (qxc rb [.slice s.a s.len s.cap,.int .i64 (at':Int)] :: qdc 1 s (u8s (byt V N)) :: ps)):St F0 w0 w (rrA rb V N at' :: ps) :=
 h.join.exI (p:=fun s:Sl=>andA (qxc rb [.slice s.a s.len s.cap,.int .i64 (at':Int)]) (qdc 1 s (u8s (byt V N)))) s
theorem qif.c {V N:Nat} {s:Sl} {K:Ending→World→Prop} (h:St F0 w0 w ps) (hr:Rd w 1 s (u8s (byt V N))) (hN:N≤137438953472)
 (hk:∀ rb w',St F0 w0 w' (rrA rb V N 0 :: ps)→K (.returned (.pointer (some ⟨rb,0,none⟩))) w'):Calls Try.prog 21 ⟨[.slice s.a s.len s.cap]⟩ w K:=by
 refine qoc (qif.ok _ _ _ ?_)
 unfold qif
 refine qed.c h hr (by rw [quf]; omega) fun s' w h=>⟨s',rfl,?_⟩
 refine h.new fun nb w h=>?_
 exact hk nb w (rrA_i h)
theorem qqe.c {rb V N at':Nat} {K:Ending→World→Prop} (h:St F0 w0 w (rrA rb V N at' :: ps)) (hN:N≤137438953472) (ha:at'≤8 * N+8)
 (hk:∀ w',St F0 w0 w' (rrA rb V N at' :: ps)→K (.returned (.int .i64 (8 * (N:Int) - at'))) w'):Calls Try.prog 93 ⟨[.pointer (some ⟨rb,0,none⟩)]⟩ w K:=by
 refine qoc (qqe.ok _ _ _ ?_)
 unfold qqe
 refine h.drewK fun w h=>?_
 obtain ⟨s,hs,h⟩:=rrA_o h
 refine qrd (h.blk.ldL (o:=0) rfl ?_)
 refine qy (qk (by omega) (by omega)) ?_
 refine qrd (h.blk.ldI (o:=1) rfl ?_)
 refine qy (qk (by omega) (by omega)) ?_
 rw [hs]
 rw [hs] at h
 exact hk w (rrA_i (by rw [hs]; exact h))
theorem qtd.c {rb V N at':Nat} {K:Ending→World→Prop} (h:St F0 w0 w (rrA rb V N at' :: ps)) (ha:at'≤1099511627784)
 (hk:St F0 w0 w (rrA rb V N at' :: ps)→K (.returned (.int .i64 ((at'+7) / 8:Nat))) w):Calls Try.prog 157 ⟨[.pointer (some ⟨rb,0,none⟩)]⟩ w K:=by
 refine qoc (qtd.ok _ _ _ ?_)
 unfold qtd
 obtain ⟨s,hs,h⟩:=rrA_o h
 refine qrd (h.blk.ldI (o:=1) rfl ?_)
 refine qy (qk (by omega) (by omega)) ?_
 refine ⟨by decide,?_⟩
 rw [tdiv_nn (by omega)]
 refine qy (qk (by omega) (by omega)) ?_
 have e:((at':Int)+7) / 8=((at'+7) / 8:Nat):=by omega
 rw [e]
 exact hk (rrA_i h)
theorem qke.c {rb V N at':Nat} {K:Ending→World→Prop} (h:St F0 w0 w (rrA rb V N at' :: ps)) (ha:at'≤1099511627784)
 (hk:∀ w',St F0 w0 w' (rrA rb V N (8 * ((at'+7) / 8)) :: ps)→K (.returned (.tuple ⟨[]⟩)) w'):Calls Try.prog 181 ⟨[.pointer (some ⟨rb,0,none⟩)]⟩ w K:=by
 refine qoc (qke.ok _ _ _ ?_)
 unfold qke
 refine qtd.c h ha fun h=>⟨_,rfl,?_⟩
 refine qy (qk (by omega) (by omega)) ?_
 obtain ⟨s,hs,h⟩:=rrA_o h
 refine qrd (h.st (o:=1) (by simp) trivial fun w h=>?_)
 have e:(8:Int) * ((at'+7) / 8:Nat)=(8 * ((at'+7) / 8):Nat):=by omega
 rw [e] at h
 exact hk w (rrA_i h)
theorem qlb.loop {rb V N at' n:Nat} {Q:VWP} (h:St F0 w0 w (rrA rb V N at' :: ps)) (hN:N≤137438953472) (hn:n≤24) (ha:at'+n≤8 * N)
 (hq:∀ w',St F0 w0 w' (rrA rb V N (at'+n) :: ps)→Q (.tuple ⟨[.int .i64 (V / 2 ^ at' % 2 ^ n:Nat),.bool true]⟩) w'):qlb.l1 (some ⟨rb,0,none⟩) n 0 0 Q w:=by
 refine loop2 (fun (i:Nat) (v i':Int) w=>i'=i∧i≤n∧v=(V / 2 ^ at' % 2 ^ i:Nat)∧St F0 w0 w (rrA rb V N (at'+i) :: ps)) (fun i=>n - i) 0 ⟨rfl,by omega,by simp [Nat.mod_one],h⟩ ?_
 clear h
 rintro i v i' w I μ ⟨rfl,hi,rfl,h⟩ hin
 unfold qlb.b1
 refine qzc (fun h1=>?_) (fun h1=>?_)
 · obtain ⟨s,hs,h⟩:=rrA_o h
   refine qrd (h.blk.ldI (o:=1) rfl ?_)
   refine ⟨by decide,?_⟩
   refine qy (tmod_nn (by omega)) ?_
   refine qy (qk (by omega) (by omega)) ?_
   refine qy (qk (by omega) (by omega)) ?_
   obtain ⟨k,hk,hk8,hkn,hk0⟩:∃ k:Nat,(if (n:Int) - i < 8 - ((at'+i:Nat):Int) % 8 then (n:Int) - i else 8 - ((at'+i:Nat):Int) % 8)=(k:Int)∧(at'+i) % 8+k≤8∧i+k≤n∧0 < k:=by
    split
    · exact ⟨n - i,by omega,by omega,by omega,by omega⟩
    · exact ⟨8 - (at'+i) % 8,by omega,by omega,by omega,by omega⟩
   refine qy hk ?_
   refine h.drewK fun w h=>?_
   refine qrd (h.blk.ldL (o:=0) rfl ?_)
   refine qrd (h.blk.ldI (o:=1) rfl ?_)
   refine ⟨by decide,?_⟩
   rw [tdiv_nn (by omega)]
   refine qy (qk (by omega) (by omega)) ?_
   have hr:=h.at1.ord
   have hlt:(at'+i) / 8 < N:=by omega
   refine hr.ix (by decide) (by omega) (by omega) fun a ha=>?_
   have ei:(((at'+i:Nat):Int) / 8).toNat * 1=(at'+i) / 8:=by omega
   rw [ei]
   refine hr.ldI ha (byt_get hlt) ?_
   have hbyte:V / 2 ^ (8 * ((at'+i) / 8)) % 256 < 256:=Nat.mod_lt _ (by decide)
   refine qy (qk (by omega) (by omega)) ?_
   refine qrd (h.blk.ldI (o:=1) rfl ?_)
   refine ⟨by decide,?_⟩
   refine qy (tmod_nn (by omega)) ?_
   refine ⟨by omega,?_⟩
   have em:((at'+i:Nat):Int) % 8=((at'+i) % 8:Nat):=by omega
   rw [em]
   refine qy (qdl .i64 _ (t:=(at'+i) % 8) (by show _≤64; omega)) ?_
   refine ⟨by omega,?_⟩
   have hk24:k≤24:=by omega
   have hpk:(2:Nat) ^ k≤2 ^ 24:=Nat.pow_le_pow_right (by decide) hk24
   have ep:((2 ^ k:Nat):Int)=2 ^ k:=by simp
   have hp0:(0:Int) < 2 ^ k:=Int.pow_pos (by decide)
   refine qy (qoi .i64 (show k≤64 by omega) (by omega) (by show (1:Int) * 2 ^ k < 2 ^ 63; omega)) ?_
   rw [Int.one_mul]
   refine qy (qk (by omega) (by omega)) ?_
   refine qy (qym .i64 _ (show k < 64 by omega)) ?_
   have eb:((V / 2 ^ (8 * ((at'+i) / 8)) % 256:Nat):Int) / 2 ^ ((at'+i) % 8) % 2 ^ k=((V / 2 ^ (at'+i) % 2 ^ k:Nat):Int):=by
    rw [← get_bits V (at'+i) k hk8]
    simp
   rw [eb]
   refine ⟨by omega,?_⟩
   have hx:V / 2 ^ (at'+i) % 2 ^ k < 2 ^ k:=Nat.mod_lt _ (Nat.pow_pos (by decide))
   have hy:V / 2 ^ at' % 2 ^ i < 2 ^ i:=Nat.mod_lt _ (Nat.pow_pos (by decide))
   have hpi:(2:Nat) ^ i≤2 ^ 24:=Nat.pow_le_pow_right (by decide) (by omega)
   have hm:V / 2 ^ (at'+i) % 2 ^ k * 2 ^ i≤2 ^ 24 * 2 ^ 24:=Nat.mul_le_mul (by omega) hpi
   have ex:((V / 2 ^ (at'+i) % 2 ^ k * 2 ^ i:Nat):Int)=((V / 2 ^ (at'+i) % 2 ^ k:Nat):Int) * 2 ^ i:=by simp
   refine qy (qoi .i64 (show i≤64 by omega) (by omega) (by rw [← ex]; show _ < 2 ^ 63; omega)) ?_
   refine qy (orV_add .i64 hy (by show _ < 2 ^ 63; omega)) ?_
   have es:((V / 2 ^ at' % 2 ^ i:Nat):Int)+((V / 2 ^ (at'+i) % 2 ^ k:Nat):Int) * 2 ^ i=((V / 2 ^ at' % 2 ^ (i+k):Nat):Int):=by
    rw [← ex,← Int.natCast_add,get_step]
   refine qy (qk (by omega) (by omega)) ?_
   refine qrd (h.blk.ldI (o:=1) rfl ?_)
   refine qy (qk (by omega) (by omega)) ?_
   refine qrd (h.st (o:=1) (by simp) trivial fun w h=>?_)
   refine ⟨⟨rfl,rfl⟩,hin (i+k) _ _ _ ⟨by simp,hkn,es,?_⟩ (by omega)⟩
   have e:((at'+i:Nat):Int)+k=((at'+(i+k):Nat):Int):=by omega
   rw [e] at h
   exact rrA_i h
 · have:i=n:=by omega
   subst this
   exact hq w h
theorem qlb.c {rb V N at':Nat} {n:Int} {K:Ending→World→Prop} (h:St F0 w0 w (rrA rb V N at' :: ps)) (hN:N≤137438953472) (ha:at'≤8 * N+8)
 (hk:getOk N at' n=true→∀ w',St F0 w0 w' (rrA rb V N (at'+n.toNat) :: ps)→K (.returned (.tuple ⟨[.int .i64 (V / 2 ^ at' % 2 ^ n.toNat:Nat),.bool true]⟩)) w')
 (hk':getOk N at' n=false→∀ w',St F0 w0 w' (rrA rb V N at' :: ps)→K (.returned (.tuple ⟨[.int .i64 0,.bool false]⟩)) w') :
 Calls Try.prog 52 ⟨[.pointer (some ⟨rb,0,none⟩),.int .i64 n]⟩ w K:=by
 refine qoc (qlb.ok _ _ _ _ ?_)
 unfold qlb qlb.j1
 refine qzc (fun h1=>?_) (fun h1=>?_)
 · exact hk' (by simp [getOk]; omega) w h
 refine qzc (fun h2=>?_) (fun h2=>?_)
 · exact hk' (by simp [getOk]; omega) w h
 refine qqe.c h hN ha fun w h=>⟨_,rfl,?_⟩
 refine qzc (fun h3=>?_) (fun h3=>?_)
 · exact hk' (by simp [getOk]; omega) w h
 obtain ⟨t,rfl⟩:∃ t:Nat,n=t:=⟨n.toNat,by omega⟩
 exact qlb.loop h hN (by omega) (by omega) (hk (by simp [getOk]; omega))
end
end Go.Proofs.Ythdmmmfgjmmelaa
namespace Go.Proofs.Ythdmmmfgjmmelaa
open Go Go.Proofs
set_option linter.unusedVariables false
set_option linter.unusedSimpArgs false
attribute [local irreducible] apK cpK mkK
def u8 (xs:List Int):List UInt8:=xs.map fun x=>UInt8.ofNat x.toNat
theorem byt_ok (V N:Nat):∀ x ∈ byt V N,0≤x∧x < 256:=by
 intro x hx
 obtain ⟨i,_,rfl⟩:=List.mem_map.1 hx
 omega
theorem Rd.btS {w:World} {s:Sl} {xs:List Int} {K:ByteArray→Prop} (h:Rd w 1 s (u8s xs)) (hx:∀ x ∈ xs,0≤x∧x < 256) (hk:K ⟨⟨u8 xs⟩⟩):btS w s.a s.len K:=by
 have hl:=h.1
 rw [qfg,Nat.mul_one] at hl
 unfold Go.Proofs.Ythdmmmfgjmmelaa.btS
 cases e:s.a with
 | none =>
   cases xs with
   | nil=>exact hk
   | cons x xs =>
     obtain ⟨a,ha,_⟩:=h.2 0 (by simp [u8s])
     rw [e] at ha; cases ha
 | some a =>
   refine ⟨u8 xs,by simp [u8,hl],fun j hj=>?_,hk⟩
   rw [h.cell e (by rw [qfg]; omega)]
   have hj':j < xs.length:=by omega
   simp only [u8s,u8,List.getElem?_map,List.getElem?_eq_getElem hj',Option.map_some]
   have:=hx _ (List.getElem_mem hj')
   congr 2
   rw [UInt8.toNat_ofNat']
   omega
theorem qop (v:Int) (a b:Nat):qo v (a+b)=qo v a ++ qo (v / 2 ^ a) b:=by
 unfold qo
 rw [List.range_add,List.map_append,List.map_map]
 congr 1
 apply List.map_congr_left
 intro i _
 simp only [Function.comp,bt]
 congr 2
 have h:(0:Int)≤2 ^ a:=Int.le_of_lt (Int.pow_pos (by decide))
 rw [Int.pow_add,Int.ediv_ediv_of_nonneg h]
section
variable {F0:List Nat} {w0 w:World} {ps:List As}
end
end Go.Proofs.Ythdmmmfgjmmelaa
namespace Go.Proofs.Ythdmmmfgjmmelaa
open Go Go.Proofs
set_option linter.unusedVariables false
set_option linter.unusedSimpArgs false
abbrev Z:=Nat × List Int × Int
def qod (e:Int) (z:Z):Z:=(z.1,z.2.1,if z.2.2=0 then e else z.2.2)
def qhe (B:List Bool) (n:Int) (z:Z):Int × Z :=
 if z.2.2 ≠ 0 then (0,z) else if 0≤n∧n≤24∧n≤(B.length:Int) - z.1 then ((val ((B.drop z.1).take n.toNat):Int),(z.1+n.toNat,z.2.1,z.2.2)) else (0,(z.1,z.2.1,3))
def qdj (ls:List Int) (B:List Bool) (z:Z):Int × Z :=
 if z.2.2 ≠ 0 then (0,z) else ((hnext ls B z.1).1,((hnext ls B z.1).2.2,z.2.1,(hnext ls B z.1).2.1))
def zput (most:Int) (b:Int) (z:Z):Z :=
 if z.2.2 ≠ 0 then z else if most≤(z.2.1.length:Int) then (z.1,z.2.1,5) else (z.1,z.2.1 ++ [b],z.2.2)
def quh (v:Int):Int × Int × Bool :=
 if v < 257 ∨ 285 < v then (0,0,false) else if v=285 then (258,0,true) else if v - 257 < 8 then (3+(v - 257),0,true)
 else (3+(4+(v - 257) % 4) * 2 ^ ((v - 257) / 4 - 1).toNat,(v - 257) / 4 - 1,true)
def qvh (v:Int):Int × Int × Bool :=
 if v < 0 ∨ 30≤v then (0,0,false) else if v < 4 then (1+v,0,true) else (1+(2+v % 2) * 2 ^ (v / 2 - 1).toNat,v / 2 - 1,true)
def zcp (most d:Int):Nat→Z→Z
 | 0,z=>z
 | n+1,z=>if z.2.2 ≠ 0 then z else zcp most d n (zput most (z.2.1.getD (z.2.1.length - d.toNat) 0) z)
def zok (ok:Bool) (z:Z):Z:=if ok then z else qod 2 z
def zbehind (dl:List Int) (B:List Bool) (most v:Int) (z:Z):Z :=
 let l:=quh v
 let g:=qhe B l.2.1 (zok l.2.2 z)
 let s:=qdj dl B g.2
 let d:=qvh s.1
 let g2:=qhe B d.2.1 (zok d.2.2 s.2)
 let z5:=if (g2.2.2.1.length:Int) < d.1+g2.1 then qod 2 g2.2 else g2.2
 zcp most (d.1+g2.1) (l.1+g.1).toNat z5
def qqd (ll dl:List Int) (B:List Bool) (most:Int):Nat→Z→Z
 | 0,z=>z
 | f+1,z=>if z.2.2 ≠ 0 then z else
   let s:=qdj ll B z
   if s.2.2.2 ≠ 0 ∨ s.1=256 then s.2
   else if s.1 < 256 then qqd ll dl B most f (zput most s.1 s.2) else qqd ll dl B most f (zbehind dl B most s.1 s.2)
def qcg (ls:List Int) (z:Z):Z:=if z.2.2=0∧qih ls true ≠ 0 then qod 2 z else z
def zblk (ll dl:List Int) (B:List Bool) (most:Int) (z:Z):Z :=
 let z3:=qcg dl (qcg ll (if z.2.2=0∧ll.getD 256 0=0 then qod 2 z else z))
 if z3.2.2 ≠ 0 then z3 else qqd ll dl B most (B.length+1) z3
def zst (B:List Bool) (most:Int):Nat→Z→Z
 | 0,z=>z
 | n+1,z=>zst B most n (zput most (qhe B 8 z).1 (qhe B 8 z).2)
def zstored (B:List Bool) (most:Int) (z:Z):Z :=
 let g:=qhe B 16 (8 * ((z.1+7) / 8),z.2.1,z.2.2)
 let g2:=qhe B 16 g.2
 if g2.2.2.2 ≠ 0 then g2.2 else if xorV .i64 g.1 g2.1 ≠ 65535 then qod 2 g2.2 else if most - g2.2.2.1.length < g.1 then qod 5 g2.2 else zst B most g.1.toNat g2.2
def qkg:List Int:=List.replicate 144 8 ++ (List.replicate 112 9 ++ (List.replicate 24 7 ++ List.replicate 8 8))
def qxd:List Int:=List.replicate 32 5
def zblock (B:List Bool) (most:Int) (z:Z):Bool × Z :=
 let a:=qhe B 1 z
 let k:=qhe B 2 a.2
 if k.2.2.2 ≠ 0 then (false,k.2) else if k.1=0 then (a.1 == 1,zstored B most k.2) else if k.1=1 then (a.1 == 1,zblk qkg qxd B most k.2) else (a.1 == 1,qod 2 k.2)
def znot2 (B:List Bool) (z:Z):Prop:=(qhe B 2 (qhe B 1 z).2).2.2.2 ≠ 0 ∨ (qhe B 2 (qhe B 1 z).2).1 ≠ 2
inductive ZRun (B:List Bool) (most:Int):Nat→Z→Z→Prop
 | bad {z:Z} (h2:znot2 B z) (he:(zblock B most z).2.2.2 ≠ 0):ZRun B most 0 z (zblock B most z).2
 | last {z:Z} (h2:znot2 B z) (he:(zblock B most z).2.2.2=0) (hl:(zblock B most z).1=true):ZRun B most 0 z (zblock B most z).2
 | next {n:Nat} {z z':Z} (h2:znot2 B z) (he:(zblock B most z).2.2.2=0) (hl:(zblock B most z).1=false) (hr:ZRun B most n (zblock B most z).2 z'):ZRun B most (n+1) z z'
theorem hdec_le (l:List Int) (b:List Bool):∀ f n v p,p≤b.length→p≤(hdec l b f n v p).2.2∧(hdec l b f n v p).2.2≤b.length∧((hdec l b f n v p).2.1=0→p < (hdec l b f n v p).2.2):=by
 intro f
 induction f with
 | zero=>intro n v p hp; exact ⟨Nat.le_refl _,hp,fun h=>by simp [hdec] at h⟩
 | succ f ih =>
   intro n v p hp
   rw [hdec]
   split
   · exact ⟨Nat.le_refl _,hp,fun h=>by simp at h⟩
   · rename_i x hx
     have hlt:p < b.length:=(List.getElem?_eq_some_iff.1 hx).1
     split
     · exact ⟨by simp only; omega,by simp only; omega,fun _=>by simp only; omega⟩
     · obtain ⟨h1,h2,h3⟩:=ih (n+1) (2 * v+x.toNat) (p+1) (by omega)
       exact ⟨by omega,h2,fun h=>by omega⟩
def zfwd (B:List Bool) (z z':Z):Prop:=z.1≤z'.1∧z'.1≤B.length
variable {B:List Bool} {most:Int} {z:Z}
theorem qpm (n:Int) (h:z.1≤B.length):zfwd B z (qhe B n z).2:=by
 unfold qhe zfwd
 split
 · exact ⟨Nat.le_refl _,h⟩
 · split
   · simp only; omega
   · exact ⟨Nat.le_refl _,h⟩
theorem zsym_fwd (ls:List Int) (h:z.1≤B.length):zfwd B z (qdj ls B z).2:=by
 unfold qdj zfwd
 split
 · exact ⟨Nat.le_refl _,h⟩
 · obtain ⟨h1,h2,_⟩:=hdec_le ls B (hlong ls 15) 1 0 z.1 h
   exact ⟨h1,h2⟩
theorem qdm (b:Int):(zput most b z).1=z.1:=by
 unfold zput
 split
 · rfl
 · split <;> rfl
theorem qbn (e:Int):(qod e z).1=z.1:=rfl
theorem zok_p (ok:Bool):(zok ok z).1=z.1:=by unfold zok; split <;> rfl
theorem zcp_p (d:Int):∀ n (z:Z),(zcp most d n z).1=z.1:=by
 intro n
 induction n with
 | zero=>intro z; rfl
 | succ n ih =>
   intro z
   rw [zcp]
   split
   · rfl
   · rw [ih,qdm]
theorem qgn (dl:List Int) (v:Int) (h:z.1≤B.length):zfwd B z (zbehind dl B most v z):=by
 unfold zbehind
 simp only
 have h1:=qpm (B:=B) (quh v).2.1 (z:=zok (quh v).2.2 z) (by rw [zok_p]; exact h)
 generalize qhe B (quh v).2.1 (zok (quh v).2.2 z)=g at h1 ⊢
 have h2:=zsym_fwd (B:=B) dl (z:=g.2) h1.2
 generalize qdj dl B g.2=s at h2 ⊢
 have h3:=qpm (B:=B) (qvh s.1).2.1 (z:=zok (qvh s.1).2.2 s.2) (by rw [zok_p]; exact h2.2)
 generalize qhe B (qvh s.1).2.1 (zok (qvh s.1).2.2 s.2)=g2 at h3 ⊢
 rw [zfwd,zcp_p]
 unfold zfwd at h1 h2 h3
 rw [zok_p] at h1 h3
 split
 · rw [qbn]; omega
 · omega
theorem qrk (n:Int):0≤(qhe B n z).1∧(qhe B n z).1 < 2 ^ n.toNat:=by
 unfold qhe
 have h2:(0:Int) < 2 ^ n.toNat:=Int.pow_pos (by decide)
 split
 · exact ⟨Int.le_refl _,h2⟩
 · split
   · refine ⟨Int.natCast_nonneg _,?_⟩
     have h3:=val_lt ((B.drop z.1).take n.toNat)
     have h4:((B.drop z.1).take n.toNat).length≤n.toNat:=List.length_take_le _ _
     have h5:=Nat.lt_of_lt_of_le h3 (Nat.pow_le_pow_right (by decide:0 < 2) h4)
     simp only
     exact_mod_cast h5
   · exact ⟨Int.le_refl _,h2⟩
theorem zget_val {V M p n:Nat} (h:p+n≤M):val (((qo (V:Int) M).drop p).take n)=V / 2 ^ p % 2 ^ n:=by
 obtain ⟨r,rfl⟩:∃ r,M=p+(n+r):=⟨M - p - n,by omega⟩
 rw [qop,List.drop_left' (ql _ _),qop,List.take_left' (ql _ _),qkn]
 have e1:(V:Int) / 2 ^ p=((V / 2 ^ p:Nat):Int):=by simp
 rw [e1]
 have e2:(((V / 2 ^ p:Nat):Int) % 2 ^ n)=((V / 2 ^ p % 2 ^ n:Nat):Int):=by simp
 rw [e2,Int.toNat_natCast]
end Go.Proofs.Ythdmmmfgjmmelaa
namespace Go.Proofs.Ythdmmmfgjmmelaa
open Go Go.Proofs
set_option linter.unusedVariables false
set_option linter.unusedSimpArgs false
attribute [local irreducible] apK cpK mkK
theorem wf_u8 {n:Int} (h:(Lit.int .u8 n).wf=true):0≤n∧n < 256:=by
 have h:IntKind.u8.min≤n∧n≤IntKind.u8.max:=by simpa [Lit.wf] using h
 have h1:IntKind.u8.min=0:=rfl
 have h2:IntKind.u8.max=255:=rfl
 omega
theorem byt_ex:∀ (xs:List Int),(∀ x ∈ xs,0≤x∧x < 256)→∃ V,xs=byt V xs.length
 | [],_=>⟨0,rfl⟩
 | x :: xs,h=>by
   obtain ⟨V,hV⟩:=byt_ex xs (fun y hy=>h y (by simp [hy]))
   refine ⟨x.toNat+256 * V,?_⟩
   have hx:=h x (by simp)
   unfold byt at hV ⊢
   rw [List.length_cons,List.range_succ_eq_map,List.map_cons,List.map_map]
   congr 1
   · simp; omega
   · refine hV.trans ?_
     apply List.map_congr_left
     intro i _
     simp only [Function.comp]
     congr 1
     rw [show 8 * i.succ=8+8 * i by omega,Nat.pow_add,← Nat.div_div_eq_div_mul]
     congr 2
     have:(x.toNat+256 * V) / 2 ^ 8=V:=by omega
     rw [this]
section
variable {F0:List Nat} {w0 w:World} {ps:List As}
end
end Go.Proofs.Ythdmmmfgjmmelaa
namespace Go.Proofs.Ythdmmmfgjmmelaa
open Go Go.Proofs
set_option linter.unusedVariables false
set_option linter.unusedSimpArgs false
attribute [local irreducible] apK cpK mkK
theorem wrap_uns {k:IntKind} (hk:k.signed=false) (x:Int):k.wrap x=x % 2 ^ k.bits:=by
 simp [IntKind.wrap,hk]
theorem wrap_unat {k:IntKind} (hk:k.signed=false) {n:Nat} (h:n < 2 ^ k.bits):k.wrap (n:Int)=n:=by
 rw [wrap_uns hk]
 exact Int.emod_eq_of_lt (by omega) (by exact_mod_cast h)
theorem orV_unat {k:IntKind} (hk:k.signed=false) {a b:Nat} (ha:a < 2 ^ k.bits) (hb:b < 2 ^ k.bits):orV k (a:Int) (b:Int)=((a ||| b:Nat):Int):=by
 unfold orV
 rw [BitVec.toNat_or,qjg _ _ ha,qjg _ _ hb]
 exact wrap_unat hk (Nat.or_lt_two_pow ha hb)
theorem orV_uadd {k:IntKind} (hk:k.signed=false) {a b:Nat} {t:Nat} (ha:a < 2 ^ t) (hs:a+b * 2 ^ t < 2 ^ k.bits):orV k (a:Int) ((b:Int) * 2 ^ t)=(a:Int)+(b:Int) * 2 ^ t:=by
 have e:(b:Int) * 2 ^ t=((b * 2 ^ t:Nat):Int):=by simp
 rw [e,orV_unat hk (by omega) (by omega),Nat.or_comm]
 have:=Nat.two_pow_add_eq_or_of_lt ha b
 rw [Nat.mul_comm b,← this]
 simp
 omega
theorem shlV_u {k:IntKind} (hk:k.signed=false) {x:Nat} {t:Nat} (ht:t≤k.bits) (hs:x * 2 ^ t < 2 ^ k.bits):qej k (x:Int) (t:Int)=(x:Int) * 2 ^ t:=by
 unfold qej
 rw [Int.toNat_natCast,Nat.min_eq_left ht]
 have e:(x:Int) * 2 ^ t=((x * 2 ^ t:Nat):Int):=by simp
 rw [e,wrap_unat hk hs]
section
variable {F0:List Nat} {w0 w:World} {ps:List As}
theorem St.append1 {P:Program} {e:TypeId} {i:TypeInfo} {z v:Value} {s:Sl} {cs:List Value} {c:Array Value} {K:Sl→World→Prop}
 (hi:P.info? e=some i) (hsz:i.size=1) (hz:zc P e=#[z]) (hb0:i.bytes ≠ 0) (hb:i.bytes≤16)
 (h:St F0 w0 w (qdc 1 s cs :: ps)) (hlen:cs.length≤1099511627776) (hc:c=⟨[v]⟩) (hv:storable v)
 (hk:∀ s' w',St F0 w0 w' (qdc 1 s' (cs ++ [v]) :: ps)→K s' w'):apK P e w s.a s.len s.cap 1 c K:=by
 subst hc
 have hl:=h.len
 refine St.append (i:=i) (sz:=1) (m:=1) hi hsz (by decide) (by rw [hz]; rfl) hb0 ?_ h (by rfl) (by simpa using hv) (fun s' w' h _=>hk s' w' h)
 refine Nat.le_trans (Nat.mul_le_mul_left _ hb) ?_
 have hl2:s.len≤1099511627776:=by omega
 clear hk h
 generalize s.len=n at hl2
 omega
theorem St.setO {sz:Nat} {s:Sl} {cs:List Value} {i:Nat} {v:Value} {a:Addr} {K:World→Prop} (h:St F0 w0 w (qdc sz s cs :: ps)) (ha:s.a=some a) (hi:i < cs.length) (hs:storable v)
 (hk:∀ w',St F0 w0 w' (qdc sz s (cs.set i v) :: ps)→K w'):Go.Proofs.Ythdmmmfgjmmelaa.st w (a.add i) v K:=by
 obtain ⟨f,ho,hstep⟩:=h.step
 rcases ho with ⟨rfl,rfl,_⟩ | ⟨ob,rest,h1,hb,h2,h3,rfl⟩
 · simp at hi
 · rw [h1] at ha
   cases ha
   rw [qme,Nat.zero_add]
   refine hb.st (by rw [List.length_append]; omega) hs fun w' hm hb'=>hk w' (hstep w' [ob] _ hm (Gr.refl _ _) (Or.inr ⟨ob,rest,h1,?_,by simpa using h2,by simpa using h3,rfl⟩))
   rw [List.set_append_left _ _ hi] at hb'
   exact hb'
theorem repL_one (n:Nat) (z:Value):qfj n [z]=List.replicate n z:=by
 induction n with
 | zero=>rfl
 | succ n ih=>rw [qfj,ih,List.replicate_succ]; rfl
theorem St.make1 {P:Program} {e:TypeId} {z:Value} {n:Nat} {l c:Int} {K:Sl→World→Prop} (hz:zc P e=#[z]) (hl:l=n) (hc:c=n) (hn:n≤1099511627776) (hb:P.bytesOf e≤16) (h:St F0 w0 w ps)
 (hk:∀ s w',s.len=n→s.cap=n→St F0 w0 w' (qdc 1 s (List.replicate n z) :: ps)→K s w'):mkK P e w l c K:=by
 subst hl hc
 unfold mkK
 refine ⟨⟨by omega,by omega,by omega,?_⟩,?_⟩
 · have:P.bytesOf e * n≤16 * n:=Nat.mul_le_mul_right _ hb
   have e2:((P.bytesOf e:Int) * (n:Int))=((P.bytesOf e * n:Nat):Int):=by simp
   rw [e2]
   have:((P.bytesOf e * n:Nat):Int)≤((16 * n:Nat):Int):=by exact_mod_cast this
   have h3:(2:Int) ^ 48=281474976710656:=by decide
   omega
 · refine hk ⟨newAt w,_,_⟩ _ (by simp) (by simp) ?_
   rw [hz]
   refine h.add (f':=[w.heap.size]) (Mod.alloc _ _) (Or.inr ⟨w.heap.size,[],rfl,?_,by simp,by simp,rfl⟩) (fun x hx=>Or.inr (by have:x=w.heap.size:=(by simpa using hx); omega))
   have:=Blk.new w (qfj ((n:Int)).toNat #[z].toList) e
   rw [List.append_nil]
   rw [Int.toNat_natCast] at this ⊢
   rw [show (#[z]:Array Value).toList=[z] from rfl,repL_one] at this ⊢
   exact this
end
section
variable {F0:List Nat} {w0 w:World} {ps:List As}
end
end Go.Proofs.Ythdmmmfgjmmelaa
namespace Go.Proofs.Ythdmmmfgjmmelaa
open Go Go.Proofs
set_option linter.unusedVariables false
set_option linter.unusedSimpArgs false
attribute [local irreducible] apK cpK mkK
class PkA (p:As) (ps:List As) (rest:outParam (List As)):Prop where
 pk:∀ {F0:List Nat} {w0 w:World},St F0 w0 w ps→St F0 w0 w (p :: rest)
instance PkA.tl {p q:As} {ps rest:List As} [i:PkA p ps rest]:PkA p (q :: ps) (q :: rest):=⟨fun h=>(h.tail fun _ _ _ h=>i.pk h).at1⟩
instance PkA.hd {p:As} {ps:List As}:PkA p (p :: ps) ps:=⟨id⟩
class PkB (b:Nat) (ps:List As) (l:outParam (List Value)) (rest:outParam (List As)):Prop where
 pk:∀ {F0:List Nat} {w0 w:World},St F0 w0 w ps→St F0 w0 w (qxc b l :: rest)
instance PkB.tl {b:Nat} {l:List Value} {q:As} {ps rest:List As} [i:PkB b ps l rest]:PkB b (q :: ps) l (q :: rest):=⟨fun h=>(h.tail fun _ _ _ h=>i.pk h).at1⟩
instance PkB.hd {b:Nat} {l:List Value} {ps:List As}:PkB b (qxc b l :: ps) l ps:=⟨id⟩
class PkO (s:Sl) (ps:List As) (sz:outParam Nat) (cs:outParam (List Value)) (rest:outParam (List As)):Prop where
 pk:∀ {F0:List Nat} {w0 w:World},St F0 w0 w ps→St F0 w0 w (qdc sz s cs :: rest)
instance PkO.tl {s:Sl} {sz:Nat} {cs:List Value} {q:As} {ps rest:List As} [i:PkO s ps sz cs rest]:PkO s (q :: ps) sz cs (q :: rest):=⟨fun h=>(h.tail fun _ _ _ h=>i.pk h).at1⟩
instance PkO.hd {s:Sl} {sz:Nat} {cs:List Value} {ps:List As}:PkO s (qdc sz s cs :: ps) sz cs ps:=⟨id⟩
class Sub (ps qs:List As):Prop where
 sub:∀ {F0:List Nat} {w0 w:World},St F0 w0 w ps→St F0 w0 w qs
instance (priority:=100) Sub.dr {q:As} {ps qs:List As} [i:Sub ps qs]:Sub (q :: ps) qs:=⟨fun h=>i.sub h.drop⟩
instance (priority:=500) Sub.cons {p:As} {ps rest qs:List As} [i:PkA p ps rest] [j:Sub rest qs]:Sub ps (p :: qs):=⟨fun h=>(i.pk h).tail fun _ _ _ h=>j.sub h⟩
instance (priority:=2000) Sub.refl {ps:List As}:Sub ps ps:=⟨id⟩
instance (priority:=3000) Sub.nil {ps:List As}:Sub ps []:=⟨fun h=>⟨h.1,[],rfl,fun x hx=>by cases hx⟩⟩
class Rdb (F0:List Nat) (w0:World) (s:Sl) (ps:List As) (sz:outParam Nat) (cs:outParam (List Value)):Prop where
 rd:∀ {w:World},St F0 w0 w ps→Rd w sz s cs
instance Rdb.tl {F0:List Nat} {w0:World} {s:Sl} {q:As} {ps:List As} {sz:Nat} {cs:List Value} [i:Rdb F0 w0 s ps sz cs]:Rdb F0 w0 s (q :: ps) sz cs:=⟨fun h=>i.rd h.drop⟩
instance Rdb.own {F0:List Nat} {w0:World} {s:Sl} {ps:List As} {sz:Nat} {cs:List Value}:Rdb F0 w0 s (qdc sz s cs :: ps) sz cs:=⟨fun h=>h.ord⟩
instance Rdb.rdo {F0:List Nat} {w0:World} {s:Sl} {ps:List As} {sz:Nat} {cs:List Value}:Rdb F0 w0 s (rdA sz s cs :: ps) sz cs:=⟨fun h=>h.rd⟩
theorem Rdb.nil {F0:List Nat} {w0:World} {ps:List As} (n:Nat):Rdb F0 w0 ⟨none,0,n⟩ ps 1 []:=⟨fun h=>⟨rfl,fun i hi=>by simp at hi⟩⟩
theorem Rdb.start {w0:World} {s:Sl} {ps:List As} {sz:Nat} {cs:List Value} (h:Rd w0 sz s cs):Rdb [] w0 s ps sz cs:=⟨fun k=>h.keep k.mod (by simp)⟩
theorem Rd.cut {w:World} {sz n m:Nat} {s:Sl} {cs:List Value} (h:Rd w sz s cs) (hsz:0 < sz) (hm:m≤s.len) (hn:n≤m) (hc:s.len≤s.cap) (c':Nat):Rd w sz ⟨qzf s.a s.cap n sz,m - n,c'⟩ ((cs.drop (n * sz)).take ((m - n) * sz)):=by
 have hl:=h.1
 have hms:m * sz≤s.len * sz:=Nat.mul_le_mul_right _ hm
 have hns:(m - n) * sz=m * sz - n * sz:=Nat.sub_mul _ _ _
 have hnm:n * sz≤m * sz:=Nat.mul_le_mul_right _ hn
 refine ⟨by rw [List.length_take,List.length_drop,hl]; show _=(m - n) * sz; omega,fun i hi=>?_⟩
 rw [List.length_take,List.length_drop,hl] at hi
 have hne:¬ s.cap=n:=by
  intro e
  have:m - n=0:=by omega
  rw [this] at hi
  simp at hi
 obtain ⟨a,ha,hcell⟩:=h.2 (n * sz+i) (by omega)
 refine ⟨a.add (n * sz),?_,?_⟩
 · show qzf s.a s.cap n sz=_
   unfold qzf
   rw [if_neg hne,ha]
   rfl
 · rw [qwk,hcell,List.getElem?_take,if_pos (by omega),List.getElem?_drop]
class GetL (l:List Value) (o:Nat) (v:outParam Value):Prop where
 get:l[o]?=some v
instance GetL.z {v:Value} {l:List Value}:GetL (v :: l) 0 v:=⟨rfl⟩
instance GetL.s {v u:Value} {l:List Value} {n:Nat} [i:GetL l n v]:GetL (u :: l) (n+1) v:=⟨by simpa using i.get⟩
class SetL (l:List Value) (o:Nat) (v:Value) (l':outParam (List Value)):Prop where
 set:l.set o v=l'
 lt:o < l.length
instance SetL.z {v u:Value} {l:List Value}:SetL (u :: l) 0 v (v :: l):=⟨rfl,by simp⟩
instance SetL.s {v u:Value} {l l':List Value} {n:Nat} [i:SetL l n v l']:SetL (u :: l) (n+1) v (u :: l'):=⟨by simp [i.set],by have:=i.lt; simp; omega⟩
section
variable {F0:List Nat} {w0 w:World} {ps qs rest:List As} {b o:Nat} {l l':List Value}
theorem St.sub [i:Sub ps qs] (h:St F0 w0 w ps):St F0 w0 w qs:=i.sub h
theorem St.toB (b:Nat) [i:PkB b ps l rest] (h:St F0 w0 w ps):St F0 w0 w (qxc b l :: rest):=i.pk h
theorem St.toO (s:Sl) {sz:Nat} {cs:List Value} [i:PkO s ps sz cs rest] (h:St F0 w0 w ps):St F0 w0 w (qdc sz s cs :: rest):=i.pk h
theorem St.rdb (s:Sl) {sz:Nat} {cs:List Value} [i:Rdb F0 w0 s ps sz cs] (h:St F0 w0 w ps):Rd w sz s cs:=i.rd h
theorem St.fI {k:IntKind} {n:Int} {K:Int→Prop} (h:St F0 w0 w ps) [PkB b ps l rest] [g:GetL l o (.int k n)] (hk:K n):ldI k w ⟨b,o,none⟩ K:=(h.toB b).blk.ldI g.get hk
theorem St.fP {n:Option Addr} {K:Option Addr→Prop} (h:St F0 w0 w ps) [PkB b ps l rest] [g:GetL l o (.pointer n)] (hk:K n):ldP w ⟨b,o,none⟩ K:=(h.toB b).blk.ldP g.get hk
theorem St.fL {a:Option Addr} {n c:Nat} {K:Sl→Prop} (h:St F0 w0 w ps) [PkB b ps l rest] [g:GetL l o (.slice a n c)] (hk:K ⟨a,n,c⟩):ldL w ⟨b,o,none⟩ K:=(h.toB b).blk.ldL (n:=⟨a,n,c⟩) g.get hk
theorem St.fM {n:Option Nat} {K:Option Nat→Prop} (h:St F0 w0 w ps) [PkB b ps l rest] [g:GetL l o (.map n)] (hk:K n):ldM w ⟨b,o,none⟩ K:=(h.toB b).blk.ldM g.get hk
theorem St.fst {v:Value} {K:World→Prop} (h:St F0 w0 w ps) [PkB b ps l rest] [g:SetL l o v l'] (hs:storable v) (hk:∀ w',St F0 w0 w' (qxc b l' :: rest)→K w'):Go.Proofs.Ythdmmmfgjmmelaa.st w ⟨b,o,none⟩ v K :=
 (h.toB b).st g.lt hs fun w' h=>hk w' (by rw [g.set] at h; exact h)
abbrev ivs (k:IntKind) (l:List Int):List Value:=l.map (Value.int k)
theorem qx (k:IntKind) (l:List Int):(ivs k l).length=l.length:=by simp [ivs]
theorem qul {k:IntKind} {l:List Int} {i:Nat} (h:i < l.length):(ivs k l)[i]?=some (.int k (l.getD i 0)):=by
 simp [ivs,h,List.getD,List.getElem?_eq_getElem h]
theorem ivs_set (k:IntKind) (l:List Int) (i:Nat) (v:Int):(ivs k l).set i (.int k v)=ivs k (l.set i v):=by
 unfold ivs; rw [List.map_set]
theorem qof {k:IntKind} {l:List Int}:∀ v ∈ (⟨ivs k l⟩:Array Value),storable v:=by
 intro v hv
 have hv:v ∈ ivs k l:=by simpa using hv
 obtain ⟨n,_,rfl⟩:=List.mem_map.1 hv
 trivial
theorem ivs_app (k:IntKind) (l m:List Int):ivs k l ++ ivs k m=ivs k (l ++ m):=by simp [ivs]
theorem qhl (k:IntKind) (l:List Int) (n:Nat):(ivs k l).take n=ivs k (l.take n):=by simp [ivs,List.map_take]
theorem ivs_drop (k:IntKind) (l:List Int) (n:Nat):(ivs k l).drop n=ivs k (l.drop n):=by simp [ivs,List.map_drop]
theorem ivs_rep (k:IntKind) (n:Nat) (v:Int):List.replicate n (Value.int k v)=ivs k (List.replicate n v):=by simp [ivs]
theorem Rd.at {k:IntKind} {s:Sl} {zs:List Int} {i:Int} {K:Int→Prop} (h:Rd w 1 s (ivs k zs)) (j:Nat) (hi:i=j) (hj:j < zs.length) (hk:K (zs.getD j 0)):ixS s.a s.len i 1 fun a=>Go.Proofs.Ythdmmmfgjmmelaa.ldI k w a K:=by
 subst hi
 have hl:=h.1
 rw [qx] at hl
 refine h.ix (by decide) (by omega) (by omega) fun a ha=>?_
 rw [show ((j:Int)).toNat * 1=j by omega]
 exact h.ldI ha (qul hj) hk
theorem St.lx {k:IntKind} {s:Sl} {zs:List Int} {i:Int} {K:Int→Prop} (h:St F0 w0 w ps) [Rdb F0 w0 s ps 1 (ivs k zs)] (j:Nat) (hi:i=j) (hj:j < zs.length) (hk:K (zs.getD j 0)):ixS s.a s.len i 1 fun a=>Go.Proofs.Ythdmmmfgjmmelaa.ldI k w a K :=
 (h.rdb s).at j hi hj hk
theorem St.sx {k:IntKind} {s:Sl} {zs:List Int} {i v:Int} {K:World→Prop} (h:St F0 w0 w ps) [PkO s ps 1 (ivs k zs) rest] (j:Nat) (hi:i=j) (hj:j < zs.length) (hk:∀ w',St F0 w0 w' (qdc 1 s (ivs k (zs.set j v)) :: rest)→K w'):ixS s.a s.len i 1 fun a=>Go.Proofs.Ythdmmmfgjmmelaa.st w a (.int k v) K:=by
 subst hi
 have h:=h.toO s
 have hr:=h.ord
 have hl:=hr.1
 rw [qx] at hl
 refine hr.ix (by decide) (by omega) (by omega) fun a ha=>?_
 rw [show ((j:Int)).toNat * 1=j by omega]
 refine h.setO ha (by rw [qx]; exact hj) trivial fun w h=>hk w ?_
 rw [ivs_set] at h
 exact h
theorem ixA_b' {b o n sz:Nat} {i:Int} {K:Addr→Prop} (h0:0≤i) (h1:i < (n:Int)) (hk:K ⟨b,o+i.toNat * sz,none⟩):ixA ⟨b,o,none⟩ n i sz K:=by
 unfold ixA
 rw [qme]
 exact ⟨⟨h0,h1⟩,hk⟩
theorem St.la {k:IntKind} {n:Nat} {zs:List Int} {i:Int} {K:Int→Prop} (h:St F0 w0 w ps) [PkB b ps (ivs k zs) rest] (j:Nat) (hi:i=j) (hn:zs.length=n) (hj:j < n) (hk:K (zs.getD j 0)):ixA ⟨b,0,none⟩ n i 1 fun a=>Go.Proofs.Ythdmmmfgjmmelaa.ldI k w a K:=by
 subst hi
 refine ixA_b' (by omega) (by omega) ?_
 refine (h.toB b).blk.ldI ?_ hk
 rw [show 0+((j:Int)).toNat * 1=j by omega]
 exact qul (by omega)
theorem St.sa {k:IntKind} {n:Nat} {zs:List Int} {i v:Int} {K:World→Prop} (h:St F0 w0 w ps) [PkB b ps (ivs k zs) rest] (j:Nat) (hi:i=j) (hn:zs.length=n) (hj:j < n) (hk:∀ w',St F0 w0 w' (qxc b (ivs k (zs.set j v)) :: rest)→K w'):ixA ⟨b,0,none⟩ n i 1 fun a=>Go.Proofs.Ythdmmmfgjmmelaa.st w a (.int k v) K:=by
 subst hi
 refine ixA_b' (by omega) (by omega) ?_
 rw [show 0+((j:Int)).toNat * 1=j by omega]
 refine (h.toB b).st (by rw [qx]; omega) trivial fun w h=>hk w ?_
 rw [ivs_set] at h
 exact h
theorem St.lA {n:Nat} {K:Array Value→Prop} (h:St F0 w0 w ps) [PkB b ps l rest] (hl:l.length=n) (hk:K ⟨l⟩):ldA w ⟨b,0,none⟩ n K :=
 (h.toB b).blk.ldA (cs:=⟨l⟩) hl (fun j hj=>by rw [Nat.zero_add]; simp) hk
theorem St.sA {n:Nat} {K:World→Prop} (h:St F0 w0 w ps) [PkB b ps l rest] (hl:l.length=n) (hl':l'.length=n) (hs:∀ v ∈ (⟨l'⟩:Array Value),storable v) (hk:∀ w',St F0 w0 w' (qxc b l' :: rest)→K w'):Go.Proofs.Ythdmmmfgjmmelaa.stA w ⟨b,0,none⟩ ⟨l'⟩ K:=by
 refine (h.toB b).stA (o:=0) (by show 0+l'.length≤l.length; omega) hs fun w' h=>hk w' ?_
 have e:l.take 0 ++ (⟨l'⟩:Array Value).toList ++ l.drop (0+(⟨l'⟩:Array Value).size)=l':=by
  rw [List.take_zero,List.nil_append,List.drop_eq_nil_of_le (by show l.length≤0+l'.length; omega),List.append_nil]
 rwa [e] at h
end
end Go.Proofs.Ythdmmmfgjmmelaa
namespace Go.Proofs.Ythdmmmfgjmmelaa
open Go Go.Proofs
set_option linter.unusedVariables false
set_option linter.unusedSimpArgs false
attribute [local irreducible] apK cpK mkK
class PkF {α:Type} (f:Nat→α→As) (b:Nat) (ps:List As) (x:outParam α) (rest:outParam (List As)):Prop where
 pk:∀ {F0:List Nat} {w0 w:World},St F0 w0 w ps→St F0 w0 w (f b x :: rest)
instance PkF.tl {α:Type} {f:Nat→α→As} {b:Nat} {x:α} {q:As} {ps rest:List As} [i:PkF f b ps x rest]:PkF f b (q :: ps) x (q :: rest):=⟨fun h=>(h.tail fun _ _ _ h=>i.pk h).at1⟩
instance PkF.hd {α:Type} {f:Nat→α→As} {b:Nat} {x:α} {ps:List As}:PkF f b (f b x :: ps) x ps:=⟨id⟩
theorem St.toF {α:Type} (f:Nat→α→As) (b:Nat) {F0:List Nat} {w0 w:World} {ps rest:List As} {x:α} [i:PkF f b ps x rest] (h:St F0 w0 w ps):St F0 w0 w (f b x :: rest):=i.pk h
theorem qnm {A B:Prop} (h:A):br true A B:=h
theorem qkl {A B:Prop} (h:B):br false A B:=h
theorem qam {b:Bool} {A B:Prop} (hb:b=true) (h:A):br b A B:=by subst hb; exact h
theorem br_no {b:Bool} {A B:Prop} (hb:b=false) (h:B):br b A B:=by subst hb; exact h
theorem bd_i {i:Int} {y n:Nat} {K:Nat→Prop} (hn:i=n) (h:n≤y) (hk:K n):bd i y K:=by subst hn; exact ⟨⟨by omega,by omega⟩,by rw [Int.toNat_natCast]; exact hk⟩
theorem new_asL {F0:List Nat} {w0 w:World} {ps:List As} {nb:Nat} {l m:List Value} (e:l=m) (h:St F0 w0 w (qxc nb (⟨l⟩:Array Value).toList :: ps)):St F0 w0 w (qxc nb m :: ps):=by
 subst e; exact h
class Elt (P:Program) (e:TypeId) (z:outParam Value):Prop where
 info:∃ i,P.info? e=some i∧i.size=1∧i.bytes ≠ 0∧i.bytes≤16
 zc:Go.Proofs.Ythdmmmfgjmmelaa.zc P e=#[z]
theorem Elt.bytes {P:Program} {e:TypeId} {z:Value} [h:Elt P e z]:P.bytesOf e≤16:=by
 obtain ⟨i,h1,_,_,h4⟩:=h.info
 simp [Program.bytesOf,h1,h4]
instance elt_u8:Elt Try.prog 5 (.int .u8 0):=⟨⟨Try.t5,by kernel_rfl,rfl,by decide,by decide⟩,by kernel_rfl⟩
instance elt_u32:Elt Try.prog 165 (.int .u32 0):=⟨⟨Try.t165,by kernel_rfl,rfl,by decide,by decide⟩,by kernel_rfl⟩
instance elt_int:Elt Try.prog 3 (.int .i64 0):=⟨⟨Try.t3,by kernel_rfl,rfl,by decide,by decide⟩,by kernel_rfl⟩
instance elt_bool:Elt Try.prog 4 (.bool false):=⟨⟨Try.t4,by kernel_rfl,rfl,by decide,by decide⟩,by kernel_rfl⟩
section
variable {F0:List Nat} {w0 w:World} {ps rest:List As} {P:Program} {e:TypeId} {z:Value} {s:Sl} {cs:List Value}
theorem St.push {v:Value} {K:Sl→World→Prop} [he:Elt P e z] (h:St F0 w0 w ps) [PkO s ps 1 cs rest] (hlen:cs.length≤1099511627776) (hv:storable v)
 (hk:∀ s' w',St F0 w0 w' (qdc 1 s' (cs ++ [v]) :: rest)→K s' w') :
 lt (⟨World.heapSize w,0,none⟩:Addr) fun a=>lt (World.alloc w (.cells ⟨[v]⟩ e)) fun w1=>rdO w1 (some a) (1 * 1) fun c=>apK P e w1 s.a s.len s.cap 1 c K:=by
 refine (h.toO s).new fun nb w h=>?_
 refine h.rdB rfl ?_
 obtain ⟨i,h1,h2,h3,h4⟩:=he.info
 exact h.drop.append1 h1 h2 he.zc h3 h4 hlen rfl hv hk
theorem St.pushI {k:IntKind} {zs:List Int} {x:Int} {K:Sl→World→Prop} [he:Elt P e z] (h:St F0 w0 w ps) [PkO s ps 1 (ivs k zs) rest] (hlen:zs.length≤1099511627776)
 (hk:∀ s' w',St F0 w0 w' (qdc 1 s' (ivs k (zs ++ [x])) :: rest)→K s' w') :
 lt (⟨World.heapSize w,0,none⟩:Addr) fun a=>lt (World.alloc w (.cells ⟨[.int k x]⟩ e)) fun w1=>rdO w1 (some a) (1 * 1) fun c=>apK P e w1 s.a s.len s.cap 1 c K :=
 h.push (by rw [qx]; exact hlen) trivial fun s' w h=>hk s' w (by rw [← ivs_app]; exact h)
theorem St.app {n:Nat} {cs2:List Value} {c:Array Value} {K:Sl→World→Prop} [he:Elt P e z] (h:St F0 w0 w ps) [PkO s ps 1 cs rest] (hc:c=⟨cs2⟩) (hn:cs2.length=n) (hlen:cs.length+n≤1099511627776) (hv:∀ v ∈ (⟨cs2⟩:Array Value),storable v)
 (hk:∀ s' w',St F0 w0 w' (qdc 1 s' (cs ++ cs2) :: rest)→K s' w'):apK P e w s.a s.len s.cap n c K:=by
 subst hc
 obtain ⟨i,h1,h2,h3,h4⟩:=he.info
 have h:=h.toO s
 have hl:=h.len
 refine St.append (i:=i) (sz:=1) (m:=n) h1 h2 (by decide) (by rw [he.zc]; rfl) h3 ?_ h (by show cs2.length=n * 1; omega) hv (fun s' w' h _=>hk s' w' h)
 refine Nat.le_trans (Nat.mul_le_mul_left _ h4) ?_
 have hl2:s.len+n≤1099511627776:=by omega
 clear hk h
 generalize s.len+n=m at hl2
 omega
theorem St.appI {k:IntKind} {s2:Sl} {zs ys:List Int} {K:Sl→World→Prop} [he:Elt P e z] (h:St F0 w0 w ps) [PkO s ps 1 (ivs k zs) rest] [Rdb F0 w0 s2 ps 1 (ivs k ys)] (hlen:zs.length+ys.length≤1099511627776)
 (hk:∀ s' w',St F0 w0 w' (qdc 1 s' (ivs k (zs ++ ys)) :: rest)→K s' w'):rdO w s2.a (s2.len * 1) fun c=>apK P e w s.a s.len s.cap s2.len c K:=by
 have hr:=h.rdb s2
 have hl:=hr.1
 rw [qx] at hl
 refine hr.rdO (by rw [qx]; omega) ?_
 exact h.app (cs:=ivs k zs) (cs2:=ivs k ys) rfl (by rw [qx]; omega) (by rw [qx]; omega) qof fun s' w h=>hk s' w (by rw [← ivs_app]; exact h)
theorem St.own0 {nb:Nat} (h:St F0 w0 w (qxc nb [] :: ps)):St F0 w0 w (qdc 1 ⟨some ⟨nb,0,none⟩,0,0⟩ [] :: ps):=by
 refine h.mp ?_
 rintro F ⟨hb,rfl⟩
 exact Or.inr ⟨nb,[],rfl,hb,rfl,rfl,rfl⟩
theorem St.ownB {nb n:Nat} {l:List Value} (h:St F0 w0 w (qxc nb l :: ps)) (hn:l.length=n):St F0 w0 w (qdc 1 ⟨some ⟨nb,0,none⟩,n,n⟩ l :: ps):=by
 refine h.mp ?_
 rintro F ⟨hb,rfl⟩
 exact Or.inr ⟨nb,[],rfl,by simpa using hb,by simp [hn],by simp [hn],rfl⟩
theorem St.clone {k:IntKind} {s2:Sl} {ys:List Int} {K:Sl→World→Prop} [he:Elt P e z] (h:St F0 w0 w ps) [Rdb F0 w0 s2 ps 1 (ivs k ys)] (hlen:ys.length≤1099511627776)
 (hk:∀ s' w',St F0 w0 w' (qdc 1 s' (ivs k ys) :: ps)→K s' w') :
 lt (⟨World.heapSize w,0,none⟩:Addr) fun a=>lt (World.alloc w (.cells ⟨[]⟩ e)) fun w1=>rdO w1 s2.a (s2.len * 1) fun c=>apK P e w1 (some a) 0 0 s2.len c K:=by
 refine h.new fun nb w h=>?_
 have h:=h.own0
 exact St.appI (s:=⟨some ⟨nb,0,none⟩,0,0⟩) (zs:=[]) (k:=k) (ys:=ys) h (by simpa using hlen) fun s' w h=>hk s' w h
theorem St.make {n:Nat} {l c:Int} {K:Sl→World→Prop} [he:Elt P e z] (h:St F0 w0 w ps) (hl:l=n) (hc:c=n) (hn:n≤1099511627776)
 (hk:∀ s w',s.len=n→s.cap=n→St F0 w0 w' (qdc 1 s (List.replicate n z) :: ps)→K s w'):mkK P e w l c K :=
 St.make1 he.zc hl hc hn he.bytes h hk
theorem St.makeI {k:IntKind} {n:Nat} {l c:Int} {K:Sl→World→Prop} [he:Elt P e (.int k 0)] (h:St F0 w0 w ps) (hl:l=n) (hc:c=n) (hn:n≤1099511627776)
 (hk:∀ s w',s.len=n→s.cap=n→St F0 w0 w' (qdc 1 s (ivs k (List.replicate n 0)) :: ps)→K s w'):mkK P e w l c K :=
 h.make hl hc hn fun s w h1 h2 h=>hk s w h1 h2 (by rw [← ivs_rep]; exact h)
theorem St.bt {s:Sl} {xs:List Int} {K:ByteArray→Prop} (h:St F0 w0 w ps) [Rdb F0 w0 s ps 1 (ivs .u8 xs)] (hx:∀ x ∈ xs,0≤x∧x < 256) (hk:K ⟨⟨u8 xs⟩⟩):btS w s.a s.len K :=
 (h.rdb s).btS hx hk
theorem Rdb.cut {k:IntKind} {xs:List Int} (hr:Rdb F0 w0 s ps 1 (ivs k xs)) (n m c':Nat) (hm:m≤s.len) (hn:n≤m) (hc:s.len≤s.cap):Rdb F0 w0 ⟨qzf s.a s.cap n 1,m - n,c'⟩ ps 1 (ivs k ((xs.drop n).take (m - n))):=⟨fun h=>by
 have:=(hr.rd h).cut (n:=n) (m:=m) (by decide) hm hn hc c'
 rw [Nat.mul_one,Nat.mul_one,ivs_drop,qhl] at this
 exact this⟩
theorem Rdb.cutAs {k:IntKind} {xs ys:List Int} (hr:Rdb F0 w0 s ps 1 (ivs k xs)) (n m c':Nat) (hm:m≤s.len) (hn:n≤m) (hc:s.len≤s.cap) (e:(xs.drop n).take (m - n)=ys):Rdb F0 w0 ⟨qzf s.a s.cap n 1,m - n,c'⟩ ps 1 (ivs k ys):=e ▸ hr.cut n m c' hm hn hc
theorem St.cutR {k:IntKind} {xs ys:List Int} (h:St F0 w0 w ps) (s:Sl) [hr:Rdb F0 w0 s ps 1 (ivs k xs)] (n m c':Nat) (hm:m≤s.len) (hn:n≤m) (hc:s.len≤s.cap) (e:(xs.drop n).take (m - n)=ys):Rdb F0 w0 ⟨qzf s.a s.cap n 1,m - n,c'⟩ ps 1 (ivs k ys):=hr.cutAs n m c' hm hn hc e
theorem St.str {b n:Nat} {l:List Value} {K:World→Prop} (h:St F0 w0 w ps) [PkB b ps l rest] (hn:l.length=n) (hk:∀ w',St F0 w0 w' (rdA 1 ⟨some ⟨b,0,none⟩,n,n⟩ l :: rest)→K w'):mkStr w (some ⟨b,0,none⟩) K :=
 mkStr_i (h.toB b) hn hk
end
end Go.Proofs.Ythdmmmfgjmmelaa
namespace Go.Proofs.Ythdmmmfgjmmelaa
open Go Go.Proofs
set_option linter.unusedVariables false
set_option maxRecDepth 100000
def qjc.j2 (t2 out_3:Addr) (Q:VWP) (w:World):Prop :=
 ldA w out_3 16 fun c1 =>
 (c1).size=16 ∧
 stA w t2 c1 fun w2 =>
 ldA w2 t2 16 fun c3 =>
 Q (.agg c3) w2
def qjc.b1 (t2 out_3:Addr) (t6:Sl) (t7 t8:Int) (Q:VWP) (nx1:Addr→Addr→Sl→Int→Int→World→Prop) (w:World):Prop :=
 br (decide ((t8:Int) < t7)) (
 ixS t6.a t6.len t8 1 fun a4 =>
 ldI .i64 w a4 fun x5 =>
 br (decide ((x5:Int) > 0)) (
 ixA out_3 16 x5 1 fun a6 =>
 ldI .i64 w a6 fun x7 =>
 lt (IntKind.i64.wrap (x7+1)) fun x8 =>
 ixA out_3 16 x5 1 fun a9 =>
 st w a9 (.int .i64 x8) fun w10 =>
 lt (IntKind.i64.wrap (t8+1)) fun x11 =>
 nx1 t2 out_3 t6 t7 x11 w10) (
 lt (IntKind.i64.wrap (t8+1)) fun x12 =>
 nx1 t2 out_3 t6 t7 x12 w)) (
 qjc.j2 t2 out_3 Q w)
def qjc.l1 (t2 out_3:Addr) (t6:Sl) (t7 t8:Int) (Q:VWP) (w:World):Prop :=
 ∃ (I:Int→World→Prop) (μ:Int→World→Nat),I t8 w∧∀ t8:Int,∀ w:World,I t8 w→qjc.b1 t2 out_3 t6 t7 t8 Q (fun t2' out_3' t6' t7' t8' w'=>(t2'=t2∧out_3'=out_3∧t6'=t6∧t7'=t7)∧I t8' w'∧μ t8' w' < μ t8 w) w
def qjc.j3 (t2 out_3:Addr) (t6:Sl) (t7 t8:Int) (Q:VWP) (w:World):Prop :=
 qjc.l1 t2 out_3 t6 t7 t8 Q w
def qjc.j1 (lens_0:Sl) (t2:Addr) (out_3:Addr) (Q:VWP) (w:World):Prop :=
 qjc.j3 t2 out_3 lens_0 ((lens_0.len:Nat):Int) 0 Q w
def qjc (lens_0:Sl) (Q:VWP) (w:World):Prop :=
 lt (⟨World.heapSize w,0,none⟩:Addr) fun a13 =>
 lt (World.alloc w (.cells (zc Try.prog 86) 86)) fun w14 =>
 lt (⟨World.heapSize w14,0,none⟩:Addr) fun a15 =>
 lt (World.alloc w14 (.cells (zc Try.prog 86) 86)) fun w16 =>
 qjc.j1 lens_0 a13 a15 Q w16
theorem qjc.ok (lens_0:Sl) (Q:VWP) (w:World) (h:qjc lens_0 Q w):Calls Try.prog 47 ⟨[.slice lens_0.a lens_0.len lens_0.cap]⟩ w (Ret Q):=by
 refine qn [.cell 2 86] Try.func47 rfl rfl rfl rfl ?_
 refine qib qpb (fun ρ w=>asL (ρ 0) fun lens_0=>asA (ρ 2) fun t2=>asA (ρ 3) fun out_3=>qjc.j1 lens_0 t2 out_3 Q w) (Eq.mp (by kernel_rfl) h) ?_
 intro ρ w h
 obtain ⟨lens_0,e0,h⟩:=qj h
 obtain ⟨t2,e2,h⟩:=qbe h
 obtain ⟨out_3,e3,h⟩:=qbe h
 refine qb e0 (qb (qa e2 rfl) (qb (qa (qa e3 rfl) rfl) ?_))
 refine qr (fun ρ w=>asA (ρ 2) fun t2=>asA (ρ 3) fun out_3=>qjc.j2 t2 out_3 Q w) ?_ ?_
 · skip
   refine qr (fun ρ w=>asA (ρ 2) fun t2=>asA (ρ 3) fun out_3=>asL (ρ 6) fun t6=>asI .i64 (ρ 7) fun t7=>asI .i64 (ρ 8) fun t8=>qjc.j3 t2 out_3 t6 t7 t8 Q w) ?_ ?_
   · skip
     exact qg qpb _ (Eq.mp (by kernel_rfl) h)
   · intro ρ w h
     obtain ⟨t2,e2,h⟩:=qbe h
     obtain ⟨out_3,e3,h⟩:=qbe h
     obtain ⟨t6,e6,h⟩:=qj h
     obtain ⟨t7,e7,h⟩:=qe h
     obtain ⟨t8,e8,h⟩:=qe h
     refine qb e2 (qb (qa e3 rfl) (qb (qa (qa e6 rfl) rfl) (qb (qa (qa (qa e7 rfl) rfl) rfl) (qb (qa (qa (qa (qa e8 rfl) rfl) rfl) rfl) ?_))))
     refine qcb ?_
     obtain ⟨I,μ,hI,hr⟩:=h
     refine qhb (α:=Int) (fun s ρ=>ρ 8=.int .i64 s∧ρ 2=.pointer (some t2)∧ρ 3=.pointer (some out_3)∧ρ 6=.slice t6.a t6.len t6.cap∧ρ 7=.int .i64 t7) (fun s w=>I s w) (fun s w=>μ s w) t8 ⟨rfl,rfl,rfl,rfl,rfl⟩ hI ?_
     rintro t8 ρ w ⟨e8,e2,e3,e6,e7⟩ hI
     have h:=hr t8 w hI
     clear hr
     obtain ⟨nx1,hnx⟩:∃ nx:Addr→Addr→Sl→Int→Int→World→Prop,nx=(fun t2' out_3' t6' t7' t8' w'=>(t2'=t2∧out_3'=out_3∧t6'=t6∧t7'=t7)∧I t8' w'∧μ t8' w' < μ t8 w):=⟨_,rfl⟩
     rw [← hnx] at h
     refine qob (M:=fun ρ w=>asA (ρ 2) fun t2=>asA (ρ 3) fun out_3=>asL (ρ 6) fun t6=>asI .i64 (ρ 7) fun t7=>asI .i64 (ρ 8) fun t8=>nx1 t2 out_3 t6 t7 t8 w) ?_ (fun ρ w h=>?_)
     · skip
       refine qb e2 (qb (qa e3 rfl) (qb (qa (qa e6 rfl) rfl) (qb (qa (qa (qa e7 rfl) rfl) rfl) (qb (qa (qa (qa (qa e8 rfl) rfl) rfl) rfl) ?_))))
       exact qg qpb _ (Eq.mp (by kernel_rfl) h)
     · skip
       obtain ⟨t2',e2',h⟩:=qbe h
       obtain ⟨out_3',e3',h⟩:=qbe h
       obtain ⟨t6',e6',h⟩:=qj h
       obtain ⟨t7',e7',h⟩:=qe h
       obtain ⟨t8',e8',h⟩:=qe h
       rw [hnx] at h
       obtain ⟨hu,hI2,hμ⟩:=h
       obtain ⟨rfl,rfl,rfl,rfl⟩:=hu
       exact ⟨t8',⟨e8',e2',e3',e6',e7'⟩,hI2,hμ⟩
 · intro ρ w h
   obtain ⟨t2,e2,h⟩:=qbe h
   obtain ⟨out_3,e3,h⟩:=qbe h
   refine qb e2 (qb (qa e3 rfl) ?_)
   exact qg qpb _ (Eq.mp (by kernel_rfl) h)
def qwb.j4 (room_6:Int) (Q:VWP) (w:World):Prop :=
 br (decide ((room_6:Int) < 0)) (
 Q (.tuple ⟨[.bool false,.int .i64 2]⟩) w) (
 Q (.tuple ⟨[.bool ((room_6:Int) == 0),.int .i64 0]⟩) w)
def qwb.b1 (t26:(Array Value)) (room_6 t27:Int) (Q:VWP) (nx1:(Array Value)→Int→Int→World→Prop) (w:World):Prop :=
 br (decide ((t27:Int) < 16)) (
 ((0:Int)≤t27∧t27 < ((16:Nat):Int)) ∧
 ptI .i64 t26 (Int.toNat t27 * 1) fun x1 =>
 br (decide ((t27:Int) > 0)) (
 lt (IntKind.i64.wrap (15 - t27)) fun x2 =>
 (0:Int)≤x2 ∧
 lt (qej .i64 x1 x2) fun x3 =>
 lt (IntKind.i64.wrap (room_6 - x3)) fun x4 =>
 lt (IntKind.i64.wrap (t27+1)) fun x5 =>
 nx1 t26 x4 x5 w) (
 lt (IntKind.i64.wrap (t27+1)) fun x6 =>
 nx1 t26 room_6 x6 w)) (
 qwb.j4 room_6 Q w)
def qwb.l1 (t26:(Array Value)) (room_6 t27:Int) (Q:VWP) (w:World):Prop :=
 ∃ (I:Int→Int→World→Prop) (μ:Int→Int→World→Nat),I room_6 t27 w∧∀ room_6:Int,∀ t27:Int,∀ w:World,I room_6 t27 w→qwb.b1 t26 room_6 t27 Q (fun t26' room_6' t27' w'=>(t26'=t26)∧I room_6' t27' w'∧μ room_6' t27' w' < μ room_6 t27 w) w
def qwb.j5 (room_6:Int) (t26:(Array Value)) (t27:Int) (Q:VWP) (w:World):Prop :=
 qwb.l1 t26 room_6 t27 Q w
def qwb.j3 (lens_0:Sl) (room_6:Int) (Q:VWP) (w:World):Prop :=
 Calls Try.prog 47 ⟨[.slice lens_0.a lens_0.len lens_0.cap]⟩ w fun e7 w8 =>
 ∃ r9:(Array Value),e7=.returned (.agg r9) ∧
 qwb.j5 room_6 r9 0 Q w8
def qwb.j2 (lens_0:Sl) (Q:VWP) (w:World):Prop :=
 qwb.j3 lens_0 32768 Q w
def qwb.b2 (lens_0 t12:Sl) (t13:Int) (t14:Int) (Q:VWP) (nx2:Sl→Sl→Int→Int→World→Prop) (w:World):Prop :=
 br (decide ((t14:Int) < t13)) (
 ixS t12.a t12.len t14 1 fun a10 =>
 ldI .i64 w a10 fun x11 =>
 br (decide ((x11:Int) < 0)) (
 Q (.tuple ⟨[.bool false,.int .i64 1]⟩) w) (
 br (decide ((x11:Int) > 15)) (
 Q (.tuple ⟨[.bool false,.int .i64 1]⟩) w) (
 lt (IntKind.i64.wrap (t14+1)) fun x12 =>
 nx2 lens_0 t12 t13 x12 w))) (
 qwb.j2 lens_0 Q w)
def qwb.l2 (lens_0 t12:Sl) (t13:Int) (t14:Int) (Q:VWP) (w:World):Prop :=
 ∃ (I:Int→World→Prop) (μ:Int→World→Nat),I t14 w∧∀ t14:Int,∀ w:World,I t14 w→qwb.b2 lens_0 t12 t13 t14 Q (fun lens_0' t12' t13' t14' w'=>(lens_0'=lens_0∧t12'=t12∧t13'=t13)∧I t14' w'∧μ t14' w' < μ t14 w) w
def qwb.j6 (lens_0 t12:Sl) (t13:Int) (t14:Int) (Q:VWP) (w:World):Prop :=
 qwb.l2 lens_0 t12 t13 t14 Q w
def qwb.j1 (lens_0:Sl) (Q:VWP) (w:World):Prop :=
 qwb.j6 lens_0 lens_0 ((lens_0.len:Nat):Int) 0 Q w
def qwb (lens_0:Sl) (Q:VWP) (w:World):Prop :=
 br (decide ((((lens_0.len:Nat):Int):Int) > 288)) (
 Q (.tuple ⟨[.bool false,.int .i64 1]⟩) w) (
 qwb.j1 lens_0 Q w)
theorem qwb.ok (lens_0:Sl) (Q:VWP) (w:World) (h:qwb lens_0 Q w):Calls Try.prog 13 ⟨[.slice lens_0.a lens_0.len lens_0.cap]⟩ w (Ret Q):=by
 refine qn [.tmp 2,.tmp 3] Try.func13 rfl rfl rfl rfl ?_
 refine qib qpb (fun ρ w=>asL (ρ 0) fun lens_0=>qwb.j1 lens_0 Q w) (Eq.mp (by kernel_rfl) h) ?_
 intro ρ w h
 obtain ⟨lens_0,e0,h⟩:=qj h
 refine qb e0 ?_
 refine qr (fun ρ w=>asL (ρ 0) fun lens_0=>qwb.j2 lens_0 Q w) ?_ ?_
 · skip
   refine qr (fun ρ w=>asL (ρ 0) fun lens_0=>asL (ρ 12) fun t12=>asI .i64 (ρ 13) fun t13=>asI .i64 (ρ 14) fun t14=>qwb.j6 lens_0 t12 t13 t14 Q w) ?_ ?_
   · skip
     exact qg qpb _ (Eq.mp (by kernel_rfl) h)
   · intro ρ w h
     obtain ⟨lens_0,e0,h⟩:=qj h
     obtain ⟨t12,e12,h⟩:=qj h
     obtain ⟨t13,e13,h⟩:=qe h
     obtain ⟨t14,e14,h⟩:=qe h
     refine qb e0 (qb (qa e12 rfl) (qb (qa (qa e13 rfl) rfl) (qb (qa (qa (qa e14 rfl) rfl) rfl) ?_)))
     refine qcb ?_
     obtain ⟨I,μ,hI,hr⟩:=h
     refine qhb (α:=Int) (fun s ρ=>ρ 14=.int .i64 s∧ρ 0=.slice lens_0.a lens_0.len lens_0.cap∧ρ 12=.slice t12.a t12.len t12.cap∧ρ 13=.int .i64 t13) (fun s w=>I s w) (fun s w=>μ s w) t14 ⟨rfl,rfl,rfl,rfl⟩ hI ?_
     rintro t14 ρ w ⟨e14,e0,e12,e13⟩ hI
     have h:=hr t14 w hI
     clear hr
     obtain ⟨nx2,hnx⟩:∃ nx:Sl→Sl→Int→Int→World→Prop,nx=(fun lens_0' t12' t13' t14' w'=>(lens_0'=lens_0∧t12'=t12∧t13'=t13)∧I t14' w'∧μ t14' w' < μ t14 w):=⟨_,rfl⟩
     rw [← hnx] at h
     refine qob (M:=fun ρ w=>asL (ρ 0) fun lens_0=>asL (ρ 12) fun t12=>asI .i64 (ρ 13) fun t13=>asI .i64 (ρ 14) fun t14=>nx2 lens_0 t12 t13 t14 w) ?_ (fun ρ w h=>?_)
     · skip
       refine qb e0 (qb (qa e12 rfl) (qb (qa (qa e13 rfl) rfl) (qb (qa (qa (qa e14 rfl) rfl) rfl) ?_)))
       exact qg qpb _ (Eq.mp (by kernel_rfl) h)
     · skip
       obtain ⟨lens_0',e0',h⟩:=qj h
       obtain ⟨t12',e12',h⟩:=qj h
       obtain ⟨t13',e13',h⟩:=qe h
       obtain ⟨t14',e14',h⟩:=qe h
       rw [hnx] at h
       obtain ⟨hu,hI2,hμ⟩:=h
       obtain ⟨rfl,rfl,rfl⟩:=hu
       exact ⟨t14',⟨e14',e0',e12',e13'⟩,hI2,hμ⟩
 · intro ρ w h
   obtain ⟨lens_0,e0,h⟩:=qj h
   refine qb e0 ?_
   refine qr (fun ρ w=>asL (ρ 0) fun lens_0=>asI .i64 (ρ 6) fun room_6=>qwb.j3 lens_0 room_6 Q w) ?_ ?_
   · skip
     exact qg qpb _ (Eq.mp (by kernel_rfl) h)
   · intro ρ w h
     obtain ⟨lens_0,e0,h⟩:=qj h
     obtain ⟨room_6,e6,h⟩:=qe h
     refine qb e0 (qb (qa e6 rfl) ?_)
     refine qr (fun ρ w=>asI .i64 (ρ 6) fun room_6=>qwb.j4 room_6 Q w) ?_ ?_
     · skip
       refine qr (fun ρ w=>asI .i64 (ρ 6) fun room_6=>asG (ρ 26) fun t26=>asI .i64 (ρ 27) fun t27=>qwb.j5 room_6 t26 t27 Q w) ?_ ?_
       · skip
         exact qg qpb _ (Eq.mp (by kernel_rfl) h)
       · intro ρ w h
         obtain ⟨room_6,e6,h⟩:=qe h
         obtain ⟨t26,e26,h⟩:=asG_el h
         obtain ⟨t27,e27,h⟩:=qe h
         refine qb e6 (qb (qa e26 rfl) (qb (qa (qa e27 rfl) rfl) ?_))
         refine qcb ?_
         obtain ⟨I,μ,hI,hr⟩:=h
         refine qhb (α:=Int × Int) (fun s ρ=>ρ 6=.int .i64 s.1∧ρ 27=.int .i64 s.2∧ρ 26=.agg t26) (fun s w=>I s.1 s.2 w) (fun s w=>μ s.1 s.2 w) (room_6,t27) ⟨rfl,rfl,rfl⟩ hI ?_
         rintro ⟨room_6,t27⟩ ρ w ⟨e6,e27,e26⟩ hI
         have h:=hr room_6 t27 w hI
         clear hr
         obtain ⟨nx1,hnx⟩:∃ nx:(Array Value)→Int→Int→World→Prop,nx=(fun t26' room_6' t27' w'=>(t26'=t26)∧I room_6' t27' w'∧μ room_6' t27' w' < μ room_6 t27 w):=⟨_,rfl⟩
         rw [← hnx] at h
         refine qob (M:=fun ρ w=>asG (ρ 26) fun t26=>asI .i64 (ρ 6) fun room_6=>asI .i64 (ρ 27) fun t27=>nx1 t26 room_6 t27 w) ?_ (fun ρ w h=>?_)
         · skip
           refine qb e6 (qb (qa e26 rfl) (qb (qa (qa e27 rfl) rfl) ?_))
           exact qg qpb _ (Eq.mp (by kernel_rfl) h)
         · skip
           obtain ⟨t26',e26',h⟩:=asG_el h
           obtain ⟨room_6',e6',h⟩:=qe h
           obtain ⟨t27',e27',h⟩:=qe h
           rw [hnx] at h
           obtain ⟨hu,hI2,hμ⟩:=h
           obtain rfl:=hu
           exact ⟨(room_6',t27'),⟨e6',e27',e26'⟩,hI2,hμ⟩
     · intro ρ w h
       obtain ⟨room_6,e6,h⟩:=qe h
       refine qb e6 ?_
       exact qg qpb _ (Eq.mp (by kernel_rfl) h)
def qrb.j5 (out_9:Sl) (Q:VWP) (w:World):Prop :=
 Q (.tuple ⟨[.slice out_9.a out_9.len out_9.cap,.int .i64 0]⟩) w
def qrb.b1 (next_6:Addr) (out_9:Sl) (t41:Sl) (t42:Int) (t43:Int) (Q:VWP) (nx1:Addr→Sl→Sl→Int→Int→World→Prop) (w:World):Prop :=
 br (decide ((t43:Int) < t42)) (
 ixS t41.a t41.len t43 1 fun a1 =>
 ldI .i64 w a1 fun x2 =>
 br (decide ((x2:Int) > 0)) (
 ixA next_6 16 x2 1 fun a3 =>
 ldI .i64 w a3 fun x4 =>
 ixS out_9.a out_9.len t43 1 fun a5 =>
 st w a5 (.int .i64 x4) fun w6 =>
 ixA next_6 16 x2 1 fun a7 =>
 ldI .i64 w6 a7 fun x8 =>
 lt (IntKind.i64.wrap (x8+1)) fun x9 =>
 ixA next_6 16 x2 1 fun a10 =>
 st w6 a10 (.int .i64 x9) fun w11 =>
 lt (IntKind.i64.wrap (t43+1)) fun x12 =>
 nx1 next_6 out_9 t41 t42 x12 w11) (
 lt (IntKind.i64.wrap (t43+1)) fun x13 =>
 nx1 next_6 out_9 t41 t42 x13 w)) (
 qrb.j5 out_9 Q w)
def qrb.l1 (next_6:Addr) (out_9:Sl) (t41:Sl) (t42:Int) (t43:Int) (Q:VWP) (w:World):Prop :=
 ∃ (I:Int→World→Prop) (μ:Int→World→Nat),I t43 w∧∀ t43:Int,∀ w:World,I t43 w→qrb.b1 next_6 out_9 t41 t42 t43 Q (fun next_6' out_9' t41' t42' t43' w'=>(next_6'=next_6∧out_9'=out_9∧t41'=t41∧t42'=t42)∧I t43' w'∧μ t43' w' < μ t43 w) w
def qrb.j6 (next_6:Addr) (out_9:Sl) (t41:Sl) (t42:Int) (t43:Int) (Q:VWP) (w:World):Prop :=
 qrb.l1 next_6 out_9 t41 t42 t43 Q w
def qrb.j4 (lens_0:Sl) (next_6:Addr) (out_9:Sl) (Q:VWP) (w:World):Prop :=
 qrb.j6 next_6 out_9 lens_0 ((lens_0.len:Nat):Int) 0 Q w
def qrb.j3 (lens_0:Sl) (next_6:Addr) (Q:VWP) (w:World):Prop :=
 mkK Try.prog 3 w ((lens_0.len:Nat):Int) ((lens_0.len:Nat):Int) fun s14 w15 =>
 qrb.j4 lens_0 next_6 s14 Q w15
def qrb.b2 (lens_0:Sl) (next_6:Addr) (c_7:Addr) (n_8:Int) (Q:VWP) (nx2:Sl→Addr→Addr→Int→World→Prop) (w:World):Prop :=
 br (decide ((n_8:Int)≤15)) (
 lt (World.drew w) fun w16 =>
 lt (IntKind.i64.wrap (n_8 - 1)) fun x17 =>
 ixA next_6 16 x17 1 fun a18 =>
 ldI .i64 w16 a18 fun x19 =>
 lt (IntKind.i64.wrap (n_8 - 1)) fun x20 =>
 ixA c_7 16 x20 1 fun a21 =>
 ldI .i64 w16 a21 fun x22 =>
 lt (IntKind.i64.wrap (x19+x22)) fun x23 =>
 (0:Int)≤1 ∧
 lt (qej .i64 x23 1) fun x24 =>
 ixA next_6 16 n_8 1 fun a25 =>
 st w16 a25 (.int .i64 x24) fun w26 =>
 lt (IntKind.i64.wrap (n_8+1)) fun x27 =>
 nx2 lens_0 next_6 c_7 x27 w26) (
 qrb.j3 lens_0 next_6 Q w)
def qrb.l2 (lens_0:Sl) (next_6:Addr) (c_7:Addr) (n_8:Int) (Q:VWP) (w:World):Prop :=
 ∃ (I:Int→World→Prop) (μ:Int→World→Nat),I n_8 w∧∀ n_8:Int,∀ w:World,I n_8 w→qrb.b2 lens_0 next_6 c_7 n_8 Q (fun lens_0' next_6' c_7' n_8' w'=>(lens_0'=lens_0∧next_6'=next_6∧c_7'=c_7)∧I n_8' w'∧μ n_8' w' < μ n_8 w) w
def qrb.j7 (lens_0:Sl) (next_6:Addr) (c_7:Addr) (n_8:Int) (Q:VWP) (w:World):Prop :=
 qrb.l2 lens_0 next_6 c_7 n_8 Q w
def qrb.j2 (lens_0:Sl) (next_6:Addr) (c_7:Addr) (Q:VWP) (w:World):Prop :=
 qrb.j7 lens_0 next_6 c_7 1 Q w
def qrb.j1 (lens_0:Sl) (Q:VWP) (w:World):Prop :=
 lt (⟨World.heapSize w,0,none⟩:Addr) fun a28 =>
 lt (World.alloc w (.cells (zc Try.prog 86) 86)) fun w29 =>
 Calls Try.prog 47 ⟨[.slice lens_0.a lens_0.len lens_0.cap]⟩ w29 fun e30 w31 =>
 ∃ r32:(Array Value),e30=.returned (.agg r32) ∧
 lt (⟨World.heapSize w31,0,none⟩:Addr) fun a33 =>
 lt (World.alloc w31 (.cells (zc Try.prog 86) 86)) fun w34 =>
 (r32).size=16 ∧
 stA w34 a33 r32 fun w35 =>
 qrb.j2 lens_0 a28 a33 Q w35
def qrb (lens_0:Sl) (Q:VWP) (w:World):Prop :=
 Calls Try.prog 13 ⟨[.slice lens_0.a lens_0.len lens_0.cap]⟩ w fun e36 w37 =>
 ∃ r38:Bool,∃ r39:Int,e36=.returned (.tuple ⟨[.bool r38,.int .i64 r39]⟩) ∧
 br ((r39:Int) != 0) (
 Q (.tuple ⟨[.slice none 0 0,.int .i64 r39]⟩) w37) (
 qrb.j1 lens_0 Q w37)
theorem qrb.ok (lens_0:Sl) (Q:VWP) (w:World) (h:qrb lens_0 Q w):Calls Try.prog 48 ⟨[.slice lens_0.a lens_0.len lens_0.cap]⟩ w (Ret Q):=by
 refine qn [.tmp 2,.tmp 3] Try.func48 rfl rfl rfl rfl ?_
 refine qib qpb (fun ρ w=>asL (ρ 0) fun lens_0=>qrb.j1 lens_0 Q w) (Eq.mp (by kernel_rfl) h) ?_
 intro ρ w h
 obtain ⟨lens_0,e0,h⟩:=qj h
 refine qb e0 ?_
 refine qib qpb (fun ρ w=>asL (ρ 0) fun lens_0=>asA (ρ 6) fun next_6=>asA (ρ 7) fun c_7=>qrb.j2 lens_0 next_6 c_7 Q w) (Eq.mp (by kernel_rfl) h) ?_
 intro ρ w h
 obtain ⟨lens_0,e0,h⟩:=qj h
 obtain ⟨next_6,e6,h⟩:=qbe h
 obtain ⟨c_7,e7,h⟩:=qbe h
 refine qb e0 (qb (qa e6 rfl) (qb (qa (qa e7 rfl) rfl) ?_))
 refine qr (fun ρ w=>asL (ρ 0) fun lens_0=>asA (ρ 6) fun next_6=>qrb.j3 lens_0 next_6 Q w) ?_ ?_
 · skip
   refine qr (fun ρ w=>asL (ρ 0) fun lens_0=>asA (ρ 6) fun next_6=>asA (ρ 7) fun c_7=>asI .i64 (ρ 8) fun n_8=>qrb.j7 lens_0 next_6 c_7 n_8 Q w) ?_ ?_
   · skip
     exact qg qpb _ (Eq.mp (by kernel_rfl) h)
   · intro ρ w h
     obtain ⟨lens_0,e0,h⟩:=qj h
     obtain ⟨next_6,e6,h⟩:=qbe h
     obtain ⟨c_7,e7,h⟩:=qbe h
     obtain ⟨n_8,e8,h⟩:=qe h
     refine qb e0 (qb (qa e6 rfl) (qb (qa (qa e7 rfl) rfl) (qb (qa (qa (qa e8 rfl) rfl) rfl) ?_)))
     refine qcb ?_
     obtain ⟨I,μ,hI,hr⟩:=h
     refine qhb (α:=Int) (fun s ρ=>ρ 8=.int .i64 s∧ρ 0=.slice lens_0.a lens_0.len lens_0.cap∧ρ 6=.pointer (some next_6)∧ρ 7=.pointer (some c_7)) (fun s w=>I s w) (fun s w=>μ s w) n_8 ⟨rfl,rfl,rfl,rfl⟩ hI ?_
     rintro n_8 ρ w ⟨e8,e0,e6,e7⟩ hI
     have h:=hr n_8 w hI
     clear hr
     obtain ⟨nx2,hnx⟩:∃ nx:Sl→Addr→Addr→Int→World→Prop,nx=(fun lens_0' next_6' c_7' n_8' w'=>(lens_0'=lens_0∧next_6'=next_6∧c_7'=c_7)∧I n_8' w'∧μ n_8' w' < μ n_8 w):=⟨_,rfl⟩
     rw [← hnx] at h
     refine qob (M:=fun ρ w=>asL (ρ 0) fun lens_0=>asA (ρ 6) fun next_6=>asA (ρ 7) fun c_7=>asI .i64 (ρ 8) fun n_8=>nx2 lens_0 next_6 c_7 n_8 w) ?_ (fun ρ w h=>?_)
     · skip
       refine qb e0 (qb (qa e6 rfl) (qb (qa (qa e7 rfl) rfl) (qb (qa (qa (qa e8 rfl) rfl) rfl) ?_)))
       exact qg qpb _ (Eq.mp (by kernel_rfl) h)
     · skip
       obtain ⟨lens_0',e0',h⟩:=qj h
       obtain ⟨next_6',e6',h⟩:=qbe h
       obtain ⟨c_7',e7',h⟩:=qbe h
       obtain ⟨n_8',e8',h⟩:=qe h
       rw [hnx] at h
       obtain ⟨hu,hI2,hμ⟩:=h
       obtain ⟨rfl,rfl,rfl⟩:=hu
       exact ⟨n_8',⟨e8',e0',e6',e7'⟩,hI2,hμ⟩
 · intro ρ w h
   obtain ⟨lens_0,e0,h⟩:=qj h
   obtain ⟨next_6,e6,h⟩:=qbe h
   refine qb e0 (qb (qa e6 rfl) ?_)
   refine qr (fun ρ w=>asL (ρ 0) fun lens_0=>asA (ρ 6) fun next_6=>asL (ρ 9) fun out_9=>qrb.j4 lens_0 next_6 out_9 Q w) ?_ ?_
   · skip
     exact qg qpb _ (Eq.mp (by kernel_rfl) h)
   · intro ρ w h
     obtain ⟨lens_0,e0,h⟩:=qj h
     obtain ⟨next_6,e6,h⟩:=qbe h
     obtain ⟨out_9,e9,h⟩:=qj h
     refine qb e0 (qb (qa e6 rfl) (qb (qa (qa e9 rfl) rfl) ?_))
     refine qr (fun ρ w=>asL (ρ 9) fun out_9=>qrb.j5 out_9 Q w) ?_ ?_
     · skip
       refine qr (fun ρ w=>asA (ρ 6) fun next_6=>asL (ρ 9) fun out_9=>asL (ρ 41) fun t41=>asI .i64 (ρ 42) fun t42=>asI .i64 (ρ 43) fun t43=>qrb.j6 next_6 out_9 t41 t42 t43 Q w) ?_ ?_
       · skip
         exact qg qpb _ (Eq.mp (by kernel_rfl) h)
       · intro ρ w h
         obtain ⟨next_6,e6,h⟩:=qbe h
         obtain ⟨out_9,e9,h⟩:=qj h
         obtain ⟨t41,e41,h⟩:=qj h
         obtain ⟨t42,e42,h⟩:=qe h
         obtain ⟨t43,e43,h⟩:=qe h
         refine qb e6 (qb (qa e9 rfl) (qb (qa (qa e41 rfl) rfl) (qb (qa (qa (qa e42 rfl) rfl) rfl) (qb (qa (qa (qa (qa e43 rfl) rfl) rfl) rfl) ?_))))
         refine qcb ?_
         obtain ⟨I,μ,hI,hr⟩:=h
         refine qhb (α:=Int) (fun s ρ=>ρ 43=.int .i64 s∧ρ 6=.pointer (some next_6)∧ρ 9=.slice out_9.a out_9.len out_9.cap∧ρ 41=.slice t41.a t41.len t41.cap∧ρ 42=.int .i64 t42) (fun s w=>I s w) (fun s w=>μ s w) t43 ⟨rfl,rfl,rfl,rfl,rfl⟩ hI ?_
         rintro t43 ρ w ⟨e43,e6,e9,e41,e42⟩ hI
         have h:=hr t43 w hI
         clear hr
         obtain ⟨nx1,hnx⟩:∃ nx:Addr→Sl→Sl→Int→Int→World→Prop,nx=(fun next_6' out_9' t41' t42' t43' w'=>(next_6'=next_6∧out_9'=out_9∧t41'=t41∧t42'=t42)∧I t43' w'∧μ t43' w' < μ t43 w):=⟨_,rfl⟩
         rw [← hnx] at h
         refine qob (M:=fun ρ w=>asA (ρ 6) fun next_6=>asL (ρ 9) fun out_9=>asL (ρ 41) fun t41=>asI .i64 (ρ 42) fun t42=>asI .i64 (ρ 43) fun t43=>nx1 next_6 out_9 t41 t42 t43 w) ?_ (fun ρ w h=>?_)
         · skip
           refine qb e6 (qb (qa e9 rfl) (qb (qa (qa e41 rfl) rfl) (qb (qa (qa (qa e42 rfl) rfl) rfl) (qb (qa (qa (qa (qa e43 rfl) rfl) rfl) rfl) ?_))))
           exact qg qpb _ (Eq.mp (by kernel_rfl) h)
         · skip
           obtain ⟨next_6',e6',h⟩:=qbe h
           obtain ⟨out_9',e9',h⟩:=qj h
           obtain ⟨t41',e41',h⟩:=qj h
           obtain ⟨t42',e42',h⟩:=qe h
           obtain ⟨t43',e43',h⟩:=qe h
           rw [hnx] at h
           obtain ⟨hu,hI2,hμ⟩:=h
           obtain ⟨rfl,rfl,rfl,rfl⟩:=hu
           exact ⟨t43',⟨e43',e6',e9',e41',e42'⟩,hI2,hμ⟩
     · intro ρ w h
       obtain ⟨out_9,e9,h⟩:=qj h
       refine qb e9 ?_
       exact qg qpb _ (Eq.mp (by kernel_rfl) h)
def qub.j4 (d_0:Sl) (t8:OAd) (Q:VWP) (w:World):Prop :=
 Calls Try.prog 48 ⟨[.slice d_0.a d_0.len d_0.cap]⟩ w fun e1 w2 =>
 ∃ r3:Sl,∃ r4:Int,e1=.returned (.tuple ⟨[.slice r3.a r3.len r3.cap,.int .i64 r4]⟩) ∧
 nz t8 fun a5 =>
 st w2 (Addr.add a5 1) (.slice r3.a r3.len r3.cap) fun w6 =>
 Q (.tuple ⟨[.pointer t8,.int .i64 0]⟩) w6
def qub.j3 (d_0:Sl) (i_1:Bool) (t6:Bool) (t8:OAd) (Q:VWP) (w:World):Prop :=
 br (!t6) (
 br i_1 (
 nz t8 fun a7 =>
 ldL w (Addr.add a7 18) fun x8 =>
 br ((((x8.len:Nat):Int):Int) == 0) (
 br (!true) (
 Q (.tuple ⟨[.pointer none,.int .i64 2]⟩) w) (
 qub.j4 d_0 t8 Q w)) (
 nz t8 fun a9 =>
 ldL w (Addr.add a9 18) fun x10 =>
 br ((((x10.len:Nat):Int):Int) == 1) (
 nz t8 fun a11 =>
 ixA (Addr.add a11 2) 16 1 1 fun a12 =>
 ldI .i64 w a12 fun x13 =>
 br (!((x13:Int) == 1)) (
 Q (.tuple ⟨[.pointer none,.int .i64 2]⟩) w) (
 qub.j4 d_0 t8 Q w)) (
 br (!false) (
 Q (.tuple ⟨[.pointer none,.int .i64 2]⟩) w) (
 qub.j4 d_0 t8 Q w)))) (
 br (!false) (
 Q (.tuple ⟨[.pointer none,.int .i64 2]⟩) w) (
 qub.j4 d_0 t8 Q w))) (
 qub.j4 d_0 t8 Q w)
def qub.j7 (d_0:Sl) (i_1:Bool) (t6:Bool) (t8:OAd) (t9:Int) (Q:VWP) (nx1:Sl→Bool→Bool→OAd→Int→World→Prop) (w:World):Prop :=
 lt (IntKind.i64.wrap (t9+1)) fun x14 =>
 nx1 d_0 i_1 t6 t8 x14 w
def qub.b2 (d_0:Sl) (i_1:Bool) (t6:Bool) (t8:OAd) (t9:Int) (t31:Sl) (t32 t33:Int) (Q:VWP) (nx1:Sl→Bool→Bool→OAd→Int→World→Prop) (nx2:Sl→Bool→Bool→OAd→Int→Sl→Int→Int→World→Prop) (w:World):Prop :=
 br (decide ((t33:Int) < t32)) (
 ixS t31.a t31.len t33 1 fun a15 =>
 ldI .i64 w a15 fun x16 =>
 br ((x16:Int) == t9) (
 nz t8 fun a17 =>
 ldL w (Addr.add a17 18) fun x18 =>
 lt (⟨World.heapSize w,0,none⟩:Addr) fun a19 =>
 lt (World.alloc w (.cells ⟨[.int .i64 t33]⟩ 3)) fun w20 =>
 rdO w20 (some a19) (1 * 1) fun c21 =>
 apK Try.prog 3 w20 x18.a x18.len x18.cap 1 c21 fun s22 w23 =>
 nz t8 fun a24 =>
 st w23 (Addr.add a24 18) (.slice s22.a s22.len s22.cap) fun w25 =>
 lt (IntKind.i64.wrap (t33+1)) fun x26 =>
 nx2 d_0 i_1 t6 t8 t9 t31 t32 x26 w25) (
 lt (IntKind.i64.wrap (t33+1)) fun x27 =>
 nx2 d_0 i_1 t6 t8 t9 t31 t32 x27 w)) (
 qub.j7 d_0 i_1 t6 t8 t9 Q nx1 w)
def qub.l2 (d_0:Sl) (i_1:Bool) (t6:Bool) (t8:OAd) (t9:Int) (t31:Sl) (t32 t33:Int) (Q:VWP) (nx1:Sl→Bool→Bool→OAd→Int→World→Prop) (w:World):Prop :=
 ∃ (I:Int→World→Prop) (μ:Int→World→Nat),I t33 w∧∀ t33:Int,∀ w:World,I t33 w→qub.b2 d_0 i_1 t6 t8 t9 t31 t32 t33 Q nx1 (fun d_0' i_1' t6' t8' t9' t31' t32' t33' w'=>(d_0'=d_0∧i_1'=i_1∧t6'=t6∧t8'=t8∧t9'=t9∧t31'=t31∧t32'=t32)∧I t33' w'∧μ t33' w' < μ t33 w) w
def qub.j8 (d_0:Sl) (i_1:Bool) (t6:Bool) (t8:OAd) (t9:Int) (t31:Sl) (t32 t33:Int) (Q:VWP) (nx1:Sl→Bool→Bool→OAd→Int→World→Prop) (w:World):Prop :=
 qub.l2 d_0 i_1 t6 t8 t9 t31 t32 t33 Q nx1 w
def qub.j6 (d_0:Sl) (i_1:Bool) (t6:Bool) (t8:OAd) (t9:Int) (Q:VWP) (nx1:Sl→Bool→Bool→OAd→Int→World→Prop) (w:World):Prop :=
 qub.j8 d_0 i_1 t6 t8 t9 d_0 ((d_0.len:Nat):Int) 0 Q nx1 w
def qub.b1 (d_0:Sl) (i_1:Bool) (t6:Bool) (t8:OAd) (t9:Int) (Q:VWP) (nx1:Sl→Bool→Bool→OAd→Int→World→Prop) (w:World):Prop :=
 br (decide ((t9:Int)≤15)) (
 qub.j6 d_0 i_1 t6 t8 t9 Q nx1 w) (
 qub.j3 d_0 i_1 t6 t8 Q w)
def qub.l1 (d_0:Sl) (i_1:Bool) (t6:Bool) (t8:OAd) (t9:Int) (Q:VWP) (w:World):Prop :=
 ∃ (I:Int→World→Prop) (μ:Int→World→Nat),I t9 w∧∀ t9:Int,∀ w:World,I t9 w→qub.b1 d_0 i_1 t6 t8 t9 Q (fun d_0' i_1' t6' t8' t9' w'=>(d_0'=d_0∧i_1'=i_1∧t6'=t6∧t8'=t8)∧I t9' w'∧μ t9' w' < μ t9 w) w
def qub.j5 (d_0:Sl) (i_1:Bool) (t6:Bool) (t8:OAd) (t9:Int) (Q:VWP) (w:World):Prop :=
 qub.l1 d_0 i_1 t6 t8 t9 Q w
def qub.j2 (d_0:Sl) (i_1:Bool) (t6:Bool) (t8:OAd) (Q:VWP) (w:World):Prop :=
 qub.j5 d_0 i_1 t6 t8 1 Q w
def qub.j1 (d_0:Sl) (i_1:Bool) (t6:Bool) (t7:Int) (Q:VWP) (w:World):Prop :=
 br ((t7:Int) != 0) (
 Q (.tuple ⟨[.pointer none,.int .i64 t7]⟩) w) (
 lt (⟨World.heapSize w,0,none⟩:Addr) fun a28 =>
 lt (World.alloc w (.cells ⟨[]⟩ 3)) fun w29 =>
 rdO w29 d_0.a (d_0.len * 1) fun c30 =>
 apK Try.prog 3 w29 (some a28) 0 0 d_0.len c30 fun s31 w32 =>
 Calls Try.prog 47 ⟨[.slice d_0.a d_0.len d_0.cap]⟩ w32 fun e33 w34 =>
 ∃ r35:(Array Value),e33=.returned (.agg r35) ∧
 (r35).size=16 ∧
 lt (⟨World.heapSize w34,0,none⟩:Addr) fun a36 =>
 lt (World.alloc w34 (.cells (⟨(spl [.slice s31.a s31.len s31.cap,.slice none 0 0,.int .i64 0,.int .i64 0,.int .i64 0,.int .i64 0,.int .i64 0,.int .i64 0,.int .i64 0,.int .i64 0,.int .i64 0,.int .i64 0,.int .i64 0,.int .i64 0,.int .i64 0,.int .i64 0,.int .i64 0,.int .i64 0,.slice none 0 0] 2 r35)⟩:Array Value) 89)) fun w37 =>
 qub.j2 d_0 i_1 t6 (some a36) Q w37)
def qub (d_0:Sl) (i_1:Bool) (Q:VWP) (w:World):Prop :=
 Calls Try.prog 13 ⟨[.slice d_0.a d_0.len d_0.cap]⟩ w fun e38 w39 =>
 ∃ r40:Bool,∃ r41:Int,e38=.returned (.tuple ⟨[.bool r40,.int .i64 r41]⟩) ∧
 qub.j1 d_0 i_1 r40 r41 Q w39
theorem qub.ok (d_0:Sl) (i_1:Bool) (Q:VWP) (w:World) (h:qub d_0 i_1 Q w):Calls Try.prog 16 ⟨[.slice d_0.a d_0.len d_0.cap,.bool i_1]⟩ w (Ret Q):=by
 refine qn [.tmp 4,.tmp 5] Try.func16 rfl rfl rfl rfl ?_
 refine qib qpb (fun ρ w=>asL (ρ 0) fun d_0=>asB (ρ 1) fun i_1=>asB (ρ 6) fun t6=>asI .i64 (ρ 7) fun t7=>qub.j1 d_0 i_1 t6 t7 Q w) (Eq.mp (by kernel_rfl) h) ?_
 intro ρ w h
 obtain ⟨d_0,e0,h⟩:=qj h
 obtain ⟨i_1,e1,h⟩:=qgd h
 obtain ⟨t6,e6,h⟩:=qgd h
 obtain ⟨t7,e7,h⟩:=qe h
 refine qb e0 (qb (qa e1 rfl) (qb (qa (qa e6 rfl) rfl) (qb (qa (qa (qa e7 rfl) rfl) rfl) ?_)))
 refine qib qpb (fun ρ w=>asL (ρ 0) fun d_0=>asB (ρ 1) fun i_1=>asB (ρ 6) fun t6=>asP (ρ 8) fun t8=>qub.j2 d_0 i_1 t6 t8 Q w) (Eq.mp (by kernel_rfl) h) ?_
 intro ρ w h
 obtain ⟨d_0,e0,h⟩:=qj h
 obtain ⟨i_1,e1,h⟩:=qgd h
 obtain ⟨t6,e6,h⟩:=qgd h
 obtain ⟨t8,e8,h⟩:=qw h
 refine qb e0 (qb (qa e1 rfl) (qb (qa (qa e6 rfl) rfl) (qb (qa (qa (qa e8 rfl) rfl) rfl) ?_)))
 refine qr (fun ρ w=>asL (ρ 0) fun d_0=>asB (ρ 1) fun i_1=>asB (ρ 6) fun t6=>asP (ρ 8) fun t8=>qub.j3 d_0 i_1 t6 t8 Q w) ?_ ?_
 · skip
   refine qr (fun ρ w=>asL (ρ 0) fun d_0=>asB (ρ 1) fun i_1=>asB (ρ 6) fun t6=>asP (ρ 8) fun t8=>asI .i64 (ρ 9) fun t9=>qub.j5 d_0 i_1 t6 t8 t9 Q w) ?_ ?_
   · skip
     exact qg qpb _ (Eq.mp (by kernel_rfl) h)
   · intro ρ w h
     obtain ⟨d_0,e0,h⟩:=qj h
     obtain ⟨i_1,e1,h⟩:=qgd h
     obtain ⟨t6,e6,h⟩:=qgd h
     obtain ⟨t8,e8,h⟩:=qw h
     obtain ⟨t9,e9,h⟩:=qe h
     refine qb e0 (qb (qa e1 rfl) (qb (qa (qa e6 rfl) rfl) (qb (qa (qa (qa e8 rfl) rfl) rfl) (qb (qa (qa (qa (qa e9 rfl) rfl) rfl) rfl) ?_))))
     refine qcb ?_
     obtain ⟨I,μ,hI,hr⟩:=h
     refine qhb (α:=Int) (fun s ρ=>ρ 9=.int .i64 s∧ρ 0=.slice d_0.a d_0.len d_0.cap∧ρ 1=.bool i_1∧ρ 6=.bool t6∧ρ 8=.pointer t8) (fun s w=>I s w) (fun s w=>μ s w) t9 ⟨rfl,rfl,rfl,rfl,rfl⟩ hI ?_
     rintro t9 ρ w ⟨e9,e0,e1,e6,e8⟩ hI
     have h:=hr t9 w hI
     clear hr
     obtain ⟨nx1,hnx⟩:∃ nx:Sl→Bool→Bool→OAd→Int→World→Prop,nx=(fun d_0' i_1' t6' t8' t9' w'=>(d_0'=d_0∧i_1'=i_1∧t6'=t6∧t8'=t8)∧I t9' w'∧μ t9' w' < μ t9 w):=⟨_,rfl⟩
     rw [← hnx] at h
     refine qob (M:=fun ρ w=>asL (ρ 0) fun d_0=>asB (ρ 1) fun i_1=>asB (ρ 6) fun t6=>asP (ρ 8) fun t8=>asI .i64 (ρ 9) fun t9=>nx1 d_0 i_1 t6 t8 t9 w) ?_ (fun ρ w h=>?_)
     · skip
       refine qb e0 (qb (qa e1 rfl) (qb (qa (qa e6 rfl) rfl) (qb (qa (qa (qa e8 rfl) rfl) rfl) (qb (qa (qa (qa (qa e9 rfl) rfl) rfl) rfl) ?_))))
       refine qr (fun ρ w=>asL (ρ 0) fun d_0=>asB (ρ 1) fun i_1=>asB (ρ 6) fun t6=>asP (ρ 8) fun t8=>asI .i64 (ρ 9) fun t9=>qub.j6 d_0 i_1 t6 t8 t9 Q nx1 w) ?_ ?_
       · skip
         exact qg qpb _ (Eq.mp (by kernel_rfl) h)
       · intro ρ w h
         obtain ⟨d_0,e0,h⟩:=qj h
         obtain ⟨i_1,e1,h⟩:=qgd h
         obtain ⟨t6,e6,h⟩:=qgd h
         obtain ⟨t8,e8,h⟩:=qw h
         obtain ⟨t9,e9,h⟩:=qe h
         refine qb e0 (qb (qa e1 rfl) (qb (qa (qa e6 rfl) rfl) (qb (qa (qa (qa e8 rfl) rfl) rfl) (qb (qa (qa (qa (qa e9 rfl) rfl) rfl) rfl) ?_))))
         refine qr (fun ρ w=>asL (ρ 0) fun d_0=>asB (ρ 1) fun i_1=>asB (ρ 6) fun t6=>asP (ρ 8) fun t8=>asI .i64 (ρ 9) fun t9=>qub.j7 d_0 i_1 t6 t8 t9 Q nx1 w) ?_ ?_
         · skip
           refine qcb ?_
           refine qr (fun ρ w=>asL (ρ 0) fun d_0=>asB (ρ 1) fun i_1=>asB (ρ 6) fun t6=>asP (ρ 8) fun t8=>asI .i64 (ρ 9) fun t9=>asL (ρ 31) fun t31=>asI .i64 (ρ 32) fun t32=>asI .i64 (ρ 33) fun t33=>qub.j8 d_0 i_1 t6 t8 t9 t31 t32 t33 Q nx1 w) ?_ ?_
           · skip
             exact qg qpb _ (Eq.mp (by kernel_rfl) h)
           · intro ρ w h
             obtain ⟨d_0,e0,h⟩:=qj h
             obtain ⟨i_1,e1,h⟩:=qgd h
             obtain ⟨t6,e6,h⟩:=qgd h
             obtain ⟨t8,e8,h⟩:=qw h
             obtain ⟨t9,e9,h⟩:=qe h
             obtain ⟨t31,e31,h⟩:=qj h
             obtain ⟨t32,e32,h⟩:=qe h
             obtain ⟨t33,e33,h⟩:=qe h
             refine qb e0 (qb (qa e1 rfl) (qb (qa (qa e6 rfl) rfl) (qb (qa (qa (qa e8 rfl) rfl) rfl) (qb (qa (qa (qa (qa e9 rfl) rfl) rfl) rfl) (qb (qa (qa (qa (qa (qa e31 rfl) rfl) rfl) rfl) rfl) (qb (qa (qa (qa (qa (qa (qa e32 rfl) rfl) rfl) rfl) rfl) rfl) (qb (qa (qa (qa (qa (qa (qa (qa e33 rfl) rfl) rfl) rfl) rfl) rfl) rfl) ?_)))))))
             refine qcb ?_
             obtain ⟨I,μ,hI,hr⟩:=h
             refine qhb (α:=Int) (fun s ρ=>ρ 33=.int .i64 s∧ρ 0=.slice d_0.a d_0.len d_0.cap∧ρ 1=.bool i_1∧ρ 6=.bool t6∧ρ 8=.pointer t8∧ρ 9=.int .i64 t9∧ρ 31=.slice t31.a t31.len t31.cap∧ρ 32=.int .i64 t32) (fun s w=>I s w) (fun s w=>μ s w) t33 ⟨rfl,rfl,rfl,rfl,rfl,rfl,rfl,rfl⟩ hI ?_
             rintro t33 ρ w ⟨e33,e0,e1,e6,e8,e9,e31,e32⟩ hI
             have h:=hr t33 w hI
             clear hr
             obtain ⟨nx2,hnx⟩:∃ nx:Sl→Bool→Bool→OAd→Int→Sl→Int→Int→World→Prop,nx=(fun d_0' i_1' t6' t8' t9' t31' t32' t33' w'=>(d_0'=d_0∧i_1'=i_1∧t6'=t6∧t8'=t8∧t9'=t9∧t31'=t31∧t32'=t32)∧I t33' w'∧μ t33' w' < μ t33 w):=⟨_,rfl⟩
             rw [← hnx] at h
             refine qob (M:=fun ρ w=>asL (ρ 0) fun d_0=>asB (ρ 1) fun i_1=>asB (ρ 6) fun t6=>asP (ρ 8) fun t8=>asI .i64 (ρ 9) fun t9=>asL (ρ 31) fun t31=>asI .i64 (ρ 32) fun t32=>asI .i64 (ρ 33) fun t33=>nx2 d_0 i_1 t6 t8 t9 t31 t32 t33 w) ?_ (fun ρ w h=>?_)
             · skip
               refine qb e0 (qb (qa e1 rfl) (qb (qa (qa e6 rfl) rfl) (qb (qa (qa (qa e8 rfl) rfl) rfl) (qb (qa (qa (qa (qa e9 rfl) rfl) rfl) rfl) (qb (qa (qa (qa (qa (qa e31 rfl) rfl) rfl) rfl) rfl) (qb (qa (qa (qa (qa (qa (qa e32 rfl) rfl) rfl) rfl) rfl) rfl) (qb (qa (qa (qa (qa (qa (qa (qa e33 rfl) rfl) rfl) rfl) rfl) rfl) rfl) ?_)))))))
               exact qg qpb _ (Eq.mp (by kernel_rfl) h)
             · skip
               obtain ⟨d_0',e0',h⟩:=qj h
               obtain ⟨i_1',e1',h⟩:=qgd h
               obtain ⟨t6',e6',h⟩:=qgd h
               obtain ⟨t8',e8',h⟩:=qw h
               obtain ⟨t9',e9',h⟩:=qe h
               obtain ⟨t31',e31',h⟩:=qj h
               obtain ⟨t32',e32',h⟩:=qe h
               obtain ⟨t33',e33',h⟩:=qe h
               rw [hnx] at h
               obtain ⟨hu,hI2,hμ⟩:=h
               obtain ⟨rfl,rfl,rfl,rfl,rfl,rfl,rfl⟩:=hu
               exact ⟨t33',⟨e33',e0',e1',e6',e8',e9',e31',e32'⟩,hI2,hμ⟩
         · intro ρ w h
           obtain ⟨d_0,e0,h⟩:=qj h
           obtain ⟨i_1,e1,h⟩:=qgd h
           obtain ⟨t6,e6,h⟩:=qgd h
           obtain ⟨t8,e8,h⟩:=qw h
           obtain ⟨t9,e9,h⟩:=qe h
           refine qb e0 (qb (qa e1 rfl) (qb (qa (qa e6 rfl) rfl) (qb (qa (qa (qa e8 rfl) rfl) rfl) (qb (qa (qa (qa (qa e9 rfl) rfl) rfl) rfl) ?_))))
           exact qg qpb _ (Eq.mp (by kernel_rfl) h)
     · skip
       obtain ⟨d_0',e0',h⟩:=qj h
       obtain ⟨i_1',e1',h⟩:=qgd h
       obtain ⟨t6',e6',h⟩:=qgd h
       obtain ⟨t8',e8',h⟩:=qw h
       obtain ⟨t9',e9',h⟩:=qe h
       rw [hnx] at h
       obtain ⟨hu,hI2,hμ⟩:=h
       obtain ⟨rfl,rfl,rfl,rfl⟩:=hu
       exact ⟨t9',⟨e9',e0',e1',e6',e8'⟩,hI2,hμ⟩
 · intro ρ w h
   obtain ⟨d_0,e0,h⟩:=qj h
   obtain ⟨i_1,e1,h⟩:=qgd h
   obtain ⟨t6,e6,h⟩:=qgd h
   obtain ⟨t8,e8,h⟩:=qw h
   refine qb e0 (qb (qa e1 rfl) (qb (qa (qa e6 rfl) rfl) (qb (qa (qa (qa e8 rfl) rfl) rfl) ?_)))
   refine qr (fun ρ w=>asL (ρ 0) fun d_0=>asP (ρ 8) fun t8=>qub.j4 d_0 t8 Q w) ?_ ?_
   · skip
     exact qg qpb _ (Eq.mp (by kernel_rfl) h)
   · intro ρ w h
     obtain ⟨d_0,e0,h⟩:=qj h
     obtain ⟨t8,e8,h⟩:=qw h
     refine qb e0 (qb (qa e8 rfl) ?_)
     exact qg qpb _ (Eq.mp (by kernel_rfl) h)
def qje (c_0:OAd) (Q:VWP) (w:World):Prop :=
 nz c_0 fun a1 =>
 ldL w (Addr.add a1 18) fun x2 =>
 br ((((x2.len:Nat):Int):Int) == 0) (
 Q (.int .i64 1) w) (
 lt (World.drew w) fun w3 =>
 nz c_0 fun a4 =>
 ldL w3 (Addr.add a4 0) fun x5 =>
 nz c_0 fun a6 =>
 ldL w3 (Addr.add a6 18) fun x7 =>
 nz c_0 fun a8 =>
 ldL w3 (Addr.add a8 18) fun x9 =>
 lt (IntKind.i64.wrap (((x9.len:Nat):Int) - 1)) fun x10 =>
 ixS x7.a x7.len x10 1 fun a11 =>
 ldI .i64 w3 a11 fun x12 =>
 ixS x5.a x5.len x12 1 fun a13 =>
 ldI .i64 w3 a13 fun x14 =>
 Q (.int .i64 x14) w3)
theorem qje.ok (c_0:OAd) (Q:VWP) (w:World) (h:qje c_0 Q w):Calls Try.prog 53 ⟨[.pointer c_0]⟩ w (Ret Q):=by
 refine qn [.tmp 2] Try.func53 rfl rfl rfl rfl ?_
 exact qg qpb _ (Eq.mp (by kernel_rfl) h)
def qtb.j3  (Q:VWP) (w:World):Prop :=
 Q (.tuple ⟨[.int .i64 0,.int .i64 2]⟩) w
def qtb.b1 (d_0 t9:OAd) (t6:Int) (t7 t8 t10:Int) (Q:VWP) (nx1:OAd→OAd→Int→Int→Int→Int→World→Prop) (w:World):Prop :=
 Calls Try.prog 53 ⟨[.pointer d_0]⟩ w fun e1 w2 =>
 ∃ r3:Int,e1=.returned (.int .i64 r3) ∧
 br (decide ((t10:Int)≤r3)) (
 Calls Try.prog 52 ⟨[.pointer t9,.int .i64 1]⟩ w2 fun e4 w5 =>
 ∃ r6:Int,∃ r7:Bool,e4=.returned (.tuple ⟨[.int .i64 r6,.bool r7]⟩) ∧
 br (!r7) (
 Q (.tuple ⟨[.int .i64 0,.int .i64 3]⟩) w5) (
 (0:Int)≤1 ∧
 lt (qej .i64 t6 1) fun x8 =>
 lt (orV .i64 x8 r6) fun x9 =>
 (0:Int)≤1 ∧
 lt (qej .i64 t7 1) fun x10 =>
 lt (IntKind.i64.wrap (x9 - x10)) fun x11 =>
 nz d_0 fun a12 =>
 ixA (Addr.add a12 2) 16 t10 1 fun a13 =>
 ldI .i64 w5 a13 fun x14 =>
 br (decide ((x11:Int) < x14)) (
 nz d_0 fun a15 =>
 ldL w5 (Addr.add a15 18) fun x16 =>
 lt (IntKind.i64.wrap (t8+x11)) fun x17 =>
 ixS x16.a x16.len x17 1 fun a18 =>
 ldI .i64 w5 a18 fun x19 =>
 Q (.tuple ⟨[.int .i64 x19,.int .i64 0]⟩) w5) (
 nz d_0 fun a20 =>
 ixA (Addr.add a20 2) 16 t10 1 fun a21 =>
 ldI .i64 w5 a21 fun x22 =>
 lt (IntKind.i64.wrap (t8+x22)) fun x23 =>
 nz d_0 fun a24 =>
 ixA (Addr.add a24 2) 16 t10 1 fun a25 =>
 ldI .i64 w5 a25 fun x26 =>
 lt (IntKind.i64.wrap (x10+x26)) fun x27 =>
 lt (IntKind.i64.wrap (t10+1)) fun x28 =>
 nx1 d_0 t9 x9 x27 x23 x28 w5))) (
 qtb.j3 Q w2)
def qtb.l1 (d_0 t9:OAd) (t6:Int) (t7 t8 t10:Int) (Q:VWP) (w:World):Prop :=
 ∃ (I:Int→Int→Int→Int→World→Prop) (μ:Int→Int→Int→Int→World→Nat),I t6 t7 t8 t10 w∧∀ t6:Int,∀ t7:Int,∀ t8:Int,∀ t10:Int,∀ w:World,I t6 t7 t8 t10 w→qtb.b1 d_0 t9 t6 t7 t8 t10 Q (fun d_0' t9' t6' t7' t8' t10' w'=>(d_0'=d_0∧t9'=t9)∧I t6' t7' t8' t10' w'∧μ t6' t7' t8' t10' w' < μ t6 t7 t8 t10 w) w
def qtb.j4 (d_0:OAd) (t6:Int) (t7 t8:Int) (t9:OAd) (t10:Int) (Q:VWP) (w:World):Prop :=
 qtb.l1 d_0 t9 t6 t7 t8 t10 Q w
def qtb.j2 (d_0:OAd) (t6:Int) (t7 t8:Int) (t9:OAd) (Q:VWP) (w:World):Prop :=
 qtb.j4 d_0 t6 t7 t8 t9 1 Q w
def qtb.j1 (d_0 i_1:OAd) (Q:VWP) (w:World):Prop :=
 qtb.j2 d_0 0 0 0 i_1 Q w
def qtb (d_0 i_1:OAd) (Q:VWP) (w:World):Prop :=
 qtb.j1 d_0 i_1 Q w
theorem qtb.ok (d_0:OAd) (i_1:OAd) (Q:VWP) (w:World) (h:qtb d_0 i_1 Q w):Calls Try.prog 23 ⟨[.pointer d_0,.pointer i_1]⟩ w (Ret Q):=by
 refine qn [.tmp 4,.tmp 5] Try.func23 rfl rfl rfl rfl ?_
 refine qr (fun ρ w=>asP (ρ 0) fun d_0=>asP (ρ 1) fun i_1=>qtb.j1 d_0 i_1 Q w) ?_ ?_
 · skip
   exact qg qpb _ (Eq.mp (by kernel_rfl) h)
 · intro ρ w h
   obtain ⟨d_0,e0,h⟩:=qw h
   obtain ⟨i_1,e1,h⟩:=qw h
   refine qb e0 (qb (qa e1 rfl) ?_)
   refine qib qpb (fun ρ w=>asP (ρ 0) fun d_0=>asI .i64 (ρ 6) fun t6=>asI .i64 (ρ 7) fun t7=>asI .i64 (ρ 8) fun t8=>asC1 52 (ρ 9) fun t9=>qtb.j2 d_0 t6 t7 t8 t9 Q w) (Eq.mp (by kernel_rfl) h) ?_
   intro ρ w h
   obtain ⟨d_0,e0,h⟩:=qw h
   obtain ⟨t6,e6,h⟩:=qe h
   obtain ⟨t7,e7,h⟩:=qe h
   obtain ⟨t8,e8,h⟩:=qe h
   obtain ⟨t9,e9,h⟩:=qpo h
   refine qb e0 (qb (qa e6 rfl) (qb (qa (qa e7 rfl) rfl) (qb (qa (qa (qa e8 rfl) rfl) rfl) (qb (qa (qa (qa (qa e9 rfl) rfl) rfl) rfl) ?_))))
   refine qr (fun ρ w=> qtb.j3  Q w) ?_ ?_
   · skip
     refine qr (fun ρ w=>asP (ρ 0) fun d_0=>asI .i64 (ρ 6) fun t6=>asI .i64 (ρ 7) fun t7=>asI .i64 (ρ 8) fun t8=>asC1 52 (ρ 9) fun t9=>asI .i64 (ρ 10) fun t10=>qtb.j4 d_0 t6 t7 t8 t9 t10 Q w) ?_ ?_
     · skip
       exact qg qpb _ (Eq.mp (by kernel_rfl) h)
     · intro ρ w h
       obtain ⟨d_0,e0,h⟩:=qw h
       obtain ⟨t6,e6,h⟩:=qe h
       obtain ⟨t7,e7,h⟩:=qe h
       obtain ⟨t8,e8,h⟩:=qe h
       obtain ⟨t9,e9,h⟩:=qpo h
       obtain ⟨t10,e10,h⟩:=qe h
       refine qb e0 (qb (qa e6 rfl) (qb (qa (qa e7 rfl) rfl) (qb (qa (qa (qa e8 rfl) rfl) rfl) (qb (qa (qa (qa (qa e9 rfl) rfl) rfl) rfl) (qb (qa (qa (qa (qa (qa e10 rfl) rfl) rfl) rfl) rfl) ?_)))))
       refine qcb ?_
       obtain ⟨I,μ,hI,hr⟩:=h
       refine qhb (α:=Int × Int × Int × Int) (fun s ρ=>ρ 6=.int .i64 s.1∧ρ 7=.int .i64 s.2.1∧ρ 8=.int .i64 s.2.2.1∧ρ 10=.int .i64 s.2.2.2∧ρ 0=.pointer d_0∧ρ 9=.func (.func 52) ⟨[.pointer t9]⟩ ⟨[]⟩) (fun s w=>I s.1 s.2.1 s.2.2.1 s.2.2.2 w) (fun s w=>μ s.1 s.2.1 s.2.2.1 s.2.2.2 w) (t6,t7,t8,t10) ⟨rfl,rfl,rfl,rfl,rfl,rfl⟩ hI ?_
       rintro ⟨t6,t7,t8,t10⟩ ρ w ⟨e6,e7,e8,e10,e0,e9⟩ hI
       have h:=hr t6 t7 t8 t10 w hI
       clear hr
       obtain ⟨nx1,hnx⟩:∃ nx:OAd→OAd→Int→Int→Int→Int→World→Prop,nx=(fun d_0' t9' t6' t7' t8' t10' w'=>(d_0'=d_0∧t9'=t9)∧I t6' t7' t8' t10' w'∧μ t6' t7' t8' t10' w' < μ t6 t7 t8 t10 w):=⟨_,rfl⟩
       rw [← hnx] at h
       refine qob (M:=fun ρ w=>asP (ρ 0) fun d_0=>asC1 52 (ρ 9) fun t9=>asI .i64 (ρ 6) fun t6=>asI .i64 (ρ 7) fun t7=>asI .i64 (ρ 8) fun t8=>asI .i64 (ρ 10) fun t10=>nx1 d_0 t9 t6 t7 t8 t10 w) ?_ (fun ρ w h=>?_)
       · skip
         refine qb e0 (qb (qa e6 rfl) (qb (qa (qa e7 rfl) rfl) (qb (qa (qa (qa e8 rfl) rfl) rfl) (qb (qa (qa (qa (qa e9 rfl) rfl) rfl) rfl) (qb (qa (qa (qa (qa (qa e10 rfl) rfl) rfl) rfl) rfl) ?_)))))
         exact qg qpb _ (Eq.mp (by kernel_rfl) h)
       · skip
         obtain ⟨d_0',e0',h⟩:=qw h
         obtain ⟨t9',e9',h⟩:=qpo h
         obtain ⟨t6',e6',h⟩:=qe h
         obtain ⟨t7',e7',h⟩:=qe h
         obtain ⟨t8',e8',h⟩:=qe h
         obtain ⟨t10',e10',h⟩:=qe h
         rw [hnx] at h
         obtain ⟨hu,hI2,hμ⟩:=h
         obtain ⟨rfl,rfl⟩:=hu
         exact ⟨(t6',t7',t8',t10'),⟨e6',e7',e8',e10',e0',e9'⟩,hI2,hμ⟩
   · intro ρ w h
     exact qg qpb _ (Eq.mp (by kernel_rfl) h)
def qfe (c_0 w_1:OAd) (sym_2:Int) (Q:VWP) (w:World):Prop :=
 br (decide ((sym_2:Int) < 0)) (
 Q (.bool false) w) (
 nz c_0 fun a1 =>
 ldL w (Addr.add a1 0) fun x2 =>
 br (decide ((sym_2:Int) ≥ ((x2.len:Nat):Int))) (
 Q (.bool false) w) (
 nz c_0 fun a3 =>
 ldL w (Addr.add a3 0) fun x4 =>
 ixS x4.a x4.len sym_2 1 fun a5 =>
 ldI .i64 w a5 fun x6 =>
 br ((x6:Int) == 0) (
 Q (.bool false) w) (
 lt (World.drew w) fun w7 =>
 nz c_0 fun a8 =>
 ldL w7 (Addr.add a8 1) fun x9 =>
 ixS x9.a x9.len sym_2 1 fun a10 =>
 ldI .i64 w7 a10 fun x11 =>
 nz c_0 fun a12 =>
 ldL w7 (Addr.add a12 0) fun x13 =>
 ixS x13.a x13.len sym_2 1 fun a14 =>
 ldI .i64 w7 a14 fun x15 =>
 Calls Try.prog 49 ⟨[.pointer w_1,.int .i64 x11,.int .i64 x15]⟩ w7 fun e16 w17 =>
 e16=.returned (.tuple ⟨[]⟩) ∧
 Q (.bool true) w17)))
theorem qfe.ok (c_0:OAd) (w_1:OAd) (sym_2:Int) (Q:VWP) (w:World) (h:qfe c_0 w_1 sym_2 Q w):Calls Try.prog 19 ⟨[.pointer c_0,.pointer w_1,.int .i64 sym_2]⟩ w (Ret Q):=by
 refine qn [.tmp 6] Try.func19 rfl rfl rfl rfl ?_
 exact qg qpb _ (Eq.mp (by kernel_rfl) h)
end Go.Proofs.Ythdmmmfgjmmelaa
namespace Go.Proofs.Ythdmmmfgjmmelaa
open Go Go.Proofs
set_option linter.unusedVariables false
set_option linter.unusedSimpArgs false
attribute [local irreducible] apK cpK mkK
theorem zc_a16:zc Try.prog 86=⟨ivs .i64 (List.replicate 16 0)⟩:=by kernel_rfl
theorem ptI_i {k:IntKind} {zs:List Int} {j:Nat} {K:Int→Prop} (hj:j < zs.length) (hk:K (zs.getD j 0)):ptI k ⟨ivs k zs⟩ j K:=⟨zs.getD j 0,by
 have:(⟨ivs k zs⟩:Array Value)[j]?=(ivs k zs)[j]?:=by simp
 rw [this]; exact qul hj,hk⟩
theorem shl1 {x:Int} (h:0≤x∧x < 1000000000000):qej .i64 x 1=2 * x:=by
 have h:=qoi .i64 (x:=x) (t:=1) (by decide) h.1 (by rw [show (2:Int) ^ (IntKind.i64.bits - 1)=9223372036854775808 by decide]; omega)
 rw [show (2:Int) ^ 1=2 by decide,Int.mul_comm] at h
 exact h
theorem shl_room {c n:Nat} (hc:c≤100000) (hn:n≤15):qej .i64 (c:Int) (n:Int)=((c * 2 ^ n:Nat):Int):=by
 have hp:(2:Nat) ^ n≤32768:=Nat.le_trans (Nat.pow_le_pow_right (by decide) hn) (by decide)
 have hp2:c * 2 ^ n≤100000 * 32768:=Nat.mul_le_mul hc hp
 rw [qoi .i64 (t:=n) (show n≤64 by omega) (by omega) (by
  rw [show (2:Int) ^ (IntKind.i64.bits - 1)=9223372036854775808 by decide]
  have:(c:Int) * 2 ^ n=((c * 2 ^ n:Nat):Int):=by simp
  rw [this]; omega)]
 simp
section
variable {F0:List Nat} {w0 w:World} {ps rest:List As} {ls:List Int}
theorem qjc.c {s:Sl} {K:Ending→World→Prop} (h:St F0 w0 w ps) [Rdb F0 w0 s ps 1 (ivs .i64 ls)] (ho:okL ls) (hL:ls.length≤1000000)
 (hk:∀ w',St F0 w0 w' ps→K (.returned (.agg ⟨ivs .i64 (clL ls)⟩)) w'):Calls Try.prog 47 ⟨[.slice s.a s.len s.cap]⟩ w K:=by
 have hl:=(h.rdb s).1
 rw [qx] at hl
 refine qoc (qjc.ok _ _ _ ?_)
 unfold qjc
 refine h.new fun n1 w h=>?_
 refine h.new fun n2 w h=>?_
 rw [zc_a16] at h
 have h:St F0 w0 w (qxc n2 (ivs .i64 (List.replicate 16 0)) :: qxc n1 (ivs .i64 (List.replicate 16 0)) :: ps):=h
 unfold qjc.j1 qjc.j3
 refine qsf (fun (i:Nat) (i':Int) w'=>i'=i∧i≤ls.length∧St F0 w0 w' (qxc n2 (ivs .i64 (clL (ls.take i))) :: qxc n1 (ivs .i64 (List.replicate 16 0)) :: ps)) (fun i=>ls.length - i) 0 ⟨rfl,by omega,by rw [List.take_zero,clL_nil]; exact h⟩ ?_
 clear h
 rintro i i' w I μ ⟨rfl,hi,h⟩ hin
 unfold qjc.b1
 refine qzc (fun g=>?_) (fun g=>?_)
 · have hil:i < ls.length:=by omega
   have hx:=ho _ (qrf hil)
   have htk:=qsk hil
   have hcl:=hc_le (ls.take i) (ls.getD i 0).toNat
   rw [List.length_take] at hcl
   refine h.lx i rfl hil ?_
   generalize ls.getD i 0=x at hx htk hcl
   refine qzc (fun g2=>?_) (fun g2=>?_)
   · refine h.la x.toNat (by omega) (qae _) (by omega) ?_
     rw [qwm _ (by omega)]
     refine qy (qk (by omega) (by omega)) ?_
     refine h.sa x.toNat (by omega) (qae _) (by omega) fun w h=>?_
     refine qy (qk (by omega) (by omega)) ?_
     rw [clL_pos (by omega) hx.2,← htk] at h
     exact ⟨⟨rfl,rfl,rfl,rfl⟩,hin (i+1) _ _ ⟨by omega,by omega,h⟩ (by omega)⟩
   · refine qy (qk (by omega) (by omega)) ?_
     rw [← clL_no (x:=x) (by omega),← htk] at h
     exact ⟨⟨rfl,rfl,rfl,rfl⟩,hin (i+1) _ _ ⟨by omega,by omega,h⟩ (by omega)⟩
 · have:i=ls.length:=by omega
   subst this
   rw [List.take_length] at h
   unfold qjc.j2
   have l16:(ivs .i64 (clL ls)).length=16:=by rw [qx]; exact qae _
   refine h.lA l16 ⟨l16,?_⟩
   refine h.sA (b:=n1) (by rw [qx]; simp) l16 qof fun w h=>?_
   refine h.lA l16 ?_
   exact hk w h.sub
theorem qwb.c {s:Sl} {K:Ending→World→Prop} (h:St F0 w0 w ps) [Rdb F0 w0 s ps 1 (ivs .i64 ls)]
 (hk:∀ w',St F0 w0 w' ps→K (.returned (.tuple ⟨[.bool (hchk ls).1,.int .i64 (hchk ls).2]⟩)) w'):Calls Try.prog 13 ⟨[.slice s.a s.len s.cap]⟩ w K:=by
 have hl:=(h.rdb s).1
 rw [qx] at hl
 refine qoc (qwb.ok _ _ _ ?_)
 unfold qwb
 unfold hchk at hk
 refine qzc (fun g=>?_) (fun g=>?_)
 · rw [if_pos (by omega)] at hk
   exact hk w h
 rw [if_neg (by omega)] at hk
 unfold qwb.j1 qwb.j6
 refine qsf (fun (i:Nat) (i':Int) w'=>i'=i∧i≤ls.length∧okL (ls.take i)∧St F0 w0 w' ps) (fun i=>ls.length - i) 0 ⟨rfl,by omega,fun x hx=>by simp at hx,h⟩ ?_
 clear h
 rintro i i' w I μ ⟨rfl,hi,hok,h⟩ hin
 unfold qwb.b2
 refine qzc (fun g2=>?_) (fun g2=>?_)
 · have hil:i < ls.length:=by omega
   have bad:¬ (0≤ls.getD i 0∧ls.getD i 0≤15)→K (.returned (.tuple ⟨[.bool false,.int .i64 1]⟩)) w:=fun hn=>by
    rw [if_pos (fun e=>hn (e _ (qrf hil)))] at hk
    exact hk w h
   refine h.lx i rfl hil ?_
   refine qzc (fun g3=>bad (by omega)) (fun g3=>?_)
   refine qzc (fun g4=>bad (by omega)) (fun g4=>?_)
   refine qy (qk (by omega) (by omega)) ?_
   refine ⟨⟨rfl,rfl,rfl⟩,hin (i+1) _ _ ⟨by omega,by omega,?_,h⟩ (by omega)⟩
   rw [qsk hil]
   intro x hx
   rcases List.mem_append.1 hx with hx | hx
   · exact hok x hx
   · rw [List.mem_singleton.1 hx]; omega
 have:i=ls.length:=by omega
 subst this
 rw [List.take_length] at hok
 clear hin
 rw [if_neg (fun e=>e hok)] at hk
 unfold qwb.j2 qwb.j3
 refine qjc.c h hok (by omega) fun w h=>⟨_,rfl,?_⟩
 unfold qwb.j5
 have hkr:=kr_eq ls hok
 have hkl:=kr_le ls
 refine loop2 (fun (n:Nat) (r n':Int) w'=>n'=n∧n≤16∧r=32768 - (krN ls (n - 1):Int)∧St F0 w0 w' ps) (fun n=>16 - n) 0 ⟨rfl,by omega,by simp [krN],h⟩ ?_
 clear h
 rintro n r n' w I μ ⟨rfl,hn,rfl,h⟩ hin
 unfold qwb.b1
 refine qzc (fun g3=>?_) (fun g3=>?_)
 · refine ⟨⟨by omega,by omega⟩,ptI_i (by rw [qae]; omega) ?_⟩
   rw [show ((n:Int)).toNat * 1=n by omega,qwm _ (by omega)]
   have hm:=krN_mono ls 15 (n - 1) (by omega)
   refine qzc (fun g4=>?_) (fun g4=>?_)
   · refine qy (show IntKind.i64.wrap (15 - (n:Int))=((15 - n:Nat):Int) by rw [qk (by omega) (by omega)]; omega) ?_
     have hcl:=hc_le ls n
     refine ⟨by omega,qy (shl_room (by omega) (by omega)) ?_⟩
     obtain ⟨m,rfl⟩:∃ m,n=m+1:=⟨n - 1,by omega⟩
     have hm2:=krN_mono ls 15 (m+1) (by omega)
     have hst:krN ls (m+1)=krN ls m+hc ls (m+1) * 2 ^ (15 - (m+1)):=rfl
     rw [Nat.add_sub_cancel] at hm ⊢
     refine qy (qk (by omega) (by omega)) ?_
     refine qy (qk (by omega) (by omega)) ?_
     exact ⟨rfl,hin (m+1+1) _ _ _ ⟨by omega,by omega,by rw [Nat.add_sub_cancel,hst]; omega,h⟩ (by omega)⟩
   · have:n=0:=by omega
     subst this
     refine qy (qk (by omega) (by omega)) ?_
     exact ⟨rfl,hin 1 _ _ _ ⟨by omega,by omega,rfl,h⟩ (by omega)⟩
 · have:n=16:=by omega
   subst this
   have e:krN ls (16 - 1)=kr ls:=hkr.symm
   rw [e]
   unfold qwb.j4
   refine qzc (fun g4=>?_) (fun g4=>?_)
   · rw [if_pos (by omega)] at hk
     exact hk w h
   · rw [if_neg (by omega)] at hk
     have e:((32768 - (kr ls:Int)) == 0)=decide (kr ls=32768):=by
      apply Bool.eq_iff_iff.2
      rw [beq_iff_eq,decide_eq_true_eq]
      omega
     rw [e]
     exact hk w h
def nxL (l:List Int) (n:Nat):List Int:=qek 16 fun m=>if m < n then (hf l m:Int) else 0
def nyL (l:List Int) (i:Nat):List Int:=qek 16 fun m=>((hf l m+hc (l.take i) m:Nat):Int)
def cdL (l:List Int) (i:Nat):List Int:=qek l.length fun m=>if m < i then (qef l m:Int) else 0
theorem qrb.c {s:Sl} {K:Ending→World→Prop} (h:St F0 w0 w ps) [Rdb F0 w0 s ps 1 (ivs .i64 ls)]
 (hk:∀ s' w',(hchk ls).2=0→St F0 w0 w' (qdc 1 s' (ivs .i64 (hcodes ls)) :: ps)→K (.returned (.tuple ⟨[.slice s'.a s'.len s'.cap,.int .i64 0]⟩)) w')
 (hk2:∀ w',(hchk ls).2 ≠ 0→St F0 w0 w' ps→K (.returned (.tuple ⟨[.slice none 0 0,.int .i64 (hchk ls).2]⟩)) w'):Calls Try.prog 48 ⟨[.slice s.a s.len s.cap]⟩ w K:=by
 have hl:=(h.rdb s).1
 rw [qx] at hl
 refine qoc (qrb.ok _ _ _ ?_)
 unfold qrb
 refine qwb.c h fun w h=>⟨_,_,rfl,?_⟩
 refine qpf (fun g=>?_) (fun g=>?_)
 · exact hk2 w (by simpa using g) h
 have g:(hchk ls).2=0:=by simpa using g
 obtain ⟨hok,hkr,hlen,_⟩:=hchk_ok g
 unfold qrb.j1
 refine h.new fun n1 w h=>?_
 rw [zc_a16] at h
 have h:St F0 w0 w (qxc n1 (ivs .i64 (List.replicate 16 0)) :: ps):=h
 refine qjc.c h hok (by omega) fun w h=>⟨_,rfl,?_⟩
 refine h.new fun n2 w h=>?_
 rw [zc_a16] at h
 have h:St F0 w0 w (qxc n2 (ivs .i64 (List.replicate 16 0)) :: qxc n1 (ivs .i64 (List.replicate 16 0)) :: ps):=h
 have l16:(ivs .i64 (clL ls)).length=16:=by rw [qx]; exact qae _
 refine ⟨l16,?_⟩
 refine h.sA (b:=n2) (by rw [qx]; simp) l16 qof fun w h=>?_
 unfold qrb.j2 qrb.j7
 have nx0:List.replicate 16 0=nxL ls 1:=by
  rw [qbk]
  refine qkd fun i hi=>?_
  by_cases h:i < 1
  · rw [if_pos h,show i=0 by omega]; rfl
  · rw [if_neg h]
 rw [nx0] at h
 refine qsf (fun (n:Nat) (n':Int) w'=>n'=n∧1≤n∧n≤16∧St F0 w0 w' (qxc n1 (ivs .i64 (nxL ls n)) :: qxc n2 (ivs .i64 (clL ls)) :: ps)) (fun n=>16 - n) 1 ⟨rfl,by omega,by omega,h.sub⟩ ?_
 clear h
 rintro n n' w I μ ⟨rfl,hn1,hn,h⟩ hin
 unfold qrb.b2
 refine qzc (fun g3=>?_) (fun g3=>?_)
 · obtain ⟨m,rfl⟩:∃ m,n=m+1:=⟨n - 1,by omega⟩
   have hb:=qwl ls hok hkr (n:=m) (by omega)
   refine h.drewK fun w h=>?_
   refine qy (qk (by omega) (by omega)) ?_
   refine h.la (b:=n1) m (by omega) (quc _ _) (by omega) ?_
   refine qy (qk (by omega) (by omega)) ?_
   refine h.la (b:=n2) m (by omega) (qae _) (by omega) ?_
   have e1:(nxL ls (m+1)).getD m 0=hf ls m:=by unfold nxL; rw [qse (by omega),if_pos (by omega)]
   rw [e1,qwm _ (by omega)]
   refine qy (qk (by omega) (by omega)) ?_
   refine ⟨by decide,qy (shl1 (by omega)) ?_⟩
   refine h.sa (b:=n1) (m+1) (by omega) (quc _ _) (by omega) fun w h=>?_
   refine qy (qk (by omega) (by omega)) ?_
   have e2:(nxL ls (m+1)).set (m+1) (2 * ((hf ls m:Int)+(hc ls m:Int)))=nxL ls (m+1+1):=by
    unfold nxL
    rw [qpi]
    refine qkd fun i hi=>?_
    by_cases h:i=m+1
    · rw [if_pos h,if_pos (by omega),h,hf]; omega
    · rw [if_neg h]
      by_cases h2:i < m+1
      · rw [if_pos h2,if_pos (by omega)]
      · rw [if_neg h2,if_neg (by omega)]
   rw [e2] at h
   exact ⟨⟨rfl,rfl,rfl⟩,hin (m+1+1) _ _ ⟨by omega,by omega,by omega,h⟩ (by omega)⟩
 have:n=16:=by omega
 subst this
 clear hin
 have ny0:nxL ls 16=nyL ls 0:=qkd fun i hi=>by
  rw [if_pos hi,List.take_zero]
  simp [hc]
 rw [ny0] at h
 unfold qrb.j3
 refine h.makeI (n:=ls.length) (by omega) (by omega) (by omega) fun o w ho1 ho2 h=>?_
 unfold qrb.j4 qrb.j6
 have cd0:List.replicate ls.length 0=cdL ls 0:=by
  rw [qbk]
  exact qkd fun i hi=>by rw [if_neg (by omega)]
 rw [cd0] at h
 refine qsf (fun (i:Nat) (i':Int) w'=>i'=i∧i≤ls.length∧St F0 w0 w' (qdc 1 o (ivs .i64 (cdL ls i)) :: qxc n1 (ivs .i64 (nyL ls i)) :: ps)) (fun i=>ls.length - i) 0 ⟨rfl,by omega,h.sub⟩ ?_
 clear h
 rintro i i' w I μ ⟨rfl,hi,h⟩ hin
 unfold qrb.b1
 refine qzc (fun g4=>?_) (fun g4=>?_)
 · have hil:i < ls.length:=by omega
   have hx:=hok _ (qrf hil)
   have cds:∀ v:Int,v=qef ls i→(cdL ls i).set i v=cdL ls (i+1):=by
    intro v hv
    unfold cdL
    rw [qpi]
    refine qkd fun j hj=>?_
    by_cases h:j=i
    · rw [if_pos h,if_pos (by omega),h,hv]
    · rw [if_neg h]
      by_cases h2:j < i
      · rw [if_pos h2,if_pos (by omega)]
      · rw [if_neg h2,if_neg (by omega)]
   refine h.lx i rfl hil ?_
   refine qzc (fun g5=>?_) (fun g5=>?_)
   · obtain ⟨m,hm⟩:∃ m:Nat,ls.getD i 0=m:=⟨(ls.getD i 0).toNat,by omega⟩
     have hce:=hcode_eq hm (by omega)
     have hsz:=qip hok hkr hil hm (by omega)
     have hp:(2:Nat) ^ m≤32768:=Nat.le_trans (Nat.pow_le_pow_right (by decide) (show m≤15 by omega)) (by decide)
     have eg:(nyL ls i).getD m 0=qef ls i:=by unfold nyL; rw [qse (by omega),hce]
     rw [hm] at g5 hx ⊢
     refine h.la (b:=n1) m rfl (quc _ _) (by omega) ?_
     rw [eg]
     refine h.sx (s:=o) i rfl (by unfold cdL; rw [quc]; exact hil) fun w h=>?_
     refine h.la (b:=n1) m rfl (quc _ _) (by omega) ?_
     rw [eg]
     refine qy (qk (by omega) (by omega)) ?_
     refine h.sa (b:=n1) m rfl (quc _ _) (by omega) fun w h=>?_
     refine qy (qk (by omega) (by omega)) ?_
     have eny:(nyL ls i).set m ((qef ls i:Int)+1)=nyL ls (i+1):=by
      unfold nyL
      rw [qpi]
      refine qkd fun j hj=>?_
      rw [qsk hil,quk,hm]
      by_cases h:j=m
      · rw [if_pos h,if_pos (by omega),h,hce]; omega
      · rw [if_neg h,if_neg (by omega)]; omega
     rw [cds _ rfl,eny] at h
     exact ⟨⟨rfl,rfl,rfl,rfl⟩,hin (i+1) _ _ ⟨by omega,by omega,h.sub⟩ (by omega)⟩
   · refine qy (qk (by omega) (by omega)) ?_
     have ecd:cdL ls i=cdL ls (i+1):=by
      refine qkd fun j hj=>?_
      by_cases h2:j < i
      · rw [if_pos h2,if_pos (by omega)]
      · rw [if_neg h2]
        by_cases h3:j=i
        · rw [if_pos (by omega),h3,hcode_no (by omega)]; rfl
        · rw [if_neg (by omega)]
     have eny:nyL ls i=nyL ls (i+1):=by
      refine qkd fun j hj=>?_
      rw [qsk hil,quk,if_neg (by omega)]
      rfl
     rw [ecd,eny] at h
     exact ⟨⟨rfl,rfl,rfl,rfl⟩,hin (i+1) _ _ ⟨by omega,by omega,h⟩ (by omega)⟩
 · have:i=ls.length:=by omega
   subst this
   have e:cdL ls ls.length=hcodes ls:=by
    show qek _ _=qek _ fun i=>(qef ls i:Int)
    exact qkd fun j hj=>by rw [if_pos hj]
   rw [e] at h
   unfold qrb.j5
   exact hk o w g h.sub
end
end Go.Proofs.Ythdmmmfgjmmelaa
namespace Go.Proofs.Ythdmmmfgjmmelaa
open Go Go.Proofs
set_option linter.unusedVariables false
set_option linter.unusedSimpArgs false
attribute [local irreducible] apK cpK mkK
def nats (l:List Nat):List Int:=l.map fun n:Nat=>(n:Int)
theorem qeg (l:List Nat):(nats l).length=l.length:=by simp [nats]
theorem nats_getD (l:List Nat) (i:Nat):(nats l).getD i 0=((l.getD i 0:Nat):Int):=by
 unfold nats
 rw [List.getD_eq_getElem?_getD,List.getElem?_map,List.getD_eq_getElem?_getD]
 cases l[i]? <;> rfl
theorem hsyms_le (l:List Int):∀ n,(qnd l n).length≤n * l.length:=by
 intro n
 induction n with
 | zero=>simp [qnd]
 | succ n ih =>
   have h4:=qte l (n+1)
   have h5:=List.count_le_length (a:=((n+1:Nat):Int)) (l:=l)
   rw [qnd,List.length_append,Nat.succ_mul]
   omega
def hcC (s1 s2 s3:Sl) (ls:List Int):List Value:=.slice s1.a s1.len s1.cap :: .slice s2.a s2.len s2.cap :: (ivs .i64 (clL ls) ++ [.slice s3.a s3.len s3.cap])
theorem qzn (s1 s2 s3:Sl) (ls:List Int):(hcC s1 s2 s3 ls)[18]?=some (.slice s3.a s3.len s3.cap):=by
 unfold hcC
 rw [List.getElem?_cons_succ,List.getElem?_cons_succ,List.getElem?_append_right (by rw [qx,qae]; decide),qx,qae]
 rfl
theorem hcC_n (s1 s2 s3:Sl) (ls:List Int) {n:Nat} (h:n < 16):(hcC s1 s2 s3 ls)[2+n]?=some (.int .i64 (hc ls n)):=by
 unfold hcC
 rw [show 2+n=n+1+1 by omega,List.getElem?_cons_succ,List.getElem?_cons_succ,List.getElem?_append_left (by rw [qx,qae]; exact h),qul (by rw [qae]; exact h),qwm _ h]
theorem qjp (s1 s2 s3:Sl) (ls:List Int):(hcC s1 s2 s3 ls).length=19:=by
 unfold hcC
 rw [List.length_cons,List.length_cons,List.length_append,qx,qae]
 rfl
theorem hcC_set18 (s1 s2 s3 s:Sl) (ls:List Int):(hcC s1 s2 s3 ls).set 18 (.slice s.a s.len s.cap)=hcC s1 s2 s ls:=by
 unfold hcC
 rw [List.set_cons_succ,List.set_cons_succ,List.set_append_right _ _ (by rw [qx,qae]; decide),qx,qae]
 rfl
theorem hcC_set1 (s1 s2 s3 s:Sl) (ls:List Int):(hcC s1 s2 s3 ls).set 1 (.slice s.a s.len s.cap)=hcC s1 s s3 ls:=rfl
theorem spl_hc (s:Sl) (f:Nat→Int):spl [.slice s.a s.len s.cap,.slice none 0 0,.int .i64 0,.int .i64 0,.int .i64 0,.int .i64 0,.int .i64 0,.int .i64 0,.int .i64 0,.int .i64 0,.int .i64 0,.int .i64 0,.int .i64 0,.int .i64 0,.int .i64 0,.int .i64 0,.int .i64 0,.int .i64 0,.slice none 0 0] 2 ⟨ivs .i64 (qek 16 f)⟩ =
 .slice s.a s.len s.cap :: .slice none 0 0 :: (ivs .i64 (qek 16 f) ++ [.slice none 0 0]):=by kernel_rfl
section
variable {F0:List Nat} {w0 w:World} {ps rest:List As} {ls:List Int}
def hcA (cb:Nat) (ls:List Int):As:=exA fun s:Sl × Sl × Sl=>ifA (okL ls∧kr ls≤32768∧ls.length≤288) <| andA (qxc cb (hcC s.1 s.2.1 s.2.2 ls)) <| andA (qdc 1 s.1 (ivs .i64 ls)) <| andA (qdc 1 s.2.1 (ivs .i64 (hcodes ls))) (qdc 1 s.2.2 (ivs .i64 (nats (qnd ls 15))))
theorem qxl (cb:Nat) (h:St F0 w0 w ps) [PkF hcA cb ps ls rest]:okL ls∧kr ls≤32768∧ls.length≤288∧∃ s1 s2 s3:Sl,Blk w cb (hcC s1 s2 s3 ls)∧Rd w 1 s1 (ivs .i64 ls)∧Rd w 1 s2 (ivs .i64 (hcodes ls))∧Rd w 1 s3 (ivs .i64 (nats (qnd ls 15))):=by
 obtain ⟨s,h⟩:=(h.toF hcA cb).exE
 obtain ⟨⟨h1,h2,h3⟩,h⟩:=h.ifE
 have h:=h.split
 have g:=h.drop.split
 have g2:=g.drop.split
 exact ⟨h1,h2,h3,s.1,s.2.1,s.2.2,h.blk,g.ord,g2.ord,g2.drop.ord⟩
theorem hcA_i {cb:Nat} {s1 s2 s3:Sl} (h1:okL ls) (h2:kr ls≤32768) (h3:ls.length≤288) (h:St F0 w0 w (qxc cb (hcC s1 s2 s3 ls) :: qdc 1 s1 (ivs .i64 ls) :: qdc 1 s2 (ivs .i64 (hcodes ls)) :: qdc 1 s3 (ivs .i64 (nats (qnd ls 15))) :: rest)):St F0 w0 w (hcA cb ls :: rest):=by
 have h:=(h.tail fun _ _ _ h=>(h.tail fun _ _ _ h=>h.join).join).join
 exact (h.ifI (c:=okL ls∧kr ls≤32768∧ls.length≤288) ⟨h1,h2,h3⟩).exI (p:=fun s:Sl × Sl × Sl=>ifA (okL ls∧kr ls≤32768∧ls.length≤288) <| andA (qxc cb (hcC s.1 s.2.1 s.2.2 ls)) <| andA (qdc 1 s.1 (ivs .i64 ls)) <| andA (qdc 1 s.2.1 (ivs .i64 (hcodes ls))) (qdc 1 s.2.2 (ivs .i64 (nats (qnd ls 15))))) (s1,s2,s3)
theorem Blk.cnt {cb:Nat} {s1 s2 s3:Sl} {i:Int} {K:Int→Prop} (hb:Blk w cb (hcC s1 s2 s3 ls)) (n:Nat) (hi:i=n) (hn:n < 16) (hk:K (hc ls n)):ixA (Addr.add ⟨cb,0,none⟩ 2) 16 i 1 fun a=>Go.Proofs.Ythdmmmfgjmmelaa.ldI .i64 w a K:=by
 subst hi
 refine ixA_b' (b:=cb) (o:=2) (by omega) (by omega) ?_
 refine hb.ldI ?_ hk
 rw [show 2+((n:Int)).toNat * 1=2+n by omega]
 exact hcC_n s1 s2 s3 ls hn
theorem hpos_take_sn {i:Nat} (h:i < ls.length) (n:Nat):qxi (ls.take (i+1)) n=qxi (ls.take i) n ++ if ls.getD i 0=n then [i] else []:=by
 rw [qsk h,qqj,List.length_take,Nat.min_eq_left (by omega)]
theorem qub.c {s:Sl} {half:Bool} {K:Ending→World→Prop} (h:St F0 w0 w ps) [Rdb F0 w0 s ps 1 (ivs .i64 ls)]
 (hk:∀ cb w',qih ls half=0→St F0 w0 w' (hcA cb ls :: ps)→K (.returned (.tuple ⟨[.pointer (some ⟨cb,0,none⟩),.int .i64 0]⟩)) w')
 (hk2:∀ w',qih ls half ≠ 0→St F0 w0 w' ps→K (.returned (.tuple ⟨[.pointer none,.int .i64 (qih ls half)]⟩)) w'):Calls Try.prog 16 ⟨[.slice s.a s.len s.cap,.bool half]⟩ w K:=by
 have hl:=(h.rdb s).1
 rw [qx] at hl
 refine qoc (qub.ok _ _ _ _ ?_)
 unfold qub
 refine qwb.c h fun w h=>⟨_,_,rfl,?_⟩
 unfold qub.j1
 refine qpf (fun g=>?_) (fun g=>?_)
 · have g:(hchk ls).2 ≠ 0:=by simpa using g
   have e:qih ls half=(hchk ls).2:=by unfold qih; rw [if_pos g]
   rw [e] at hk2
   exact hk2 w g h
 have g:(hchk ls).2=0:=by simpa using g
 obtain ⟨hok,hkr,hlen,hfull⟩:=hchk_ok g
 refine h.clone (k:=.i64) (s2:=s) (by omega) fun s1 w h=>?_
 refine qjc.c h hok (by omega) fun w h=>⟨_,rfl,?_⟩
 refine ⟨by show (ivs .i64 (clL ls)).length=16; rw [qx,qae],?_⟩
 refine h.new fun cb w h=>?_
 have h:St F0 w0 w (qxc cb (hcC s1 ⟨none,0,0⟩ ⟨none,0,0⟩ ls) :: qdc 1 s1 (ivs .i64 ls) :: ps):=new_asL (spl_hc s1 fun n=>(hc ls n:Int)) h
 unfold qub.j2 qub.j5
 refine qsf (fun (n:Nat) (n':Int) w'=>n'=n∧1≤n∧n≤16∧∃ s3,St F0 w0 w' (qxc cb (hcC s1 ⟨none,0,0⟩ s3 ls) :: qdc 1 s3 (ivs .i64 (nats (qnd ls (n - 1)))) :: qdc 1 s1 (ivs .i64 ls) :: ps)) (fun n=>16 - n) 1 ⟨rfl,by omega,by omega,⟨none,0,0⟩,(h.nil 1).at1⟩ ?_
 clear h
 rintro n n' w I μ ⟨rfl,hn1,hn,s3,h⟩ hin
 obtain ⟨m,rfl⟩:∃ m,n=m+1:=⟨n - 1,by omega⟩
 rw [Nat.add_sub_cancel] at h
 unfold qub.b1
 refine qzc (fun g2=>?_) (fun g2=>?_)
 · unfold qub.j6 qub.j8
   refine qsf (fun (i:Nat) (i':Int) w'=>i'=i∧i≤ls.length∧∃ s3,St F0 w0 w' (qxc cb (hcC s1 ⟨none,0,0⟩ s3 ls) :: qdc 1 s3 (ivs .i64 (nats (qnd ls m ++ qxi (ls.take i) (m+1)))) :: qdc 1 s1 (ivs .i64 ls) :: ps)) (fun i=>ls.length - i) 0 ⟨rfl,by omega,s3,by
    have:qxi (ls.take 0) (m+1)=[]:=rfl
    rw [this,List.append_nil]; exact h⟩ ?_
   clear h
   rintro i i' w I2 μ2 ⟨rfl,hi,s4,h⟩ hin2
   unfold qub.b2
   refine qzc (fun g3=>?_) (fun g3=>?_)
   · have hil:i < ls.length:=by omega
     have hps:=hpos_take_sn hil (m+1)
     refine h.lx (s:=s) i rfl hil ?_
     refine qpf (fun g4=>?_) (fun g4=>?_)
     · have g4:ls.getD i 0=((m+1:Nat):Int):=by simpa using g4
       rw [if_pos g4] at hps
       refine qrd ((h.toB cb).blk.ldL (o:=18) (n:=s4) (qzn _ _ _ _) ?_)
       have hln:(nats (qnd ls m ++ qxi (ls.take i) (m+1))).length≤1099511627776:=by
        have h1:=qte (ls.take i) (m+1)
        have h2:=List.count_le_length (a:=((m+1:Nat):Int)) (l:=ls.take i)
        rw [List.length_take] at h2
        have h3:∀ n,(qnd ls n).length≤n * ls.length:=by
         intro n
         induction n with
         | zero=>simp [qnd]
         | succ n ih =>
           have h4:=qte ls (n+1)
           have h5:=List.count_le_length (a:=((n+1:Nat):Int)) (l:=ls)
           rw [qnd,List.length_append,Nat.succ_mul]
           omega
        have h6:=h3 m
        have h7:m * ls.length≤16 * 288:=Nat.mul_le_mul (by omega) hlen
        rw [qeg,List.length_append]
        omega
       refine h.pushI (s:=s4) hln fun s5 w h=>?_
       refine qrd ((h.toB cb).st (o:=18) (by rw [qjp]; decide) trivial fun w h=>?_)
       rw [hcC_set18] at h
       refine qy (qk (by omega) (by omega)) ?_
       refine ⟨⟨rfl,rfl,rfl,rfl,rfl,rfl,rfl⟩,hin2 (i+1) _ _ ⟨by omega,by omega,s5,?_⟩ (by omega)⟩
       have e:nats (qnd ls m ++ qxi (ls.take i) (m+1)) ++ [(i:Int)]=nats (qnd ls m ++ qxi (ls.take (i+1)) (m+1)):=by
        rw [hps]; simp [nats]
       rw [e] at h
       exact h.sub
     · have g4:¬ ls.getD i 0=((m+1:Nat):Int):=by simpa using g4
       rw [if_neg g4,List.append_nil] at hps
       refine qy (qk (by omega) (by omega)) ?_
       refine ⟨⟨rfl,rfl,rfl,rfl,rfl,rfl,rfl⟩,hin2 (i+1) _ _ ⟨by omega,by omega,s4,?_⟩ (by omega)⟩
       rw [hps]
       exact h
   · have:i=ls.length:=by omega
     subst this
     rw [List.take_length] at h
     unfold qub.j7
     refine qy (qk (by omega) (by omega)) ?_
     exact ⟨⟨rfl,rfl,rfl,rfl⟩,hin (m+1+1) _ _ ⟨by omega,by omega,by omega,s4,h⟩ (by omega)⟩
 have:m=15:=by omega
 subst this
 clear hin
 have hs3l:=h.at1.len
 rw [qx,qeg] at hs3l
 have fin:qih ls half=0→qub.j4 s (some ⟨cb,0,none⟩) (fun v w'=>K (.returned v) w') w:=by
  intro hn0
  unfold qub.j4
  refine qrb.c h (fun s2 w _ h=>⟨s2,_,rfl,?_⟩) (fun w hne _=>absurd g hne)
  refine qrd ((h.toB cb).st (o:=1) (by rw [qjp]; decide) trivial fun w h=>?_)
  rw [hcC_set1] at h
  exact hk cb w hn0 (hcA_i (s1:=s1) (s2:=s2) (s3:=s3) hok hkr hlen h.sub)
 have bad:qih ls half=2→K (.returned (.tuple ⟨[.pointer none,.int .i64 2]⟩)) w:=by
  intro hn2
  rw [hn2] at hk2
  exact hk2 w (by decide) h.sub
 have hnw:qih ls half=if (hchk ls).1=false∧(half && hhalf ls)=false then 2 else 0:=by unfold qih; rw [if_neg (by rw [g]; decide)]
 unfold qub.j3
 refine qpf (fun g5=>?_) (fun g5=>?_)
 · have g5:(hchk ls).1=false:=by simpa using g5
   refine qpf (fun g6=>?_) (fun g6=>?_)
   · subst g6
     refine qrd ((h.toB cb).blk.ldL (o:=18) (n:=s3) (qzn _ _ _ _) ?_)
     refine qpf (fun g7=>?_) (fun g7=>?_)
     · have g7:s3.len=0:=by simpa using g7
       refine qkl (fin ?_)
       rw [hnw,if_neg]
       intro e
       have:hhalf ls=true:=by unfold hhalf; rw [decide_eq_true_eq]; omega
       rw [this] at e
       exact absurd e.2 (by decide)
     have g7:s3.len ≠ 0:=by simpa using g7
     refine qrd ((h.toB cb).blk.ldL (o:=18) (n:=s3) (qzn _ _ _ _) ?_)
     refine qpf (fun g8=>?_) (fun g8=>?_)
     · have g8:s3.len=1:=by have:((s3.len:Nat):Int)=1:=by simpa using g8
                            omega
       refine qrd ((h.toB cb).blk.cnt 1 rfl (by decide) ?_)
       refine qpf (fun g9=>bad ?_) (fun g9=>fin ?_)
       · have g9:¬ (hc ls 1:Int)=1:=by simpa using g9
         have hh:(true && hhalf ls)=false:=by
          unfold hhalf
          rw [Bool.true_and,decide_eq_false_iff_not]
          omega
         rw [hnw,if_pos ⟨g5,hh⟩]
       · have g9:(hc ls 1:Int)=1:=by simpa using g9
         rw [hnw,if_neg]
         intro e
         have:hhalf ls=true:=by unfold hhalf; rw [decide_eq_true_eq]; omega
         rw [this] at e
         exact absurd e.2 (by decide)
     · have g8:¬ s3.len=1:=fun e=>by rw [e] at g8; exact absurd g8 (by decide)
       refine qnm (bad ?_)
       have hh:(true && hhalf ls)=false:=by
        unfold hhalf
        rw [Bool.true_and,decide_eq_false_iff_not]
        omega
       rw [hnw,if_pos ⟨g5,hh⟩]
   · subst g6
     exact qnm (bad (by rw [hnw,if_pos ⟨g5,rfl⟩]))
 · have g5:(hchk ls).1=true:=by simpa using g5
   exact fin (by rw [hnw,if_neg (fun e=>by rw [g5] at e; exact absurd e.1 (by decide))])
theorem qje.c {cb:Nat} {K:Ending→World→Prop} (h:St F0 w0 w ps) [PkF hcA cb ps ls rest]
 (hk:∀ w',St F0 w0 w' ps→K (.returned (.int .i64 (hlong ls 15))) w'):Calls Try.prog 53 ⟨[.pointer (some ⟨cb,0,none⟩)]⟩ w K:=by
 refine qoc (qje.ok _ _ _ ?_)
 unfold qje
 obtain ⟨h1,h2,h3,s1,s2,s3,hb,r1,r2,r3⟩:=qxl cb h
 have l3:=r3.1
 rw [qx,qeg] at l3
 have hlast:=hsyms_last (l:=ls) 15
 refine qrd (hb.ldL (o:=18) (n:=s3) (qzn _ _ _ _) ?_)
 refine qpf (fun g=>?_) (fun g=>?_)
 · have g:s3.len=0:=by simpa using g
   rw [if_pos (List.eq_nil_of_length_eq_zero (by omega))] at hlast
   rw [hlast] at hk
   exact hk w h
 have g:s3.len ≠ 0:=by simpa using g
 have hne:0 < (qnd ls 15).length:=by omega
 rw [if_neg (fun e=>by rw [e] at hne; exact absurd hne (by decide))] at hlast
 clear hb r1 r2 r3 l3 g
 refine h.drewK fun w h=>?_
 obtain ⟨h1,h2,h3,s1,s2,s3,hb,r1,r2,r3⟩:=qxl cb h
 have l3:=r3.1
 rw [qx,qeg] at l3
 have hsle:=hsyms_le ls 15
 have hm:(qnd ls 15).getD ((qnd ls 15).length - 1) 0 ∈ qnd ls 15:=by
  rw [List.getD_eq_getElem?_getD,List.getElem?_eq_getElem (show (qnd ls 15).length - 1 < (qnd ls 15).length by omega)]
  exact List.getElem_mem _
 obtain ⟨m1,m2⟩:=hsyms_mem 15 _ hm
 refine qrd (hb.ldL (o:=0) (n:=s1) rfl ?_)
 refine qrd (hb.ldL (o:=18) (n:=s3) (qzn _ _ _ _) ?_)
 refine qrd (hb.ldL (o:=18) (n:=s3) (qzn _ _ _ _) ?_)
 refine qy (qk (by omega) (by omega)) ?_
 refine r3.at ((qnd ls 15).length - 1) (by omega) (by rw [qeg]; omega) ?_
 rw [nats_getD]
 refine r1.at _ rfl m1 ?_
 have e:ls.getD ((qnd ls 15).getD ((qnd ls 15).length - 1) 0) 0=(hlong ls 15:Int):=by omega
 rw [e]
 exact hk w h
def bitA (rb:Nat) (x:Nat × Nat × Nat):As:=rrA rb x.1 x.2.1 x.2.2
theorem qlb.one {rb V N p:Nat} {K:Ending→World→Prop} (h:St F0 w0 w (bitA rb (V,N,p) :: ps)) (hN:N≤137438953472) (hp:p≤8 * N)
 (hk:p < 8 * N→∀ w',St F0 w0 w' (bitA rb (V,N,p+1) :: ps)→K (.returned (.tuple ⟨[.int .i64 ((bt V p).toNat:Nat),.bool true]⟩)) w')
 (hk':¬ p < 8 * N→∀ w',St F0 w0 w' (bitA rb (V,N,p) :: ps)→K (.returned (.tuple ⟨[.int .i64 0,.bool false]⟩)) w') :
 Calls Try.prog 52 ⟨[.pointer (some ⟨rb,0,none⟩),.int .i64 1]⟩ w K:=by
 refine qlb.c (V:=V) (N:=N) (at':=p) h hN (by omega) (fun g w h=>?_) (fun g w h=>?_)
 · have g:p < 8 * N:=by simp [getOk] at g; omega
   have e:=bt_toNat V p
   have e2:((V / 2 ^ p % 2 ^ (1:Int).toNat:Nat):Int)=(((bt V p).toNat:Nat):Int):=by
    rw [e,show (1:Int).toNat=1 by decide,Nat.pow_one]
    simp
   rw [e2]
   exact hk g w h
 · have g:¬ p < 8 * N:=by simp [getOk] at g; omega
   exact hk' g w h
theorem bitsOf_get {V N p:Nat}:(qo (V:Int) N)[p]?=if p < N then some (bt V p) else none:=by
 unfold qo
 rw [List.getElem?_map]
 split
 · rename_i h; rw [List.getElem?_range h]; rfl
 · rename_i h; rw [List.getElem?_eq_none (by simpa using h)]; rfl
theorem or1 {v:Nat} (x:Bool) (hv:v < 1000000000):orV .i64 (2 * (v:Int)) ((x.toNat:Nat):Int)=((2 * v+x.toNat:Nat):Int):=by
 have hx:x.toNat < 2:=by cases x <;> decide
 have e:=orV_add' .i64 (a:=x.toNat) (b:=v) (t:=1) hx (by show x.toNat+v * 2 ^ 1 < 2 ^ 63; omega)
 rw [show (2:Int) ^ 1=2 by decide] at e
 rw [Int.mul_comm,e]
 omega
theorem qtb.c {cb rb V N p:Nat} {K:Ending→World→Prop} (h:St F0 w0 w (bitA rb (V,N,p) :: ps)) [PkF hcA cb ps ls rest] (hN:N≤137438953472) (hp:p≤8 * N)
 (hk:∀ w',(hnext ls (qo V (8 * N)) p).2.2≤8 * N→St F0 w0 w' (bitA rb (V,N,(hnext ls (qo V (8 * N)) p).2.2) :: ps)→K (.returned (.tuple ⟨[.int .i64 (hnext ls (qo V (8 * N)) p).1,.int .i64 (hnext ls (qo V (8 * N)) p).2.1]⟩)) w') :
 Calls Try.prog 23 ⟨[.pointer (some ⟨cb,0,none⟩),.pointer (some ⟨rb,0,none⟩)]⟩ w K:=by
 refine qoc (qtb.ok _ _ _ _ ?_)
 unfold qtb qtb.j1 qtb.j2 qtb.j4
 obtain ⟨hok,hkr,hlen,_⟩:=qxl cb h
 have hlg:=hlong_le ls 15 (by decide)
 refine loop4 (fun (a:Nat × Nat × Nat) (t6 t7 t8 t10:Int) w'=>t6=a.2.1∧t7=((hf ls (a.1 - 1)+hc ls (a.1 - 1):Nat):Int)∧t8=((qnd ls (a.1 - 1)).length:Int)∧t10=a.1∧1≤a.1∧a.1≤hlong ls 15+1∧hf ls (a.1 - 1)+hc ls (a.1 - 1)≤a.2.1∧a.2.1 < 2 ^ (a.1 - 1)∧a.2.2≤8 * N ∧
  hdec ls (qo V (8 * N)) (hlong ls 15+1 - a.1) a.1 a.2.1 a.2.2=hnext ls (qo V (8 * N)) p∧St F0 w0 w' (bitA rb (V,N,a.2.2) :: ps)) (fun a=>17 - a.1) (1,0,p) ⟨rfl,by simp [hf,hc],by simp [qnd],rfl,by simp,by simp only; omega,by simp [hf,hc],by simp,hp,by simp [hnext],h⟩ ?_
 clear h
 rintro ⟨n,v,q⟩ t6 t7 t8 t10 w I μ ⟨rfl,rfl,rfl,rfl,hn1,hn,hge,hv,hq,hd,h⟩ hin
 simp only at hn1 hn hge hv hq hd h hin ⊢
 obtain ⟨m,rfl⟩:∃ m,n=m+1:=⟨n - 1,by omega⟩
 rw [Nat.add_sub_cancel] at hge hv ⊢
 unfold qtb.b1
 refine qje.c h fun w h=>⟨_,rfl,?_⟩
 refine qzc (fun g=>?_) (fun g=>?_)
 · have hm15:m+1≤15:=by omega
   have hv2:v < 32768:=Nat.lt_of_lt_of_le hv (Nat.le_trans (Nat.pow_le_pow_right (by decide) (show m≤15 by omega)) (by decide))
   obtain ⟨f,hf1⟩:∃ f,hlong ls 15+1 - (m+1)=f+1:=⟨hlong ls 15 - (m+1),by omega⟩
   rw [hf1,hdec,bitsOf_get] at hd
   refine qlb.one h hN hq (fun gk w h=>⟨_,_,rfl,?_⟩) (fun gk w h=>⟨_,_,rfl,?_⟩)
   · rw [if_pos gk] at hd
     simp only at hd
     refine qkl ⟨by decide,qy (shl1 (by omega)) ?_⟩
     refine qy (or1 _ (by omega)) ?_
     have hb1:=qwl ls hok hkr (n:=m) (by omega)
     have hb2:=qwl ls hok hkr (n:=m+1) hm15
     have hx:(bt V q).toNat < 2:=by cases bt V q <;> decide
     generalize (bt V q).toNat=x at hd hx ⊢
     have hfe:hf ls (m+1)=2 * (hf ls m+hc ls m):=rfl
     refine ⟨by decide,qy (shl1 (by omega)) ?_⟩
     refine qy (qk (by omega) (by omega)) ?_
     obtain ⟨_,_,_,s1,s2,s3,hb,r1,r2,r3⟩:=qxl cb h
     have l3:=r3.1
     rw [qx,qeg] at l3
     have hsy:=hsyms_at ls 15 (m+1) (2 * v+x - hf ls (m+1)) (by omega) hm15
     rw [Nat.add_sub_cancel] at hsy
     have hcn:hc ls (m+1)=ls.count ((m+1:Nat):Int):=by unfold hc; rw [if_neg (by omega)]
     have hpl:=qte ls (m+1)
     refine qrd (hb.cnt (m+1) rfl (by omega) ?_)
     have hsl:(qnd ls m).length≤1000000:=by
      have h3:∀ n,(qnd ls n).length≤n * ls.length:=by
       intro n
       induction n with
       | zero=>simp [qnd]
       | succ n ih =>
         have h4:=qte ls (n+1)
         have h5:=List.count_le_length (a:=((n+1:Nat):Int)) (l:=ls)
         rw [qnd,List.length_append,Nat.succ_mul]
         omega
      have h6:=h3 m
      have h7:m * ls.length≤16 * 288:=Nat.mul_le_mul (by omega) hlen
      omega
     refine qzc (fun g2=>?_) (fun g2=>?_)
     · rw [if_pos (by omega)] at hd
       refine qrd (hb.ldL (o:=18) (n:=s3) (qzn _ _ _ _) ?_)
       refine qy (qk (by omega) (by omega)) ?_
       have hsy:=hsy (by omega)
       have hlt:(qnd ls m).length+(2 * v+x - hf ls (m+1)) < (qnd ls 15).length:=by
        rcases Nat.lt_or_ge ((qnd ls m).length+(2 * v+x - hf ls (m+1))) (qnd ls 15).length with h1 | h1
        · exact h1
        · rw [List.getElem?_eq_none h1,List.getElem?_eq_getElem (show 2 * v+x - hf ls (m+1) < (qxi ls (m+1)).length by omega)] at hsy
          cases hsy
       refine r3.at ((qnd ls m).length+(2 * v+x - hf ls (m+1))) (by omega) (by rw [qeg]; exact hlt) ?_
       rw [nats_getD,List.getD_eq_getElem?_getD,hsy,← List.getD_eq_getElem?_getD]
       rw [← hd] at hk
       exact hk w (by simp only; omega) h
     · rw [if_neg (by omega)] at hd
       refine qrd (hb.cnt (m+1) rfl (by omega) ?_)
       have hcl:=hc_le ls (m+1)
       refine qy (qk (by omega) (by omega)) ?_
       refine qrd (hb.cnt (m+1) rfl (by omega) ?_)
       refine qy (qk (by omega) (by omega)) ?_
       refine qy (qk (by omega) (by omega)) ?_
       refine ⟨⟨rfl,rfl⟩,hin (m+1+1,2 * v+x,q+1) _ _ _ _ _ ⟨rfl,?_,?_,by simp,by simp,by simp only; omega,?_,?_,by simp only; omega,?_,h⟩ (by simp only; omega)⟩
       · simp only [Nat.add_sub_cancel]; omega
       · simp only [Nat.add_sub_cancel]
         rw [qnd,List.length_append]; omega
       · simp only [Nat.add_sub_cancel]; omega
       · simp only [Nat.add_sub_cancel]
         rw [Nat.pow_succ]; omega
       · simp only
         rw [show hlong ls 15+1 - (m+1+1)=f by omega]
         exact hd
   · rw [if_neg gk] at hd
     simp only at hd
     refine qnm ?_
     rw [← hd] at hk
     exact hk w hq h
 · have e:hlong ls 15+1 - (m+1)=0:=by omega
   rw [e,hdec] at hd
   unfold qtb.j3
   rw [← hd] at hk
   exact hk w hq h
theorem cbits_eq (c n:Nat):(qo (c:Int) n).reverse=cbits c n:=by
 apply List.ext_getElem
 · rw [List.length_reverse,ql,qwj]
 · intro i h1 h2
   rw [qwj] at h2
   rw [List.getElem_reverse]
   simp only [qo,cbits,List.getElem_map,List.getElem_range,List.length_map,List.length_range]
   exact bt_nat c _
def hput (ls:List Int) (sym:Int):List Bool:=if 0≤sym∧sym < ls.length∧ls.getD sym.toNat 0 ≠ 0 then cbits (qef ls sym.toNat) (ls.getD sym.toNat 0).toNat else []
def hputs (ls:List Int) (sym:Int):Bool:=decide (0≤sym∧sym < ls.length∧ls.getD sym.toNat 0 ≠ 0)
theorem qfe.c {cb wb:Nat} {l:List Bool} {sym:Int} {K:Ending→World→Prop} (h:St F0 w0 w (wrL wb l :: ps)) [PkF hcA cb ps ls rest] (hL:l.length≤549755813888)
 (hk:∀ w',St F0 w0 w' (wrL wb (l ++ hput ls sym) :: ps)→K (.returned (.bool (hputs ls sym))) w') :
 Calls Try.prog 19 ⟨[.pointer (some ⟨cb,0,none⟩),.pointer (some ⟨wb,0,none⟩),.int .i64 sym]⟩ w K:=by
 refine qoc (qfe.ok _ _ _ _ _ ?_)
 unfold qfe
 obtain ⟨hok,hkr,hlen,s1,s2,s3,hb,r1,r2,r3⟩:=qxl cb h
 have l1:=r1.1
 rw [qx] at l1
 have bad:¬ (0≤sym∧sym < ls.length∧ls.getD sym.toNat 0 ≠ 0)→K (.returned (.bool false)) w:=by
  intro hn
  unfold hput hputs at hk
  rw [if_neg hn,List.append_nil,decide_eq_false hn] at hk
  exact hk w h
 refine qzc (fun g=>bad (by omega)) (fun g=>?_)
 refine qrd (hb.ldL (o:=0) (n:=s1) rfl ?_)
 refine qzc (fun g2=>bad (by omega)) (fun g2=>?_)
 have hin:sym.toNat < ls.length:=by omega
 refine qrd (hb.ldL (o:=0) (n:=s1) rfl ?_)
 refine r1.at sym.toNat (by omega) hin ?_
 refine qpf (fun g3=>bad (fun e=>e.2.2 (by simpa using g3))) (fun g3=>?_)
 have g3:ls.getD sym.toNat 0 ≠ 0:=by simpa using g3
 have hx:=hok _ (qrf hin)
 obtain ⟨m,hm⟩:∃ m:Nat,ls.getD sym.toNat 0=m:=⟨(ls.getD sym.toNat 0).toNat,by omega⟩
 unfold hput hputs at hk
 have hcond:0≤sym∧sym < ls.length∧ls.getD sym.toNat 0 ≠ 0:=⟨by omega,by omega,g3⟩
 rw [if_pos hcond,decide_eq_true hcond,hm] at hk
 clear hb r1 r2 r3 l1
 refine h.drewK fun w h=>?_
 obtain ⟨_,_,_,s1,s2,s3,hb,r1,r2,r3⟩:=qxl cb h
 refine qrd (hb.ldL (o:=1) (n:=s2) rfl ?_)
 refine r2.at sym.toNat (by omega) (by rw [hcodes_length]; exact hin) ?_
 rw [hcodes_getD _ hin]
 refine qrd (hb.ldL (o:=0) (n:=s1) rfl ?_)
 refine r1.at sym.toNat (by omega) hin ?_
 rw [hm]
 refine qoe.c h hL fun w h=>⟨rfl,?_⟩
 have e:(pb (qef ls sym.toNat:Int) (m:Int)).reverse=cbits (qef ls sym.toNat) m:=by
  unfold pb
  rw [if_pos (by omega),Int.toNat_natCast,cbits_eq]
 rw [e] at h
 rw [Int.toNat_natCast] at hk
 exact hk w h
end
end Go.Proofs.Ythdmmmfgjmmelaa
namespace Go.Proofs.Ythdmmmfgjmmelaa
open Go Go.Proofs Go.ChangeShapes Go.WideShapes Go.Deep
set_option linter.unusedVariables false
set_option linter.unusedSimpArgs false
def tri (k0 k1 k2:IntKind) (xs:List (Int × Int × Int)):List Value:=xs.flatMap fun a=>[.int k0 a.1,.int k1 a.2.1,.int k2 a.2.2]
theorem qgg (k0 k1 k2:IntKind) (xs:List (Int × Int × Int)):(tri k0 k1 k2 xs).length=xs.length * 3:=by
 induction xs with
 | nil=>rfl
 | cons a xs ih =>
   have e:tri k0 k1 k2 (a :: xs)=[.int k0 a.1,.int k1 a.2.1,.int k2 a.2.2] ++ tri k0 k1 k2 xs:=by simp [tri]
   rw [e,List.length_append,ih,List.length_cons]
   simp; omega
theorem tri_get (k0 k1 k2:IntKind) (xs:List (Int × Int × Int)):∀ (i:Nat) (h:i < xs.length),(tri k0 k1 k2 xs)[i * 3]?=some (.int k0 xs[i].1)∧(tri k0 k1 k2 xs)[i * 3+1]?=some (.int k1 xs[i].2.1)∧(tri k0 k1 k2 xs)[i * 3+2]?=some (.int k2 xs[i].2.2):=by
 induction xs with
 | nil=>intro i h; simp at h
 | cons a xs ih =>
   intro i h
   have e:tri k0 k1 k2 (a :: xs)=.int k0 a.1 :: .int k1 a.2.1 :: .int k2 a.2.2 :: tri k0 k1 k2 xs:=by simp [tri]
   rw [e]
   cases i with
   | zero=>simp
   | succ i =>
     have:=ih i (by simpa using h)
     rw [show (i+1) * 3=i * 3+1+1+1 by omega]
     simpa using this
section
variable {H:Type} {enc:TypeId × Value→H} {P:Program} {w:World} {base:Nat} {spare:Nat→Bool} {held:Bool}
instance:Inhabited Sl:=⟨⟨none,0,0⟩⟩
def sls (L:List (Sl × List Int)):List Value:=L.map fun x=>.slice x.1.a x.1.len x.1.cap
end
end Go.Proofs.Ythdmmmfgjmmelaa
