/- Own texts as one, only what is reached (shake.py). -/
import Derived.Test.YthdmmmfgjmmelaaZsb
import Derived.DeepKeys4
import Derived.Maps.Keyed
import Derived.ProofKit
import Derived.Test.YthdmmmfgjmmelaaProg
import Derived.Test.YthdmmmfgjmmelaaRows
namespace Go.Proofs.Ythdmmmfgjmmelaa
open Go Go.Proofs
set_option linter.unusedVariables false
set_option maxRecDepth 100000
def qu.j3 (lit_0 dist_1:Sl) (Q:VWP) (w:World):Prop :=
 Calls Try.prog 163 ⟨[.slice lit_0.a lit_0.len lit_0.cap]⟩ w fun e1 w2 =>
 ∃ r3:Sl,e1=.returned (.slice r3.a r3.len r3.cap) ∧
 Calls Try.prog 163 ⟨[.slice dist_1.a dist_1.len dist_1.cap]⟩ w2 fun e4 w5 =>
 ∃ r6:Sl,e4=.returned (.slice r6.a r6.len r6.cap) ∧
 Q (.tuple ⟨[.slice r3.a r3.len r3.cap,.slice r6.a r6.len r6.cap]⟩) w5
def qu.b1 (lit_0 dist_1:Sl) (t26:Int) (Q:VWP) (nx1:Sl→Sl→Int→World→Prop) (w:World):Prop :=
 br (decide ((t26:Int) < 32)) (
 lt (⟨World.heapSize w,0,none⟩:Addr) fun a7 =>
 lt (World.alloc w (.cells ⟨[.int .i64 5]⟩ 3)) fun w8 =>
 rdO w8 (some a7) (1 * 1) fun c9 =>
 apK Try.prog 3 w8 dist_1.a dist_1.len dist_1.cap 1 c9 fun s10 w11 =>
 lt (IntKind.i64.wrap (t26+1)) fun x12 =>
 nx1 lit_0 s10 x12 w11) (
 qu.j3 lit_0 dist_1 Q w)
def qu.l1 (lit_0 dist_1:Sl) (t26:Int) (Q:VWP) (w:World):Prop :=
 ∃ (I:Sl→Int→World→Prop) (μ:Sl→Int→World→Nat),I dist_1 t26 w∧∀ dist_1:Sl,∀ t26:Int,∀ w:World,I dist_1 t26 w→qu.b1 lit_0 dist_1 t26 Q (fun lit_0' dist_1' t26' w'=>(lit_0'=lit_0)∧I dist_1' t26' w'∧μ dist_1' t26' w' < μ dist_1 t26 w) w
def qu.j4 (lit_0 dist_1:Sl) (t26:Int) (Q:VWP) (w:World):Prop :=
 qu.l1 lit_0 dist_1 t26 Q w
def qu.j2 (lit_0 dist_1:Sl) (Q:VWP) (w:World):Prop :=
 qu.j4 lit_0 dist_1 0 Q w
def qu.j7 (lit_0 dist_1:Sl) (t4:Int) (Q:VWP) (nx2:Sl→Sl→Int→World→Prop) (w:World):Prop :=
 lt (IntKind.i64.wrap (t4+1)) fun x13 =>
 nx2 dist_1 lit_0 x13 w
def qu.j9 (lit_0 dist_1:Sl) (n_3:Int) (t4:Int) (Q:VWP) (nx2:Sl→Sl→Int→World→Prop) (w:World):Prop :=
 lt (⟨World.heapSize w,0,none⟩:Addr) fun a14 =>
 lt (World.alloc w (.cells ⟨[.int .i64 n_3]⟩ 3)) fun w15 =>
 rdO w15 (some a14) (1 * 1) fun c16 =>
 apK Try.prog 3 w15 lit_0.a lit_0.len lit_0.cap 1 c16 fun s17 w18 =>
 qu.j7 s17 dist_1 t4 Q nx2 w18
def qu.j10 (lit_0 dist_1:Sl) (i_2:Int) (n_3 t4:Int) (t7:Bool) (Q:VWP) (nx2:Sl→Sl→Int→World→Prop) (w:World):Prop :=
 br t7 (
 qu.j9 lit_0 dist_1 9 t4 Q nx2 w) (
 br (decide ((i_2:Int) ≥ 256)) (
 br (decide ((i_2:Int) < 280)) (
 qu.j9 lit_0 dist_1 7 t4 Q nx2 w) (
 qu.j9 lit_0 dist_1 n_3 t4 Q nx2 w)) (
 qu.j9 lit_0 dist_1 n_3 t4 Q nx2 w))
def qu.j8 (lit_0 dist_1:Sl) (i_2:Int) (n_3 t4:Int) (Q:VWP) (nx2:Sl→Sl→Int→World→Prop) (w:World):Prop :=
 br (decide ((i_2:Int) ≥ 144)) (
 qu.j10 lit_0 dist_1 i_2 n_3 t4 (decide ((i_2:Int) < 256)) Q nx2 w) (
 qu.j10 lit_0 dist_1 i_2 n_3 t4 false Q nx2 w)
def qu.j6 (lit_0 dist_1:Sl) (t4:Int) (Q:VWP) (nx2:Sl→Sl→Int→World→Prop) (w:World):Prop :=
 qu.j8 lit_0 dist_1 t4 8 t4 Q nx2 w
def qu.b2 (dist_1 lit_0:Sl) (t4:Int) (Q:VWP) (nx2:Sl→Sl→Int→World→Prop) (w:World):Prop :=
 br (decide ((t4:Int) < 288)) (
 qu.j6 lit_0 dist_1 t4 Q nx2 w) (
 qu.j2 lit_0 dist_1 Q w)
def qu.l2 (dist_1 lit_0:Sl) (t4:Int) (Q:VWP) (w:World):Prop :=
 ∃ (I:Sl→Int→World→Prop) (μ:Sl→Int→World→Nat),I lit_0 t4 w∧∀ lit_0:Sl,∀ t4:Int,∀ w:World,I lit_0 t4 w→qu.b2 dist_1 lit_0 t4 Q (fun dist_1' lit_0' t4' w'=>(dist_1'=dist_1)∧I lit_0' t4' w'∧μ lit_0' t4' w' < μ lit_0 t4 w) w
def qu.j5 (lit_0 dist_1:Sl) (t4:Int) (Q:VWP) (w:World):Prop :=
 qu.l2 dist_1 lit_0 t4 Q w
def qu.j1 (lit_0 dist_1:Sl) (Q:VWP) (w:World):Prop :=
 qu.j5 lit_0 dist_1 0 Q w
def qu  (Q:VWP) (w:World):Prop :=
 qu.j1 ⟨none,0,0⟩ ⟨none,0,0⟩ Q w
theorem qu.ok  (Q:VWP) (w:World) (h:qu  Q w):Calls Try.prog 126 ⟨[]⟩ w (Ret Q):=by
 refine qn [.tmp 0,.tmp 1] Try.func126 rfl rfl rfl rfl ?_
 refine qr (fun ρ w=>asL (ρ 0) fun lit_0=>asL (ρ 1) fun dist_1=>qu.j1 lit_0 dist_1 Q w) ?_ ?_
 · skip
   exact qg qpb _ (Eq.mp (by kernel_rfl) h)
 · intro ρ w h
   obtain ⟨lit_0,e0,h⟩:=qj h
   obtain ⟨dist_1,e1,h⟩:=qj h
   refine qb e0 (qb (qa e1 rfl) ?_)
   refine qr (fun ρ w=>asL (ρ 0) fun lit_0=>asL (ρ 1) fun dist_1=>qu.j2 lit_0 dist_1 Q w) ?_ ?_
   · skip
     refine qr (fun ρ w=>asL (ρ 0) fun lit_0=>asL (ρ 1) fun dist_1=>asI .i64 (ρ 4) fun t4=>qu.j5 lit_0 dist_1 t4 Q w) ?_ ?_
     · skip
       exact qg qpb _ (Eq.mp (by kernel_rfl) h)
     · intro ρ w h
       obtain ⟨lit_0,e0,h⟩:=qj h
       obtain ⟨dist_1,e1,h⟩:=qj h
       obtain ⟨t4,e4,h⟩:=qe h
       refine qb e0 (qb (qa e1 rfl) (qb (qa (qa e4 rfl) rfl) ?_))
       refine qcb ?_
       obtain ⟨I,μ,hI,hr⟩:=h
       refine qhb (α:=Sl × Int) (fun s ρ=>ρ 0=.slice s.1.a s.1.len s.1.cap∧ρ 4=.int .i64 s.2∧ρ 1=.slice dist_1.a dist_1.len dist_1.cap) (fun s w=>I s.1 s.2 w) (fun s w=>μ s.1 s.2 w) (lit_0,t4) ⟨rfl,rfl,rfl⟩ hI ?_
       rintro ⟨lit_0,t4⟩ ρ w ⟨e0,e4,e1⟩ hI
       have h:=hr lit_0 t4 w hI
       clear hr
       obtain ⟨nx2,hnx⟩:∃ nx:Sl→Sl→Int→World→Prop,nx=(fun dist_1' lit_0' t4' w'=>(dist_1'=dist_1)∧I lit_0' t4' w'∧μ lit_0' t4' w' < μ lit_0 t4 w):=⟨_,rfl⟩
       rw [← hnx] at h
       refine qob (M:=fun ρ w=>asL (ρ 1) fun dist_1=>asL (ρ 0) fun lit_0=>asI .i64 (ρ 4) fun t4=>nx2 dist_1 lit_0 t4 w) ?_ (fun ρ w h=>?_)
       · skip
         refine qb e0 (qb (qa e1 rfl) (qb (qa (qa e4 rfl) rfl) ?_))
         refine qib qpb (fun ρ w=>asL (ρ 0) fun lit_0=>asL (ρ 1) fun dist_1=>asI .i64 (ρ 4) fun t4=>qu.j6 lit_0 dist_1 t4 Q nx2 w) (Eq.mp (by kernel_rfl) h) ?_
         intro ρ w h
         obtain ⟨lit_0,e0,h⟩:=qj h
         obtain ⟨dist_1,e1,h⟩:=qj h
         obtain ⟨t4,e4,h⟩:=qe h
         refine qb e0 (qb (qa e1 rfl) (qb (qa (qa e4 rfl) rfl) ?_))
         refine qr (fun ρ w=>asL (ρ 0) fun lit_0=>asL (ρ 1) fun dist_1=>asI .i64 (ρ 4) fun t4=>qu.j7 lit_0 dist_1 t4 Q nx2 w) ?_ ?_
         · skip
           refine qcb ?_
           refine qib qpb (fun ρ w=>asL (ρ 0) fun lit_0=>asL (ρ 1) fun dist_1=>asI .i64 (ρ 2) fun i_2=>asI .i64 (ρ 3) fun n_3=>asI .i64 (ρ 4) fun t4=>qu.j8 lit_0 dist_1 i_2 n_3 t4 Q nx2 w) (Eq.mp (by kernel_rfl) h) ?_
           intro ρ w h
           obtain ⟨lit_0,e0,h⟩:=qj h
           obtain ⟨dist_1,e1,h⟩:=qj h
           obtain ⟨i_2,e2,h⟩:=qe h
           obtain ⟨n_3,e3,h⟩:=qe h
           obtain ⟨t4,e4,h⟩:=qe h
           refine qb e0 (qb (qa e1 rfl) (qb (qa (qa e2 rfl) rfl) (qb (qa (qa (qa e3 rfl) rfl) rfl) (qb (qa (qa (qa (qa e4 rfl) rfl) rfl) rfl) ?_))))
           refine qr (fun ρ w=>asL (ρ 0) fun lit_0=>asL (ρ 1) fun dist_1=>asI .i64 (ρ 3) fun n_3=>asI .i64 (ρ 4) fun t4=>qu.j9 lit_0 dist_1 n_3 t4 Q nx2 w) ?_ ?_
           · skip
             refine qcb ?_
             refine qr (fun ρ w=>asL (ρ 0) fun lit_0=>asL (ρ 1) fun dist_1=>asI .i64 (ρ 2) fun i_2=>asI .i64 (ρ 3) fun n_3=>asI .i64 (ρ 4) fun t4=>asB (ρ 7) fun t7=>qu.j10 lit_0 dist_1 i_2 n_3 t4 t7 Q nx2 w) ?_ ?_
             · skip
               exact qg qpb _ (Eq.mp (by kernel_rfl) h)
             · intro ρ w h
               obtain ⟨lit_0,e0,h⟩:=qj h
               obtain ⟨dist_1,e1,h⟩:=qj h
               obtain ⟨i_2,e2,h⟩:=qe h
               obtain ⟨n_3,e3,h⟩:=qe h
               obtain ⟨t4,e4,h⟩:=qe h
               obtain ⟨t7,e7,h⟩:=qgd h
               refine qb e0 (qb (qa e1 rfl) (qb (qa (qa e2 rfl) rfl) (qb (qa (qa (qa e3 rfl) rfl) rfl) (qb (qa (qa (qa (qa e4 rfl) rfl) rfl) rfl) (qb (qa (qa (qa (qa (qa e7 rfl) rfl) rfl) rfl) rfl) ?_)))))
               exact qg qpb _ (Eq.mp (by kernel_rfl) h)
           · intro ρ w h
             obtain ⟨lit_0,e0,h⟩:=qj h
             obtain ⟨dist_1,e1,h⟩:=qj h
             obtain ⟨n_3,e3,h⟩:=qe h
             obtain ⟨t4,e4,h⟩:=qe h
             refine qb e0 (qb (qa e1 rfl) (qb (qa (qa e3 rfl) rfl) (qb (qa (qa (qa e4 rfl) rfl) rfl) ?_)))
             exact qg qpb _ (Eq.mp (by kernel_rfl) h)
         · intro ρ w h
           obtain ⟨lit_0,e0,h⟩:=qj h
           obtain ⟨dist_1,e1,h⟩:=qj h
           obtain ⟨t4,e4,h⟩:=qe h
           refine qb e0 (qb (qa e1 rfl) (qb (qa (qa e4 rfl) rfl) ?_))
           exact qg qpb _ (Eq.mp (by kernel_rfl) h)
       · skip
         obtain ⟨dist_1',e1',h⟩:=qj h
         obtain ⟨lit_0',e0',h⟩:=qj h
         obtain ⟨t4',e4',h⟩:=qe h
         rw [hnx] at h
         obtain ⟨hu,hI2,hμ⟩:=h
         obtain rfl:=hu
         exact ⟨(lit_0',t4'),⟨e0',e4',e1'⟩,hI2,hμ⟩
   · intro ρ w h
     obtain ⟨lit_0,e0,h⟩:=qj h
     obtain ⟨dist_1,e1,h⟩:=qj h
     refine qb e0 (qb (qa e1 rfl) ?_)
     refine qr (fun ρ w=>asL (ρ 0) fun lit_0=>asL (ρ 1) fun dist_1=>qu.j3 lit_0 dist_1 Q w) ?_ ?_
     · skip
       refine qr (fun ρ w=>asL (ρ 0) fun lit_0=>asL (ρ 1) fun dist_1=>asI .i64 (ρ 26) fun t26=>qu.j4 lit_0 dist_1 t26 Q w) ?_ ?_
       · skip
         exact qg qpb _ (Eq.mp (by kernel_rfl) h)
       · intro ρ w h
         obtain ⟨lit_0,e0,h⟩:=qj h
         obtain ⟨dist_1,e1,h⟩:=qj h
         obtain ⟨t26,e26,h⟩:=qe h
         refine qb e0 (qb (qa e1 rfl) (qb (qa (qa e26 rfl) rfl) ?_))
         refine qcb ?_
         obtain ⟨I,μ,hI,hr⟩:=h
         refine qhb (α:=Sl × Int) (fun s ρ=>ρ 1=.slice s.1.a s.1.len s.1.cap∧ρ 26=.int .i64 s.2∧ρ 0=.slice lit_0.a lit_0.len lit_0.cap) (fun s w=>I s.1 s.2 w) (fun s w=>μ s.1 s.2 w) (dist_1,t26) ⟨rfl,rfl,rfl⟩ hI ?_
         rintro ⟨dist_1,t26⟩ ρ w ⟨e1,e26,e0⟩ hI
         have h:=hr dist_1 t26 w hI
         clear hr
         obtain ⟨nx1,hnx⟩:∃ nx:Sl→Sl→Int→World→Prop,nx=(fun lit_0' dist_1' t26' w'=>(lit_0'=lit_0)∧I dist_1' t26' w'∧μ dist_1' t26' w' < μ dist_1 t26 w):=⟨_,rfl⟩
         rw [← hnx] at h
         refine qob (M:=fun ρ w=>asL (ρ 0) fun lit_0=>asL (ρ 1) fun dist_1=>asI .i64 (ρ 26) fun t26=>nx1 lit_0 dist_1 t26 w) ?_ (fun ρ w h=>?_)
         · skip
           refine qb e0 (qb (qa e1 rfl) (qb (qa (qa e26 rfl) rfl) ?_))
           exact qg qpb _ (Eq.mp (by kernel_rfl) h)
         · skip
           obtain ⟨lit_0',e0',h⟩:=qj h
           obtain ⟨dist_1',e1',h⟩:=qj h
           obtain ⟨t26',e26',h⟩:=qe h
           rw [hnx] at h
           obtain ⟨hu,hI2,hμ⟩:=h
           obtain rfl:=hu
           exact ⟨(dist_1',t26'),⟨e1',e26',e0'⟩,hI2,hμ⟩
     · intro ρ w h
       obtain ⟨lit_0,e0,h⟩:=qj h
       obtain ⟨dist_1,e1,h⟩:=qj h
       refine qb e0 (qb (qa e1 rfl) ?_)
       exact qg qpb _ (Eq.mp (by kernel_rfl) h)
def qbc.j2 (k_5:Int) (Q:VWP) (w:World):Prop :=
 (4:Int) ≠ 0 ∧
 lt (IntKind.i64.wrap (Int.tdiv k_5 4)) fun x1 =>
 lt (IntKind.i64.wrap (x1 - 1)) fun x2 =>
 (4:Int) ≠ 0 ∧
 lt (Int.tmod k_5 4) fun x3 =>
 lt (IntKind.i64.wrap (4+x3)) fun x4 =>
 (0:Int)≤x2 ∧
 lt (qej .i64 x4 x2) fun x5 =>
 lt (IntKind.i64.wrap (3+x5)) fun x6 =>
 Q (.tuple ⟨[.int .i64 x6,.int .i64 x2,.bool true]⟩) w
def qbc.j3 (sym_0 k_5:Int) (t8:Bool) (Q:VWP) (w:World):Prop :=
 br t8 (
 Q (.tuple ⟨[.int .i64 0,.int .i64 0,.bool false]⟩) w) (
 br ((sym_0:Int) == 285) (
 Q (.tuple ⟨[.int .i64 258,.int .i64 0,.bool true]⟩) w) (
 br (decide ((k_5:Int) < 8)) (
 lt (IntKind.i64.wrap (3+k_5)) fun x7 =>
 Q (.tuple ⟨[.int .i64 x7,.int .i64 0,.bool true]⟩) w) (
 qbc.j2 k_5 Q w)))
def qbc.j1 (sym_0 k_5:Int) (Q:VWP) (w:World):Prop :=
 br (decide ((sym_0:Int) < 257)) (
 qbc.j3 sym_0 k_5 true Q w) (
 qbc.j3 sym_0 k_5 (decide ((sym_0:Int) > 285)) Q w)
def qbc (sym_0:Int) (Q:VWP) (w:World):Prop :=
 lt (IntKind.i64.wrap (sym_0 - 257)) fun x8 =>
 qbc.j1 sym_0 x8 Q w
theorem qbc.ok (sym_0:Int) (Q:VWP) (w:World) (h:qbc sym_0 Q w):Calls Try.prog 159 ⟨[.int .i64 sym_0]⟩ w (Ret Q):=by
 refine qn [.tmp 2,.tmp 3,.tmp 4] Try.func159 rfl rfl rfl rfl ?_
 refine qib qpb (fun ρ w=>asI .i64 (ρ 0) fun sym_0=>asI .i64 (ρ 5) fun k_5=>qbc.j1 sym_0 k_5 Q w) (Eq.mp (by kernel_rfl) h) ?_
 intro ρ w h
 obtain ⟨sym_0,e0,h⟩:=qe h
 obtain ⟨k_5,e5,h⟩:=qe h
 refine qb e0 (qb (qa e5 rfl) ?_)
 refine qr (fun ρ w=>asI .i64 (ρ 5) fun k_5=>qbc.j2 k_5 Q w) ?_ ?_
 · skip
   refine qcb ?_
   refine qr (fun ρ w=>asI .i64 (ρ 0) fun sym_0=>asI .i64 (ρ 5) fun k_5=>asB (ρ 8) fun t8=>qbc.j3 sym_0 k_5 t8 Q w) ?_ ?_
   · skip
     exact qg qpb _ (Eq.mp (by kernel_rfl) h)
   · intro ρ w h
     obtain ⟨sym_0,e0,h⟩:=qe h
     obtain ⟨k_5,e5,h⟩:=qe h
     obtain ⟨t8,e8,h⟩:=qgd h
     refine qb e0 (qb (qa e5 rfl) (qb (qa (qa e8 rfl) rfl) ?_))
     exact qg qpb _ (Eq.mp (by kernel_rfl) h)
 · intro ρ w h
   obtain ⟨k_5,e5,h⟩:=qe h
   refine qb e5 ?_
   exact qg qpb _ (Eq.mp (by kernel_rfl) h)
def qyb.j2 (sym_0:Int) (Q:VWP) (w:World):Prop :=
 (2:Int) ≠ 0 ∧
 lt (IntKind.i64.wrap (Int.tdiv sym_0 2)) fun x1 =>
 lt (IntKind.i64.wrap (x1 - 1)) fun x2 =>
 (2:Int) ≠ 0 ∧
 lt (Int.tmod sym_0 2) fun x3 =>
 lt (IntKind.i64.wrap (2+x3)) fun x4 =>
 (0:Int)≤x2 ∧
 lt (qej .i64 x4 x2) fun x5 =>
 lt (IntKind.i64.wrap (1+x5)) fun x6 =>
 Q (.tuple ⟨[.int .i64 x6,.int .i64 x2,.bool true]⟩) w
def qyb.j3 (sym_0:Int) (t5:Bool) (Q:VWP) (w:World):Prop :=
 br t5 (
 Q (.tuple ⟨[.int .i64 0,.int .i64 0,.bool false]⟩) w) (
 br (decide ((sym_0:Int) < 4)) (
 lt (IntKind.i64.wrap (1+sym_0)) fun x7 =>
 Q (.tuple ⟨[.int .i64 x7,.int .i64 0,.bool true]⟩) w) (
 qyb.j2 sym_0 Q w))
def qyb.j1 (sym_0:Int) (Q:VWP) (w:World):Prop :=
 br (decide ((sym_0:Int) < 0)) (
 qyb.j3 sym_0 true Q w) (
 qyb.j3 sym_0 (decide ((sym_0:Int) ≥ 30)) Q w)
def qyb (sym_0:Int) (Q:VWP) (w:World):Prop :=
 qyb.j1 sym_0 Q w
theorem qyb.ok (sym_0:Int) (Q:VWP) (w:World) (h:qyb sym_0 Q w):Calls Try.prog 160 ⟨[.int .i64 sym_0]⟩ w (Ret Q):=by
 refine qn [.tmp 2,.tmp 3,.tmp 4] Try.func160 rfl rfl rfl rfl ?_
 refine qr (fun ρ w=>asI .i64 (ρ 0) fun sym_0=>qyb.j1 sym_0 Q w) ?_ ?_
 · skip
   exact qg qpb _ (Eq.mp (by kernel_rfl) h)
 · intro ρ w h
   obtain ⟨sym_0,e0,h⟩:=qe h
   refine qb e0 ?_
   refine qr (fun ρ w=>asI .i64 (ρ 0) fun sym_0=>qyb.j2 sym_0 Q w) ?_ ?_
   · skip
     refine qcb ?_
     refine qr (fun ρ w=>asI .i64 (ρ 0) fun sym_0=>asB (ρ 5) fun t5=>qyb.j3 sym_0 t5 Q w) ?_ ?_
     · skip
       exact qg qpb _ (Eq.mp (by kernel_rfl) h)
     · intro ρ w h
       obtain ⟨sym_0,e0,h⟩:=qe h
       obtain ⟨t5,e5,h⟩:=qgd h
       refine qb e0 (qb (qa e5 rfl) ?_)
       exact qg qpb _ (Eq.mp (by kernel_rfl) h)
   · intro ρ w h
     obtain ⟨sym_0,e0,h⟩:=qe h
     refine qb e0 ?_
     exact qg qpb _ (Eq.mp (by kernel_rfl) h)
def qqb (s_0:OAd) (err_1:Int) (Q:VWP) (w:World):Prop :=
 nz s_0 fun a1 =>
 ldI .i64 w (Addr.add a1 3) fun x2 =>
 br ((x2:Int) == 0) (
 nz s_0 fun a3 =>
 st w (Addr.add a3 3) (.int .i64 err_1) fun w4 =>
 Q (.tuple ⟨[]⟩) w4) (
 Q (.tuple ⟨[]⟩) w)
theorem qqb.ok (s_0:OAd) (err_1:Int) (Q:VWP) (w:World) (h:qqb s_0 err_1 Q w):Calls Try.prog 178 ⟨[.pointer s_0,.int .i64 err_1]⟩ w (Ret Q):=by
 refine qn [] Try.func178 rfl rfl rfl rfl ?_
 exact qg qpb _ (Eq.mp (by kernel_rfl) h)
def qvb (s_0:OAd) (n_1:Int) (Q:VWP) (w:World):Prop :=
 nz s_0 fun a1 =>
 ldI .i64 w (Addr.add a1 3) fun x2 =>
 br ((x2:Int) != 0) (
 Q (.int .i64 0) w) (
 nz s_0 fun a3 =>
 ldP w (Addr.add a3 0) fun x4 =>
 Calls Try.prog 52 ⟨[.pointer x4,.int .i64 n_1]⟩ w fun e5 w6 =>
 ∃ r7:Int,∃ r8:Bool,e5=.returned (.tuple ⟨[.int .i64 r7,.bool r8]⟩) ∧
 br (!r8) (
 Calls Try.prog 178 ⟨[.pointer s_0,.int .i64 3]⟩ w6 fun e9 w10 =>
 e9=.returned (.tuple ⟨[]⟩) ∧
 Q (.int .i64 r7) w10) (
 Q (.int .i64 r7) w6))
theorem qvb.ok (s_0:OAd) (n_1:Int) (Q:VWP) (w:World) (h:qvb s_0 n_1 Q w):Calls Try.prog 174 ⟨[.pointer s_0,.int .i64 n_1]⟩ w (Ret Q):=by
 refine qn [.tmp 4] Try.func174 rfl rfl rfl rfl ?_
 exact qg qpb _ (Eq.mp (by kernel_rfl) h)
def qmd (s_0:OAd) (b_1:Int) (Q:VWP) (w:World):Prop :=
 nz s_0 fun a1 =>
 ldI .i64 w (Addr.add a1 3) fun x2 =>
 br ((x2:Int) != 0) (
 Q (.tuple ⟨[]⟩) w) (
 lt (World.drew w) fun w3 =>
 nz s_0 fun a4 =>
 ldL w3 (Addr.add a4 1) fun x5 =>
 nz s_0 fun a6 =>
 ldI .i64 w3 (Addr.add a6 2) fun x7 =>
 br (decide ((((x5.len:Nat):Int):Int) ≥ x7)) (
 Calls Try.prog 178 ⟨[.pointer s_0,.int .i64 5]⟩ w3 fun e8 w9 =>
 e8=.returned (.tuple ⟨[]⟩) ∧
 Q (.tuple ⟨[]⟩) w9) (
 nz s_0 fun a10 =>
 ldL w3 (Addr.add a10 1) fun x11 =>
 lt (⟨World.heapSize w3,0,none⟩:Addr) fun a12 =>
 lt (World.alloc w3 (.cells ⟨[.int .u8 b_1]⟩ 5)) fun w13 =>
 rdO w13 (some a12) (1 * 1) fun c14 =>
 apK Try.prog 5 w13 x11.a x11.len x11.cap 1 c14 fun s15 w16 =>
 nz s_0 fun a17 =>
 st w16 (Addr.add a17 1) (.slice s15.a s15.len s15.cap) fun w18 =>
 Q (.tuple ⟨[]⟩) w18))
theorem qmd.ok (s_0:OAd) (b_1:Int) (Q:VWP) (w:World) (h:qmd s_0 b_1 Q w):Calls Try.prog 182 ⟨[.pointer s_0,.int .u8 b_1]⟩ w (Ret Q):=by
 refine qn [] Try.func182 rfl rfl rfl rfl ?_
 exact qg qpb _ (Eq.mp (by kernel_rfl) h)
def qnb.b1 (s_0:OAd) (t41:Int) (t42:Int) (Q:VWP) (nx1:OAd→Int→Int→World→Prop) (w:World):Prop :=
 br (decide ((t42:Int) < t41)) (
 Calls Try.prog 174 ⟨[.pointer s_0,.int .i64 8]⟩ w fun e1 w2 =>
 ∃ r3:Int,e1=.returned (.int .i64 r3) ∧
 lt (IntKind.u8.wrap r3) fun x4 =>
 Calls Try.prog 182 ⟨[.pointer s_0,.int .u8 x4]⟩ w2 fun e5 w6 =>
 e5=.returned (.tuple ⟨[]⟩) ∧
 lt (IntKind.i64.wrap (t42+1)) fun x7 =>
 nx1 s_0 t41 x7 w6) (
 Q (.tuple ⟨[]⟩) w)
def qnb.l1 (s_0:OAd) (t41:Int) (t42:Int) (Q:VWP) (w:World):Prop :=
 ∃ (I:Int→World→Prop) (μ:Int→World→Nat),I t42 w∧∀ t42:Int,∀ w:World,I t42 w→qnb.b1 s_0 t41 t42 Q (fun s_0' t41' t42' w'=>(s_0'=s_0∧t41'=t41)∧I t42' w'∧μ t42' w' < μ t42 w) w
def qnb.j2 (s_0:OAd) (t41:Int) (t42:Int) (Q:VWP) (w:World):Prop :=
 qnb.l1 s_0 t41 t42 Q w
def qnb.j1 (s_0:OAd) (n_2:Int) (m_3:Int) (Q:VWP) (w:World):Prop :=
 nz s_0 fun a8 =>
 ldI .i64 w (Addr.add a8 3) fun x9 =>
 br ((x9:Int) != 0) (
 Q (.tuple ⟨[]⟩) w) (
 lt (xorV .i64 n_2 m_3) fun x10 =>
 br ((x10:Int) != 65535) (
 Calls Try.prog 178 ⟨[.pointer s_0,.int .i64 2]⟩ w fun e11 w12 =>
 e11=.returned (.tuple ⟨[]⟩) ∧
 Q (.tuple ⟨[]⟩) w12) (
 lt (World.drew w) fun w13 =>
 nz s_0 fun a14 =>
 ldI .i64 w13 (Addr.add a14 2) fun x15 =>
 nz s_0 fun a16 =>
 ldL w13 (Addr.add a16 1) fun x17 =>
 lt (IntKind.i64.wrap (x15 - ((x17.len:Nat):Int))) fun x18 =>
 br (decide ((n_2:Int) > x18)) (
 Calls Try.prog 178 ⟨[.pointer s_0,.int .i64 5]⟩ w13 fun e19 w20 =>
 e19=.returned (.tuple ⟨[]⟩) ∧
 Q (.tuple ⟨[]⟩) w20) (
 qnb.j2 s_0 n_2 0 Q w13)))
def qnb (s_0:OAd) (Q:VWP) (w:World):Prop :=
 nz s_0 fun a21 =>
 ldP w (Addr.add a21 0) fun x22 =>
 Calls Try.prog 181 ⟨[.pointer x22]⟩ w fun e23 w24 =>
 e23=.returned (.tuple ⟨[]⟩) ∧
 Calls Try.prog 174 ⟨[.pointer s_0,.int .i64 16]⟩ w24 fun e25 w26 =>
 ∃ r27:Int,e25=.returned (.int .i64 r27) ∧
 Calls Try.prog 174 ⟨[.pointer s_0,.int .i64 16]⟩ w26 fun e28 w29 =>
 ∃ r30:Int,e28=.returned (.int .i64 r30) ∧
 qnb.j1 s_0 r27 r30 Q w29
theorem qnb.ok (s_0:OAd) (Q:VWP) (w:World) (h:qnb s_0 Q w):Calls Try.prog 175 ⟨[.pointer s_0]⟩ w (Ret Q):=by
 refine qn [] Try.func175 rfl rfl rfl rfl ?_
 refine qib qpb (fun ρ w=>asP (ρ 0) fun s_0=>asI .i64 (ρ 2) fun n_2=>asI .i64 (ρ 3) fun m_3=>qnb.j1 s_0 n_2 m_3 Q w) (Eq.mp (by kernel_rfl) h) ?_
 intro ρ w h
 obtain ⟨s_0,e0,h⟩:=qw h
 obtain ⟨n_2,e2,h⟩:=qe h
 obtain ⟨m_3,e3,h⟩:=qe h
 refine qb e0 (qb (qa e2 rfl) (qb (qa (qa e3 rfl) rfl) ?_))
 refine qib qpb (fun ρ w=>asP (ρ 0) fun s_0=>asI .i64 (ρ 41) fun t41=>asI .i64 (ρ 42) fun t42=>qnb.j2 s_0 t41 t42 Q w) (Eq.mp (by kernel_rfl) h) ?_
 intro ρ w h
 obtain ⟨s_0,e0,h⟩:=qw h
 obtain ⟨t41,e41,h⟩:=qe h
 obtain ⟨t42,e42,h⟩:=qe h
 refine qb e0 (qb (qa e41 rfl) (qb (qa (qa e42 rfl) rfl) ?_))
 refine qcb ?_
 obtain ⟨I,μ,hI,hr⟩:=h
 refine qhb (α:=Int) (fun s ρ=>ρ 42=.int .i64 s∧ρ 0=.pointer s_0∧ρ 41=.int .i64 t41) (fun s w=>I s w) (fun s w=>μ s w) t42 ⟨rfl,rfl,rfl⟩ hI ?_
 rintro t42 ρ w ⟨e42,e0,e41⟩ hI
 have h:=hr t42 w hI
 clear hr
 obtain ⟨nx1,hnx⟩:∃ nx:OAd→Int→Int→World→Prop,nx=(fun s_0' t41' t42' w'=>(s_0'=s_0∧t41'=t41)∧I t42' w'∧μ t42' w' < μ t42 w):=⟨_,rfl⟩
 rw [← hnx] at h
 refine qob (M:=fun ρ w=>asP (ρ 0) fun s_0=>asI .i64 (ρ 41) fun t41=>asI .i64 (ρ 42) fun t42=>nx1 s_0 t41 t42 w) ?_ (fun ρ w h=>?_)
 · skip
   refine qb e0 (qb (qa e41 rfl) (qb (qa (qa e42 rfl) rfl) ?_))
   exact qg qpb _ (Eq.mp (by kernel_rfl) h)
 · skip
   obtain ⟨s_0',e0',h⟩:=qw h
   obtain ⟨t41',e41',h⟩:=qe h
   obtain ⟨t42',e42',h⟩:=qe h
   rw [hnx] at h
   obtain ⟨hu,hI2,hμ⟩:=h
   obtain ⟨rfl,rfl⟩:=hu
   exact ⟨t42',⟨e42',e0',e41'⟩,hI2,hμ⟩
def qlc (s_0:OAd) (lens_1:Sl) (half_2:Bool) (Q:VWP) (w:World):Prop :=
 nz s_0 fun a1 =>
 ldI .i64 w (Addr.add a1 3) fun x2 =>
 br ((x2:Int) != 0) (
 Q (.pointer none) w) (
 Calls Try.prog 16 ⟨[.slice lens_1.a lens_1.len lens_1.cap,.bool half_2]⟩ w fun e3 w4 =>
 ∃ r5:OAd,∃ r6:Int,e3=.returned (.tuple ⟨[.pointer r5,.int .i64 r6]⟩) ∧
 br ((r6:Int) != 0) (
 Calls Try.prog 178 ⟨[.pointer s_0,.int .i64 2]⟩ w4 fun e7 w8 =>
 e7=.returned (.tuple ⟨[]⟩) ∧
 Q (.pointer r5) w8) (
 Q (.pointer r5) w4))
theorem qlc.ok (s_0:OAd) (lens_1:Sl) (half_2:Bool) (Q:VWP) (w:World) (h:qlc s_0 lens_1 half_2 Q w):Calls Try.prog 183 ⟨[.pointer s_0,.slice lens_1.a lens_1.len lens_1.cap,.bool half_2]⟩ w (Ret Q):=by
 refine qn [.tmp 6] Try.func183 rfl rfl rfl rfl ?_
 exact qg qpb _ (Eq.mp (by kernel_rfl) h)
def qld (s_0 cap1:OAd) (Q:VWP) (w:World):Prop :=
 nz s_0 fun a1 =>
 ldI .i64 w (Addr.add a1 3) fun x2 =>
 br ((x2:Int) != 0) (
 Q (.int .i64 0) w) (
 nz s_0 fun a3 =>
 ldP w (Addr.add a3 0) fun x4 =>
 Calls Try.prog 23 ⟨[.pointer cap1,.pointer x4]⟩ w fun e5 w6 =>
 ∃ r7:Int,∃ r8:Int,e5=.returned (.tuple ⟨[.int .i64 r7,.int .i64 r8]⟩) ∧
 Calls Try.prog 178 ⟨[.pointer s_0,.int .i64 r8]⟩ w6 fun e9 w10 =>
 e9=.returned (.tuple ⟨[]⟩) ∧
 Q (.int .i64 r7) w10)
theorem qld.ok (s_0:OAd) (cap1:OAd) (Q:VWP) (w:World) (h:qld s_0 cap1 Q w):Calls Try.prog 184 ⟨[.pointer s_0,.func (.func 23) ⟨[.pointer cap1]⟩ ⟨[]⟩]⟩ w (Ret Q):=by
 refine qn [.tmp 4] Try.func184 rfl rfl rfl rfl ?_
 exact qg qpb _ (Eq.mp (by kernel_rfl) h)
def qq.b1 (d_0:OAd) (t6:Int) (t9 t11:Int) (Q:VWP) (nx1:OAd→Int→Int→Int→World→Prop) (w:World):Prop :=
 br (decide ((t11:Int) < t6)) (
 nz d_0 fun a1 =>
 ldI .i64 w (Addr.add a1 3) fun x2 =>
 br ((x2:Int) == 0) (
 lt (World.drew w) fun w3 =>
 nz d_0 fun a4 =>
 ldL w3 (Addr.add a4 1) fun x5 =>
 nz d_0 fun a6 =>
 ldL w3 (Addr.add a6 1) fun x7 =>
 lt (IntKind.i64.wrap (((x7.len:Nat):Int) - t9)) fun x8 =>
 ixS x5.a x5.len x8 1 fun a9 =>
 ldI .u8 w3 a9 fun x10 =>
 Calls Try.prog 182 ⟨[.pointer d_0,.int .u8 x10]⟩ w3 fun e11 w12 =>
 e11=.returned (.tuple ⟨[]⟩) ∧
 lt (IntKind.i64.wrap (t11+1)) fun x13 =>
 nx1 d_0 t6 t9 x13 w12) (
 Q (.tuple ⟨[]⟩) w)) (
 Q (.tuple ⟨[]⟩) w)
def qq.l1 (d_0:OAd) (t6:Int) (t9 t11:Int) (Q:VWP) (w:World):Prop :=
 ∃ (I:Int→World→Prop) (μ:Int→World→Nat),I t11 w∧∀ t11:Int,∀ w:World,I t11 w→qq.b1 d_0 t6 t9 t11 Q (fun d_0' t6' t9' t11' w'=>(d_0'=d_0∧t6'=t6∧t9'=t9)∧I t11' w'∧μ t11' w' < μ t11 w) w
def qq.j5 (d_0:OAd) (t6:Int) (t9 t11:Int) (Q:VWP) (w:World):Prop :=
 qq.l1 d_0 t6 t9 t11 Q w
def qq.j4 (d_0:OAd) (t6:Int) (t9:Int) (Q:VWP) (w:World):Prop :=
 qq.j5 d_0 t6 t9 0 Q w
def qq.j3 (d_0:OAd) (t6:Int) (t9 t10:Int) (Q:VWP) (w:World):Prop :=
 Calls Try.prog 174 ⟨[.pointer d_0,.int .i64 t10]⟩ w fun e14 w15 =>
 ∃ r16:Int,e14=.returned (.int .i64 r16) ∧
 lt (IntKind.i64.wrap (t9+r16)) fun x17 =>
 nz d_0 fun a18 =>
 ldL w15 (Addr.add a18 1) fun x19 =>
 br (decide ((x17:Int) > ((x19.len:Nat):Int))) (
 Calls Try.prog 178 ⟨[.pointer d_0,.int .i64 2]⟩ w15 fun e20 w21 =>
 e20=.returned (.tuple ⟨[]⟩) ∧
 qq.j4 d_0 t6 x17 Q w21) (
 qq.j4 d_0 t6 x17 Q w15)
def qq.j2 (d_0 t2:OAd) (t6:Int) (Q:VWP) (w:World):Prop :=
 Calls Try.prog 184 ⟨[.pointer d_0,.func (.func 23) ⟨[.pointer t2]⟩ ⟨[]⟩]⟩ w fun e22 w23 =>
 ∃ r24:Int,e22=.returned (.int .i64 r24) ∧
 Calls Try.prog 160 ⟨[.int .i64 r24]⟩ w23 fun e25 w26 =>
 ∃ r27:Int,∃ r28:Int,∃ r29:Bool,e25=.returned (.tuple ⟨[.int .i64 r27,.int .i64 r28,.bool r29]⟩) ∧
 br (!r29) (
 Calls Try.prog 178 ⟨[.pointer d_0,.int .i64 2]⟩ w26 fun e30 w31 =>
 e30=.returned (.tuple ⟨[]⟩) ∧
 qq.j3 d_0 t6 r27 r28 Q w31) (
 qq.j3 d_0 t6 r27 r28 Q w26)
def qq.j1 (d_0 t2:OAd) (t6:Int) (t7:Int) (Q:VWP) (w:World):Prop :=
 Calls Try.prog 174 ⟨[.pointer d_0,.int .i64 t7]⟩ w fun e32 w33 =>
 ∃ r34:Int,e32=.returned (.int .i64 r34) ∧
 lt (IntKind.i64.wrap (t6+r34)) fun x35 =>
 qq.j2 d_0 t2 x35 Q w33
def qq (d_0:OAd) (i_1:Int) (cap2:OAd) (Q:VWP) (w:World):Prop :=
 Calls Try.prog 159 ⟨[.int .i64 i_1]⟩ w fun e36 w37 =>
 ∃ r38:Int,∃ r39:Int,∃ r40:Bool,e36=.returned (.tuple ⟨[.int .i64 r38,.int .i64 r39,.bool r40]⟩) ∧
 br (!r40) (
 Calls Try.prog 178 ⟨[.pointer d_0,.int .i64 2]⟩ w37 fun e41 w42 =>
 e41=.returned (.tuple ⟨[]⟩) ∧
 qq.j1 d_0 cap2 r38 r39 Q w42) (
 qq.j1 d_0 cap2 r38 r39 Q w37)
theorem qq.ok (d_0:OAd) (i_1:Int) (cap2:OAd) (Q:VWP) (w:World) (h:qq d_0 i_1 cap2 Q w):Calls Try.prog 185 ⟨[.pointer d_0,.int .i64 i_1,.func (.func 23) ⟨[.pointer cap2]⟩ ⟨[]⟩]⟩ w (Ret Q):=by
 refine qn [] Try.func185 rfl rfl rfl rfl ?_
 refine qib qpb (fun ρ w=>asP (ρ 0) fun d_0=>asC1 23 (ρ 2) fun t2=>asI .i64 (ρ 6) fun t6=>asI .i64 (ρ 7) fun t7=>qq.j1 d_0 t2 t6 t7 Q w) (Eq.mp (by kernel_rfl) h) ?_
 intro ρ w h
 obtain ⟨d_0,e0,h⟩:=qw h
 obtain ⟨t2,e2,h⟩:=qpo h
 obtain ⟨t6,e6,h⟩:=qe h
 obtain ⟨t7,e7,h⟩:=qe h
 refine qb e0 (qb (qa e2 rfl) (qb (qa (qa e6 rfl) rfl) (qb (qa (qa (qa e7 rfl) rfl) rfl) ?_)))
 refine qr (fun ρ w=>asP (ρ 0) fun d_0=>asC1 23 (ρ 2) fun t2=>asI .i64 (ρ 6) fun t6=>qq.j2 d_0 t2 t6 Q w) ?_ ?_
 · skip
   exact qg qpb _ (Eq.mp (by kernel_rfl) h)
 · intro ρ w h
   obtain ⟨d_0,e0,h⟩:=qw h
   obtain ⟨t2,e2,h⟩:=qpo h
   obtain ⟨t6,e6,h⟩:=qe h
   refine qb e0 (qb (qa e2 rfl) (qb (qa (qa e6 rfl) rfl) ?_))
   refine qib qpb (fun ρ w=>asP (ρ 0) fun d_0=>asI .i64 (ρ 6) fun t6=>asI .i64 (ρ 9) fun t9=>asI .i64 (ρ 10) fun t10=>qq.j3 d_0 t6 t9 t10 Q w) (Eq.mp (by kernel_rfl) h) ?_
   intro ρ w h
   obtain ⟨d_0,e0,h⟩:=qw h
   obtain ⟨t6,e6,h⟩:=qe h
   obtain ⟨t9,e9,h⟩:=qe h
   obtain ⟨t10,e10,h⟩:=qe h
   refine qb e0 (qb (qa e6 rfl) (qb (qa (qa e9 rfl) rfl) (qb (qa (qa (qa e10 rfl) rfl) rfl) ?_)))
   refine qib qpb (fun ρ w=>asP (ρ 0) fun d_0=>asI .i64 (ρ 6) fun t6=>asI .i64 (ρ 9) fun t9=>qq.j4 d_0 t6 t9 Q w) (Eq.mp (by kernel_rfl) h) ?_
   intro ρ w h
   obtain ⟨d_0,e0,h⟩:=qw h
   obtain ⟨t6,e6,h⟩:=qe h
   obtain ⟨t9,e9,h⟩:=qe h
   refine qb e0 (qb (qa e6 rfl) (qb (qa (qa e9 rfl) rfl) ?_))
   refine qr (fun ρ w=>asP (ρ 0) fun d_0=>asI .i64 (ρ 6) fun t6=>asI .i64 (ρ 9) fun t9=>asI .i64 (ρ 11) fun t11=>qq.j5 d_0 t6 t9 t11 Q w) ?_ ?_
   · skip
     exact qg qpb _ (Eq.mp (by kernel_rfl) h)
   · intro ρ w h
     obtain ⟨d_0,e0,h⟩:=qw h
     obtain ⟨t6,e6,h⟩:=qe h
     obtain ⟨t9,e9,h⟩:=qe h
     obtain ⟨t11,e11,h⟩:=qe h
     refine qb e0 (qb (qa e6 rfl) (qb (qa (qa e9 rfl) rfl) (qb (qa (qa (qa e11 rfl) rfl) rfl) ?_)))
     refine qcb ?_
     obtain ⟨I,μ,hI,hr⟩:=h
     refine qhb (α:=Int) (fun s ρ=>ρ 11=.int .i64 s∧ρ 0=.pointer d_0∧ρ 6=.int .i64 t6∧ρ 9=.int .i64 t9) (fun s w=>I s w) (fun s w=>μ s w) t11 ⟨rfl,rfl,rfl,rfl⟩ hI ?_
     rintro t11 ρ w ⟨e11,e0,e6,e9⟩ hI
     have h:=hr t11 w hI
     clear hr
     obtain ⟨nx1,hnx⟩:∃ nx:OAd→Int→Int→Int→World→Prop,nx=(fun d_0' t6' t9' t11' w'=>(d_0'=d_0∧t6'=t6∧t9'=t9)∧I t11' w'∧μ t11' w' < μ t11 w):=⟨_,rfl⟩
     rw [← hnx] at h
     refine qob (M:=fun ρ w=>asP (ρ 0) fun d_0=>asI .i64 (ρ 6) fun t6=>asI .i64 (ρ 9) fun t9=>asI .i64 (ρ 11) fun t11=>nx1 d_0 t6 t9 t11 w) ?_ (fun ρ w h=>?_)
     · skip
       refine qb e0 (qb (qa e6 rfl) (qb (qa (qa e9 rfl) rfl) (qb (qa (qa (qa e11 rfl) rfl) rfl) ?_)))
       exact qg qpb _ (Eq.mp (by kernel_rfl) h)
     · skip
       obtain ⟨d_0',e0',h⟩:=qw h
       obtain ⟨t6',e6',h⟩:=qe h
       obtain ⟨t9',e9',h⟩:=qe h
       obtain ⟨t11',e11',h⟩:=qe h
       rw [hnx] at h
       obtain ⟨hu,hI2,hμ⟩:=h
       obtain ⟨rfl,rfl,rfl⟩:=hu
       exact ⟨t11',⟨e11',e0',e6',e9'⟩,hI2,hμ⟩
def qp.j5 (s_0 a_6 b_7:OAd) (v_8:Int) (t47:Bool) (Q:VWP) (nx1:OAd→OAd→OAd→World→Prop) (w:World):Prop :=
 br t47 (
 Q (.tuple ⟨[]⟩) w) (
 br (decide ((v_8:Int) < 256)) (
 lt (IntKind.u8.wrap v_8) fun x1 =>
 Calls Try.prog 182 ⟨[.pointer s_0,.int .u8 x1]⟩ w fun e2 w3 =>
 e2=.returned (.tuple ⟨[]⟩) ∧
 nx1 s_0 a_6 b_7 w3) (
 Calls Try.prog 185 ⟨[.pointer s_0,.int .i64 v_8,.func (.func 23) ⟨[.pointer b_7]⟩ ⟨[]⟩]⟩ w fun e4 w5 =>
 e4=.returned (.tuple ⟨[]⟩) ∧
 nx1 s_0 a_6 b_7 w5))
def qp.j4 (s_0 a_6 b_7:OAd) (v_8:Int) (Q:VWP) (nx1:OAd→OAd→OAd→World→Prop) (w:World):Prop :=
 nz s_0 fun a6 =>
 ldI .i64 w (Addr.add a6 3) fun x7 =>
 br ((x7:Int) != 0) (
 qp.j5 s_0 a_6 b_7 v_8 true Q nx1 w) (
 qp.j5 s_0 a_6 b_7 v_8 ((v_8:Int) == 256) Q nx1 w)
def qp.j3 (s_0 a_6 b_7:OAd) (Q:VWP) (nx1:OAd→OAd→OAd→World→Prop) (w:World):Prop :=
 Calls Try.prog 184 ⟨[.pointer s_0,.func (.func 23) ⟨[.pointer a_6]⟩ ⟨[]⟩]⟩ w fun e8 w9 =>
 ∃ r10:Int,e8=.returned (.int .i64 r10) ∧
 qp.j4 s_0 a_6 b_7 r10 Q nx1 w9
def qp.b1 (s_0 a_6 b_7:OAd) (Q:VWP) (nx1:OAd→OAd→OAd→World→Prop) (w:World):Prop :=
 nz s_0 fun a11 =>
 ldI .i64 w (Addr.add a11 3) fun x12 =>
 br ((x12:Int) == 0) (
 qp.j3 s_0 a_6 b_7 Q nx1 w) (
 Q (.tuple ⟨[]⟩) w)
def qp.l1 (s_0 a_6 b_7:OAd) (Q:VWP) (w:World):Prop :=
 ∃ (I:World→Prop) (μ:World→Nat),I  w∧∀ w:World,I  w→qp.b1 s_0 a_6 b_7 Q (fun s_0' a_6' b_7' w'=>(s_0'=s_0∧a_6'=a_6∧b_7'=b_7)∧I  w'∧μ  w' < μ  w) w
def qp.j2 (s_0 a_6 b_7:OAd) (Q:VWP) (w:World):Prop :=
 qp.l1 s_0 a_6 b_7 Q w
def qp.j1 (s_0:OAd) (lit_1:Sl) (dist_2:Sl) (Q:VWP) (w:World):Prop :=
 Calls Try.prog 183 ⟨[.pointer s_0,.slice lit_1.a lit_1.len lit_1.cap,.bool true]⟩ w fun e13 w14 =>
 ∃ r15:OAd,e13=.returned (.pointer r15) ∧
 Calls Try.prog 183 ⟨[.pointer s_0,.slice dist_2.a dist_2.len dist_2.cap,.bool true]⟩ w14 fun e16 w17 =>
 ∃ r18:OAd,e16=.returned (.pointer r18) ∧
 nz s_0 fun a19 =>
 ldI .i64 w17 (Addr.add a19 3) fun x20 =>
 br ((x20:Int) != 0) (
 Q (.tuple ⟨[]⟩) w17) (
 qp.j2 s_0 r15 r18 Q w17)
def qp (s_0:OAd) (lit_1:Sl) (dist_2:Sl) (Q:VWP) (w:World):Prop :=
 nz s_0 fun a21 =>
 ldI .i64 w (Addr.add a21 3) fun x22 =>
 br ((x22:Int) == 0) (
 ixS lit_1.a lit_1.len 256 1 fun a23 =>
 ldI .i64 w a23 fun x24 =>
 br ((x24:Int) == 0) (
 Calls Try.prog 178 ⟨[.pointer s_0,.int .i64 2]⟩ w fun e25 w26 =>
 e25=.returned (.tuple ⟨[]⟩) ∧
 qp.j1 s_0 lit_1 dist_2 Q w26) (
 qp.j1 s_0 lit_1 dist_2 Q w)) (
 qp.j1 s_0 lit_1 dist_2 Q w)
theorem qp.ok (s_0:OAd) (lit_1:Sl) (dist_2:Sl) (Q:VWP) (w:World) (h:qp s_0 lit_1 dist_2 Q w):Calls Try.prog 176 ⟨[.pointer s_0,.slice lit_1.a lit_1.len lit_1.cap,.slice dist_2.a dist_2.len dist_2.cap]⟩ w (Ret Q):=by
 refine qn [] Try.func176 rfl rfl rfl rfl ?_
 refine qr (fun ρ w=>asP (ρ 0) fun s_0=>asL (ρ 1) fun lit_1=>asL (ρ 2) fun dist_2=>qp.j1 s_0 lit_1 dist_2 Q w) ?_ ?_
 · skip
   exact qg qpb _ (Eq.mp (by kernel_rfl) h)
 · intro ρ w h
   obtain ⟨s_0,e0,h⟩:=qw h
   obtain ⟨lit_1,e1,h⟩:=qj h
   obtain ⟨dist_2,e2,h⟩:=qj h
   refine qb e0 (qb (qa e1 rfl) (qb (qa (qa e2 rfl) rfl) ?_))
   refine qib qpb (fun ρ w=>asP (ρ 0) fun s_0=>asP (ρ 6) fun a_6=>asP (ρ 7) fun b_7=>qp.j2 s_0 a_6 b_7 Q w) (Eq.mp (by kernel_rfl) h) ?_
   intro ρ w h
   obtain ⟨s_0,e0,h⟩:=qw h
   obtain ⟨a_6,e6,h⟩:=qw h
   obtain ⟨b_7,e7,h⟩:=qw h
   refine qb e0 (qb (qa e6 rfl) (qb (qa (qa e7 rfl) rfl) ?_))
   refine qcb ?_
   obtain ⟨I,μ,hI,hr⟩:=h
   refine qhb (α:=Unit) (fun s ρ=>ρ 0=.pointer s_0∧ρ 6=.pointer a_6∧ρ 7=.pointer b_7) (fun s w=>I  w) (fun s w=>μ  w) () ⟨rfl,rfl,rfl⟩ hI ?_
   rintro ⟨⟩ ρ w ⟨e0,e6,e7⟩ hI
   have h:=hr  w hI
   clear hr
   obtain ⟨nx1,hnx⟩:∃ nx:OAd→OAd→OAd→World→Prop,nx=(fun s_0' a_6' b_7' w'=>(s_0'=s_0∧a_6'=a_6∧b_7'=b_7)∧I  w'∧μ  w' < μ  w):=⟨_,rfl⟩
   rw [← hnx] at h
   refine qob (M:=fun ρ w=>asP (ρ 0) fun s_0=>asP (ρ 6) fun a_6=>asP (ρ 7) fun b_7=>nx1 s_0 a_6 b_7 w) ?_ (fun ρ w h=>?_)
   · skip
     refine qb e0 (qb (qa e6 rfl) (qb (qa (qa e7 rfl) rfl) ?_))
     refine qr (fun ρ w=>asP (ρ 0) fun s_0=>asP (ρ 6) fun a_6=>asP (ρ 7) fun b_7=>qp.j3 s_0 a_6 b_7 Q nx1 w) ?_ ?_
     · skip
       exact qg qpb _ (Eq.mp (by kernel_rfl) h)
     · intro ρ w h
       obtain ⟨s_0,e0,h⟩:=qw h
       obtain ⟨a_6,e6,h⟩:=qw h
       obtain ⟨b_7,e7,h⟩:=qw h
       refine qb e0 (qb (qa e6 rfl) (qb (qa (qa e7 rfl) rfl) ?_))
       refine qcb ?_
       refine qr (fun ρ w=>asP (ρ 0) fun s_0=>asP (ρ 6) fun a_6=>asP (ρ 7) fun b_7=>asI .i64 (ρ 8) fun v_8=>qp.j4 s_0 a_6 b_7 v_8 Q nx1 w) ?_ ?_
       · skip
         exact qg qpb _ (Eq.mp (by kernel_rfl) h)
       · intro ρ w h
         obtain ⟨s_0,e0,h⟩:=qw h
         obtain ⟨a_6,e6,h⟩:=qw h
         obtain ⟨b_7,e7,h⟩:=qw h
         obtain ⟨v_8,e8,h⟩:=qe h
         refine qb e0 (qb (qa e6 rfl) (qb (qa (qa e7 rfl) rfl) (qb (qa (qa (qa e8 rfl) rfl) rfl) ?_)))
         refine qcb ?_
         refine qr (fun ρ w=>asP (ρ 0) fun s_0=>asP (ρ 6) fun a_6=>asP (ρ 7) fun b_7=>asI .i64 (ρ 8) fun v_8=>asB (ρ 47) fun t47=>qp.j5 s_0 a_6 b_7 v_8 t47 Q nx1 w) ?_ ?_
         · skip
           exact qg qpb _ (Eq.mp (by kernel_rfl) h)
         · intro ρ w h
           obtain ⟨s_0,e0,h⟩:=qw h
           obtain ⟨a_6,e6,h⟩:=qw h
           obtain ⟨b_7,e7,h⟩:=qw h
           obtain ⟨v_8,e8,h⟩:=qe h
           obtain ⟨t47,e47,h⟩:=qgd h
           refine qb e0 (qb (qa e6 rfl) (qb (qa (qa e7 rfl) rfl) (qb (qa (qa (qa e8 rfl) rfl) rfl) (qb (qa (qa (qa (qa e47 rfl) rfl) rfl) rfl) ?_))))
           exact qg qpb _ (Eq.mp (by kernel_rfl) h)
   · skip
     obtain ⟨s_0',e0',h⟩:=qw h
     obtain ⟨a_6',e6',h⟩:=qw h
     obtain ⟨b_7',e7',h⟩:=qw h
     rw [hnx] at h
     obtain ⟨hu,hI2,hμ⟩:=h
     obtain ⟨rfl,rfl,rfl⟩:=hu
     exact ⟨(),⟨e0',e6',e7'⟩,hI2,hμ⟩
def qud (s_0:OAd) (Q:VWP) (w:World):Prop :=
 Calls Try.prog 174 ⟨[.pointer s_0,.int .i64 1]⟩ w fun e1 w2 =>
 ∃ r3:Int,e1=.returned (.int .i64 r3) ∧
 Calls Try.prog 174 ⟨[.pointer s_0,.int .i64 2]⟩ w2 fun e4 w5 =>
 ∃ r6:Int,e4=.returned (.int .i64 r6) ∧
 nz s_0 fun a7 =>
 ldI .i64 w5 (Addr.add a7 3) fun x8 =>
 br ((x8:Int) != 0) (
 Q (.bool false) w5) (
 br ((r6:Int) == 0) (
 Calls Try.prog 175 ⟨[.pointer s_0]⟩ w5 fun e9 w10 =>
 e9=.returned (.tuple ⟨[]⟩) ∧
 Q (.bool ((r3:Int) == 1)) w10) (
 br ((r6:Int) == 1) (
 Calls Try.prog 126 ⟨[]⟩ w5 fun e11 w12 =>
 ∃ r13:Sl,∃ r14:Sl,e11=.returned (.tuple ⟨[.slice r13.a r13.len r13.cap,.slice r14.a r14.len r14.cap]⟩) ∧
 Calls Try.prog 176 ⟨[.pointer s_0,.slice r13.a r13.len r13.cap,.slice r14.a r14.len r14.cap]⟩ w12 fun e15 w16 =>
 e15=.returned (.tuple ⟨[]⟩) ∧
 Q (.bool ((r3:Int) == 1)) w16) (
 br ((r6:Int) == 2) (
 Calls Try.prog 177 ⟨[.pointer s_0]⟩ w5 fun e17 w18 =>
 ∃ r19:Sl,∃ r20:Sl,e17=.returned (.tuple ⟨[.slice r19.a r19.len r19.cap,.slice r20.a r20.len r20.cap]⟩) ∧
 Calls Try.prog 176 ⟨[.pointer s_0,.slice r19.a r19.len r19.cap,.slice r20.a r20.len r20.cap]⟩ w18 fun e21 w22 =>
 e21=.returned (.tuple ⟨[]⟩) ∧
 Q (.bool ((r3:Int) == 1)) w22) (
 Calls Try.prog 178 ⟨[.pointer s_0,.int .i64 2]⟩ w5 fun e23 w24 =>
 e23=.returned (.tuple ⟨[]⟩) ∧
 Q (.bool ((r3:Int) == 1)) w24))))
theorem qud.ok (s_0:OAd) (Q:VWP) (w:World) (h:qud s_0 Q w):Calls Try.prog 156 ⟨[.pointer s_0]⟩ w (Ret Q):=by
 refine qn [.tmp 2] Try.func156 rfl rfl rfl rfl ?_
 exact qg qpb _ (Eq.mp (by kernel_rfl) h)
def qmb.j3 (s_7:OAd) (Q:VWP) (w:World):Prop :=
 lt (World.drew w) fun w1 =>
 nz s_7 fun a2 =>
 ldL w1 (Addr.add a2 1) fun x3 =>
 nz s_7 fun a4 =>
 (Calls Try.prog 51 ⟨[.slice x3.a x3.len x3.cap]⟩ w1 fun e5 w6 =>
 ∃ r7:Sl,e5=.returned (.slice r7.a r7.len r7.cap) ∧
 ldP w6 (Addr.add a4 0) fun x8 =>
 Calls Try.prog 157 ⟨[.pointer x8]⟩ w6 fun e9 w10 =>
 ∃ r11:Int,e9=.returned (.int .i64 r11) ∧
 Q (.tuple ⟨[.slice r7.a r7.len r7.cap,.int .i64 r11,.int .i64 0]⟩) w10)∧(
 ldP w1 (Addr.add a4 0) fun x12 =>
 Calls Try.prog 51 ⟨[.slice x3.a x3.len x3.cap]⟩ w1 fun e13 w14 =>
 ∃ r15:Sl,e13=.returned (.slice r15.a r15.len r15.cap) ∧
 Calls Try.prog 157 ⟨[.pointer x12]⟩ w14 fun e16 w17 =>
 ∃ r18:Int,e16=.returned (.int .i64 r18) ∧
 Q (.tuple ⟨[.slice r15.a r15.len r15.cap,.int .i64 r18,.int .i64 0]⟩) w17)
def qmb.b1 (s_7:OAd) (last_8:Bool) (Q:VWP) (nx1:OAd→Bool→World→Prop) (w:World):Prop :=
 br (!last_8) (
 Calls Try.prog 156 ⟨[.pointer s_7]⟩ w fun e19 w20 =>
 ∃ r21:Bool,e19=.returned (.bool r21) ∧
 nz s_7 fun a22 =>
 ldI .i64 w20 (Addr.add a22 3) fun x23 =>
 br ((x23:Int) != 0) (
 lt (World.drew w20) fun w24 =>
 nz s_7 fun a25 =>
 ldI .i64 w24 (Addr.add a25 3) fun x26 =>
 Q (.tuple ⟨[.slice none 0 0,.int .i64 0,.int .i64 x26]⟩) w24) (
 nx1 s_7 r21 w20)) (
 qmb.j3 s_7 Q w)
def qmb.l1 (s_7:OAd) (last_8:Bool) (Q:VWP) (w:World):Prop :=
 ∃ (I:Bool→World→Prop) (μ:Bool→World→Nat),I last_8 w∧∀ last_8:Bool,∀ w:World,I last_8 w→qmb.b1 s_7 last_8 Q (fun s_7' last_8' w'=>(s_7'=s_7)∧I last_8' w'∧μ last_8' w' < μ last_8 w) w
def qmb.j4 (s_7:OAd) (last_8:Bool) (Q:VWP) (w:World):Prop :=
 qmb.l1 s_7 last_8 Q w
def qmb.j2 (s_7:OAd) (Q:VWP) (w:World):Prop :=
 qmb.j4 s_7 false Q w
def qmb.j1 (b_0:Sl) (most_1:Int) (Q:VWP) (w:World):Prop :=
 br (decide ((most_1:Int) < 0)) (
 Q (.tuple ⟨[.slice none 0 0,.int .i64 0,.int .i64 1]⟩) w) (
 br (decide ((most_1:Int) > 262144)) (
 Q (.tuple ⟨[.slice none 0 0,.int .i64 0,.int .i64 1]⟩) w) (
 Calls Try.prog 21 ⟨[.slice b_0.a b_0.len b_0.cap]⟩ w fun e27 w28 =>
 ∃ r29:OAd,e27=.returned (.pointer r29) ∧
 lt (⟨World.heapSize w28,0,none⟩:Addr) fun a30 =>
 lt (World.alloc w28 (.cells (⟨[.pointer r29,.slice none 0 0,.int .i64 most_1,.int .i64 0]⟩:Array Value) 219)) fun w31 =>
 qmb.j2 (some a30) Q w31))
def qmb (b_0:Sl) (most_1:Int) (Q:VWP) (w:World):Prop :=
 qmb.j1 b_0 most_1 Q w
theorem qmb.ok (b_0:Sl) (most_1:Int) (Q:VWP) (w:World) (h:qmb b_0 most_1 Q w):Calls Try.prog 119 ⟨[.slice b_0.a b_0.len b_0.cap,.int .i64 most_1]⟩ w (Ret Q):=by
 refine qn [.tmp 4,.tmp 5,.tmp 6] Try.func119 rfl rfl rfl rfl ?_
 refine qr (fun ρ w=>asL (ρ 0) fun b_0=>asI .i64 (ρ 1) fun most_1=>qmb.j1 b_0 most_1 Q w) ?_ ?_
 · skip
   exact qg qpb _ (Eq.mp (by kernel_rfl) h)
 · intro ρ w h
   obtain ⟨b_0,e0,h⟩:=qj h
   obtain ⟨most_1,e1,h⟩:=qe h
   refine qb e0 (qb (qa e1 rfl) ?_)
   refine qib qpb (fun ρ w=>asP (ρ 7) fun s_7=>qmb.j2 s_7 Q w) (Eq.mp (by kernel_rfl) h) ?_
   intro ρ w h
   obtain ⟨s_7,e7,h⟩:=qw h
   refine qb e7 ?_
   refine qr (fun ρ w=>asP (ρ 7) fun s_7=>qmb.j3 s_7 Q w) ?_ ?_
   · skip
     refine qr (fun ρ w=>asP (ρ 7) fun s_7=>asB (ρ 8) fun last_8=>qmb.j4 s_7 last_8 Q w) ?_ ?_
     · skip
       exact qg qpb _ (Eq.mp (by kernel_rfl) h)
     · intro ρ w h
       obtain ⟨s_7,e7,h⟩:=qw h
       obtain ⟨last_8,e8,h⟩:=qgd h
       refine qb e7 (qb (qa e8 rfl) ?_)
       refine qcb ?_
       obtain ⟨I,μ,hI,hr⟩:=h
       refine qhb (α:=Bool) (fun s ρ=>ρ 8=.bool s∧ρ 7=.pointer s_7) (fun s w=>I s w) (fun s w=>μ s w) last_8 ⟨rfl,rfl⟩ hI ?_
       rintro last_8 ρ w ⟨e8,e7⟩ hI
       have h:=hr last_8 w hI
       clear hr
       obtain ⟨nx1,hnx⟩:∃ nx:OAd→Bool→World→Prop,nx=(fun s_7' last_8' w'=>(s_7'=s_7)∧I last_8' w'∧μ last_8' w' < μ last_8 w):=⟨_,rfl⟩
       rw [← hnx] at h
       refine qob (M:=fun ρ w=>asP (ρ 7) fun s_7=>asB (ρ 8) fun last_8=>nx1 s_7 last_8 w) ?_ (fun ρ w h=>?_)
       · skip
         refine qb e7 (qb (qa e8 rfl) ?_)
         exact qg qpb _ (Eq.mp (by kernel_rfl) h)
       · skip
         obtain ⟨s_7',e7',h⟩:=qw h
         obtain ⟨last_8',e8',h⟩:=qgd h
         rw [hnx] at h
         obtain ⟨hu,hI2,hμ⟩:=h
         obtain rfl:=hu
         exact ⟨last_8',⟨e8',e7'⟩,hI2,hμ⟩
   · intro ρ w h
     obtain ⟨s_7,e7,h⟩:=qw h
     refine qb e7 ?_
     exact qg qpb _ (Eq.mp (by kernel_rfl) h)
end Go.Proofs.Ythdmmmfgjmmelaa
namespace Go.Proofs.Ythdmmmfgjmmelaa
open Go Go.Proofs
set_option linter.unusedVariables false
set_option linter.unusedSimpArgs false
attribute [local irreducible] apK cpK mkK br
def ztA (sb rb V N:Nat) (most:Int) (z:Z):As:=exA fun o:Sl=>andA (qxc sb [.pointer (some ⟨rb,0,none⟩),.slice o.a o.len o.cap,.int .i64 most,.int .i64 z.2.2]) (andA (bitA rb (V,N,z.1)) (qdc 1 o (u8s z.2.1)))
section
variable {F0:List Nat} {w0 w:World} {ps rest:List As} {sb rb V N:Nat} {most:Int} {z:Z}
theorem qvo (h:St F0 w0 w (ztA sb rb V N most z :: ps)):∃ o:Sl,St F0 w0 w (qxc sb [.pointer (some ⟨rb,0,none⟩),.slice o.a o.len o.cap,.int .i64 most,.int .i64 z.2.2] :: bitA rb (V,N,z.1) :: qdc 1 o (u8s z.2.1) :: ps):=by
 unfold ztA at h
 obtain ⟨o,h⟩:=h.exE
 exact ⟨o,h.split.tail fun _ _ _ h=>h.split⟩
theorem zt_c {o:Sl} {p:Nat} {out:List Int} {err:Int} (h:St F0 w0 w (qxc sb [.pointer (some ⟨rb,0,none⟩),.slice o.a o.len o.cap,.int .i64 most,.int .i64 err] :: bitA rb (V,N,p) :: qdc 1 o (u8s out) :: ps)):St F0 w0 w (ztA sb rb V N most (p,out,err) :: ps):=by
 unfold ztA
 exact St.exI o (St.join (h.tail fun _ _ _ h=>h.join))
theorem qbc.c {v:Int} {K:Ending→World→Prop} (h:St F0 w0 w ps) (hk:K (.returned (.tuple ⟨[.int .i64 (quh v).1,.int .i64 (quh v).2.1,.bool (quh v).2.2]⟩)) w) :
 Calls Try.prog 159 ⟨[.int .i64 v]⟩ w K:=by
 refine qoc (qbc.ok _ _ _ ?_)
 unfold qbc qbc.j1 quh at *
 refine qcj ?_
 refine qzc (fun g=>?_) (fun g=>?_)
 · rw [if_pos (Or.inl g)] at hk
   unfold qbc.j3
   exact qnm hk
 unfold qbc.j3
 refine qzc (fun g2=>?_) (fun g2=>?_)
 · rw [if_pos (Or.inr g2)] at hk
   exact hk
 rw [if_neg (by omega)] at hk
 rw [qk (by omega) (by omega)]
 refine qpf (fun g3=>?_) (fun g3=>?_)
 · rw [if_pos (by simpa using g3)] at hk
   exact hk
 rw [if_neg (by simpa using g3)] at hk
 refine qzc (fun g4=>?_) (fun g4=>?_)
 · rw [if_pos g4] at hk
   exact qy (qk (by omega) (by omega)) hk
 rw [if_neg g4] at hk
 unfold qbc.j2
 obtain ⟨k,rfl⟩:∃ k:Nat,v=257+k:=⟨(v - 257).toNat,by omega⟩
 have e0:(257+(k:Int)) - 257=k:=by omega
 rw [e0] at g4 hk ⊢
 have hk27:k≤28:=by omega
 refine ⟨by decide,?_⟩
 refine qy (show IntKind.i64.wrap (Int.tdiv (k:Int) 4)=((k / 4:Nat):Int) by rw [show Int.tdiv (k:Int) 4=((k / 4:Nat):Int) from rfl,qk (by omega) (by omega)]) ?_
 refine qy (show IntKind.i64.wrap (((k / 4:Nat):Int) - 1)=((k / 4 - 1:Nat):Int) by rw [qk (by omega) (by omega)]; omega) ?_
 refine ⟨by decide,?_⟩
 refine qy (show Int.tmod (k:Int) 4=((k % 4:Nat):Int) from rfl) ?_
 refine qy (show IntKind.i64.wrap (4+((k % 4:Nat):Int))=((4+k % 4:Nat):Int) by rw [qk (by omega) (by omega)]; omega) ?_
 refine ⟨by omega,?_⟩
 have hp:(4+k % 4) * 2 ^ (k / 4 - 1)≤7 * 2 ^ 6:=Nat.mul_le_mul (by omega) (Nat.pow_le_pow_right (by decide) (by omega))
 have hp2:(4+k % 4) * 2 ^ (k / 4 - 1)≤448:=hp
 refine qy (show qej .i64 ((4+k % 4:Nat):Int) ((k / 4 - 1:Nat):Int)=(((4+k % 4) * 2 ^ (k / 4 - 1):Nat):Int) by
  unfold qej
  rw [Int.toNat_natCast,show min (k / 4 - 1) IntKind.i64.bits=k / 4 - 1 by show min (k / 4 - 1) 64=_; omega]
  rw [show ((4+k % 4:Nat):Int) * 2 ^ (k / 4 - 1)=(((4+k % 4) * 2 ^ (k / 4 - 1):Nat):Int) by push_cast; rfl]
  exact qk (by omega) (by omega)) ?_
 refine qy (qk (by omega) (by omega)) ?_
 have e5:(3:Int)+(4+(k:Int) % 4) * 2 ^ ((k:Int) / 4 - 1).toNat=3+(((4+k % 4) * 2 ^ (k / 4 - 1):Nat):Int):=by
  rw [show ((k:Int) / 4 - 1).toNat=k / 4 - 1 by omega]
  push_cast
  rfl
 have e6:(k:Int) / 4 - 1=((k / 4 - 1:Nat):Int):=by omega
 simp only [e5,e6] at hk
 exact hk
theorem qyb.c {v:Int} {K:Ending→World→Prop} (h:St F0 w0 w ps) (hk:K (.returned (.tuple ⟨[.int .i64 (qvh v).1,.int .i64 (qvh v).2.1,.bool (qvh v).2.2]⟩)) w) :
 Calls Try.prog 160 ⟨[.int .i64 v]⟩ w K:=by
 refine qoc (qyb.ok _ _ _ ?_)
 unfold qyb qyb.j1 qvh at *
 refine qzc (fun g=>?_) (fun g=>?_)
 · rw [if_pos (Or.inl g)] at hk
   unfold qyb.j3
   exact qnm hk
 unfold qyb.j3
 refine qzc (fun g2=>?_) (fun g2=>?_)
 · rw [if_pos (Or.inr g2)] at hk
   exact hk
 rw [if_neg (by omega)] at hk
 refine qzc (fun g4=>?_) (fun g4=>?_)
 · rw [if_pos g4] at hk
   exact qy (qk (by omega) (by omega)) hk
 rw [if_neg g4] at hk
 unfold qyb.j2
 obtain ⟨k,rfl⟩:∃ k:Nat,v=k:=⟨v.toNat,by omega⟩
 refine ⟨by decide,?_⟩
 refine qy (show IntKind.i64.wrap (Int.tdiv (k:Int) 2)=((k / 2:Nat):Int) by rw [show Int.tdiv (k:Int) 2=((k / 2:Nat):Int) from rfl,qk (by omega) (by omega)]) ?_
 refine qy (show IntKind.i64.wrap (((k / 2:Nat):Int) - 1)=((k / 2 - 1:Nat):Int) by rw [qk (by omega) (by omega)]; omega) ?_
 refine ⟨by decide,?_⟩
 refine qy (show Int.tmod (k:Int) 2=((k % 2:Nat):Int) from rfl) ?_
 refine qy (show IntKind.i64.wrap (2+((k % 2:Nat):Int))=((2+k % 2:Nat):Int) by rw [qk (by omega) (by omega)]; omega) ?_
 refine ⟨by omega,?_⟩
 have hp:(2+k % 2) * 2 ^ (k / 2 - 1)≤3 * 2 ^ 14:=Nat.mul_le_mul (by omega) (Nat.pow_le_pow_right (by decide) (by omega))
 have hp2:(2+k % 2) * 2 ^ (k / 2 - 1)≤49152:=hp
 refine qy (show qej .i64 ((2+k % 2:Nat):Int) ((k / 2 - 1:Nat):Int)=(((2+k % 2) * 2 ^ (k / 2 - 1):Nat):Int) by
  unfold qej
  rw [Int.toNat_natCast,show min (k / 2 - 1) IntKind.i64.bits=k / 2 - 1 by show min (k / 2 - 1) 64=_; omega]
  rw [show ((2+k % 2:Nat):Int) * 2 ^ (k / 2 - 1)=(((2+k % 2) * 2 ^ (k / 2 - 1):Nat):Int) by push_cast; rfl]
  exact qk (by omega) (by omega)) ?_
 refine qy (qk (by omega) (by omega)) ?_
 have e5:(1:Int)+(2+(k:Int) % 2) * 2 ^ ((k:Int) / 2 - 1).toNat=1+(((2+k % 2) * 2 ^ (k / 2 - 1):Nat):Int):=by
  rw [show ((k:Int) / 2 - 1).toNat=k / 2 - 1 by omega]
  push_cast
  rfl
 have e6:(k:Int) / 2 - 1=((k / 2 - 1:Nat):Int):=by omega
 simp only [e5,e6] at hk
 exact hk
theorem qqb.c {e:Int} {K:Ending→World→Prop} (h:St F0 w0 w (ztA sb rb V N most z :: ps))
 (hk:∀ w',St F0 w0 w' (ztA sb rb V N most (qod e z) :: ps)→K (.returned (.tuple ⟨[]⟩)) w'):Calls Try.prog 178 ⟨[.pointer (some ⟨sb,0,none⟩),.int .i64 e]⟩ w K:=by
 obtain ⟨p,out,err⟩:=z
 refine qoc (qqb.ok _ _ _ _ ?_)
 unfold qqb
 unfold qod at hk
 obtain ⟨o,h⟩:=qvo h
 simp only at h hk
 refine qrd (h.fI ?_)
 refine qpf (fun g=>?_) (fun g=>?_)
 · rw [if_pos (by simpa using g)] at hk
   refine qrd (h.fst trivial fun w h=>?_)
   exact hk w (zt_c h)
 · rw [if_neg (by simpa using g)] at hk
   exact hk w (zt_c h)
theorem qvb.c {n:Int} {K:Ending→World→Prop} (h:St F0 w0 w (ztA sb rb V N most z :: ps)) (hN:N≤137438953472) (hp:z.1≤8 * N)
 (hk:∀ w',(qhe (qo V (8 * N)) n z).2.1≤8 * N→St F0 w0 w' (ztA sb rb V N most (qhe (qo V (8 * N)) n z).2 :: ps)→K (.returned (.int .i64 (qhe (qo V (8 * N)) n z).1)) w'):Calls Try.prog 174 ⟨[.pointer (some ⟨sb,0,none⟩),.int .i64 n]⟩ w K:=by
 have hf:=(qpm (B:=qo V (8 * N)) n (z:=z) (by rw [ql]; exact hp)).2
 rw [ql] at hf
 have hk:=fun w'=>hk w' hf
 clear hf
 obtain ⟨p,out,err⟩:=z
 simp only at hp
 refine qoc (qvb.ok _ _ _ _ ?_)
 unfold qvb
 unfold qhe at hk
 have h0:=h
 obtain ⟨o,h⟩:=qvo h
 simp only at h hk
 refine qrd (h.fI ?_)
 refine qpf (fun g=>?_) (fun g=>?_)
 · rw [if_pos (by simpa using g)] at hk
   exact hk w h0
 · have g:err=0:=by simpa using g
   subst g
   rw [if_neg (by simp),ql] at hk
   refine qrd (h.fP ?_)
   refine qlb.c (rb:=rb) (V:=V) (N:=N) (at':=p) h.at1 hN (by omega) (fun g w h=>⟨_,_,rfl,?_⟩) (fun g w h=>⟨_,_,rfl,?_⟩)
   · have g:=of_decide_eq_true g
     rw [if_pos ⟨g.1,g.2.1,by omega⟩] at hk
     simp only at hk
     rw [zget_val (by omega)] at hk
     refine qkl ?_
     exact hk w (zt_c h.at1)
   · have g:=of_decide_eq_false g
     rw [if_neg (fun e=>g ⟨e.1,e.2.1,by have:=e.2.2; omega⟩)] at hk
     refine qnm ?_
     have h:=zt_c (p:=p) (out:=out) (err:=0) h.at1
     refine qqb.c h fun w h=>⟨rfl,?_⟩
     exact hk w h
theorem qmd.c {b:Int} {K:Ending→World→Prop} (h:St F0 w0 w (ztA sb rb V N most z :: ps)) (hL:z.2.1.length≤1000000000)
 (hk:∀ w',St F0 w0 w' (ztA sb rb V N most (zput most b z) :: ps)→K (.returned (.tuple ⟨[]⟩)) w'):Calls Try.prog 182 ⟨[.pointer (some ⟨sb,0,none⟩),.int .u8 b]⟩ w K:=by
 obtain ⟨p,out,err⟩:=z
 simp only at hL
 refine qoc (qmd.ok _ _ _ _ ?_)
 unfold qmd
 unfold zput at hk
 have h0:=h
 obtain ⟨o,h⟩:=qvo h
 simp only at h hk
 have hol:=h.at2.len
 rw [qx] at hol
 refine qrd (h.fI ?_)
 refine qpf (fun g=>?_) (fun g=>?_)
 · rw [if_pos (by simpa using g)] at hk
   exact hk w h0
 have g:err=0:=by simpa using g
 subst g
 rw [if_neg (by simp)] at hk
 refine h.drewK fun w h=>?_
 refine qrd (h.fL (qrd (h.fI ?_)))
 refine qzc (fun g2=>?_) (fun g2=>?_)
 · have g2:((o.len:Nat):Int) ≥ most:=g2
   rw [if_pos (by omega)] at hk
   exact qqb.c (zt_c h) fun w h=>⟨rfl,hk w h⟩
 · have g2:¬ ((o.len:Nat):Int) ≥ most:=g2
   rw [if_neg (by omega)] at hk
   refine qrd (h.fL ?_)
   refine h.pushI (s:=o) (by omega) fun o2 w h=>?_
   refine qrd (h.fst trivial fun w h=>?_)
   exact hk w (zt_c (o:=o2) h.sub)
theorem qlc.c {s:Sl} {ls:List Int} {half:Bool} {K:Ending→World→Prop} (h:St F0 w0 w (ztA sb rb V N most z :: ps)) [Rdb F0 w0 s ps 1 (ivs .i64 ls)]
 (hk0:∀ cb w',z.2.2=0→qih ls half=0→St F0 w0 w' (ztA sb rb V N most z :: hcA cb ls :: ps)→K (.returned (.pointer (some ⟨cb,0,none⟩))) w')
 (hk1:∀ w',z.2.2=0→qih ls half ≠ 0→St F0 w0 w' (ztA sb rb V N most (qod 2 z) :: ps)→K (.returned (.pointer none)) w')
 (hk2:z.2.2 ≠ 0→K (.returned (.pointer none)) w):Calls Try.prog 183 ⟨[.pointer (some ⟨sb,0,none⟩),.slice s.a s.len s.cap,.bool half]⟩ w K:=by
 obtain ⟨p,out,err⟩:=z
 refine qoc (qlc.ok _ _ _ _ _ ?_)
 unfold qlc
 obtain ⟨o,h⟩:=qvo h
 simp only at h hk0 hk1 hk2
 refine qrd (h.fI ?_)
 refine qpf (fun g=>hk2 (by simpa using g)) (fun g=>?_)
 have g:err=0:=by simpa using g
 subst g
 refine qub.c (s:=s) (half:=half) h (fun cb w g h=>⟨_,_,rfl,qkl ?_⟩) (fun w g h=>⟨_,_,rfl,qam (by simpa using g) ?_⟩)
 · exact hk0 cb w rfl g (zt_c (o:=o) h.sub)
 · exact qqb.c (zt_c h) fun w h=>⟨rfl,hk1 w rfl g h⟩
theorem qld.c {cb:Nat} {ls:List Int} {K:Ending→World→Prop} (h:St F0 w0 w (ztA sb rb V N most z :: ps)) [PkF hcA cb ps ls rest] (hN:N≤137438953472) (hp:z.1≤8 * N)
 (hk:∀ w',(qdj ls (qo V (8 * N)) z).2.1≤8 * N→St F0 w0 w' (ztA sb rb V N most (qdj ls (qo V (8 * N)) z).2 :: ps)→K (.returned (.int .i64 (qdj ls (qo V (8 * N)) z).1)) w') :
 Calls Try.prog 184 ⟨[.pointer (some ⟨sb,0,none⟩),.func (.func 23) ⟨[.pointer (some ⟨cb,0,none⟩)]⟩ ⟨[]⟩]⟩ w K:=by
 obtain ⟨p,out,err⟩:=z
 simp only at hp
 refine qoc (qld.ok _ _ _ _ ?_)
 unfold qld
 unfold qdj at hk
 have h0:=h
 obtain ⟨o,h⟩:=qvo h
 simp only at h hk
 refine qrd (h.fI ?_)
 refine qpf (fun g=>?_) (fun g=>?_)
 · rw [if_pos (by simpa using g)] at hk
   exact hk w hp h0
 have g:err=0:=by simpa using g
 subst g
 rw [if_neg (by simp)] at hk
 refine qrd (h.fP ?_)
 refine qtb.c (ls:=ls) (cb:=cb) (rb:=rb) (V:=V) (N:=N) (p:=p) h.at1 hN hp fun w hle h=>⟨_,_,rfl,?_⟩
 refine qqb.c (zt_c h.at1) fun w h=>⟨rfl,?_⟩
 refine hk w hle ?_
 exact h
end
end Go.Proofs.Ythdmmmfgjmmelaa
namespace Go.Proofs.Ythdmmmfgjmmelaa
open Go Go.Proofs
set_option linter.unusedVariables false
set_option linter.unusedSimpArgs false
attribute [local irreducible] apK cpK mkK br
theorem pow_le {a b:Nat} (h:a≤b):(2:Nat) ^ a≤2 ^ b:=Nat.pow_le_pow_right (by decide) h
theorem pow_leI {a b c:Nat} (h:a≤b) (e:2 ^ b=c):(2:Int) ^ a≤(c:Int):=by
 rw [show (2:Int) ^ a=((2 ^ a:Nat):Int) by simp,← e]
 exact Int.ofNat_le.2 (pow_le h)
theorem zlen_b (v:Int):0≤(quh v).1∧(quh v).1≤1000∧(quh v).2.1.toNat≤6:=by
 unfold quh
 split
 · decide
 · split
   · decide
   · split
     · simp only; omega
     · simp only
       have h1:((v - 257) / 4 - 1).toNat≤6:=by omega
       have h2:=pow_le h1
       have h3:(4+(v - 257) % 4).toNat * 2 ^ ((v - 257) / 4 - 1).toNat≤7 * 2 ^ 6:=Nat.mul_le_mul (by omega) h2
       have h4:(4+(v - 257) % 4) * 2 ^ ((v - 257) / 4 - 1).toNat=(((4+(v - 257) % 4).toNat * 2 ^ ((v - 257) / 4 - 1).toNat:Nat):Int):=by
        rw [Int.natCast_mul,Int.toNat_of_nonneg (by omega)]; simp
       rw [h4]
       have h5:(7:Nat) * 2 ^ 6=448:=by decide
       refine ⟨?_,?_,h1⟩ <;> omega
theorem zdis_b (v:Int):0≤(qvh v).1∧(qvh v).1≤100000∧(qvh v).2.1.toNat≤14∧((qvh v).2.2=true→1≤(qvh v).1):=by
 unfold qvh
 split
 · decide
 · split
   · simp only; refine ⟨?_,?_,?_,fun _=>?_⟩ <;> omega
   · simp only
     have h1:(v / 2 - 1).toNat≤14:=by omega
     have h2:=pow_le h1
     have h3:(2+v % 2).toNat * 2 ^ (v / 2 - 1).toNat≤3 * 2 ^ 14:=Nat.mul_le_mul (by omega) h2
     have h4:(2+v % 2) * 2 ^ (v / 2 - 1).toNat=(((2+v % 2).toNat * 2 ^ (v / 2 - 1).toNat:Nat):Int):=by
      rw [Int.natCast_mul,Int.toNat_of_nonneg (by omega)]; simp
     rw [h4]
     have h5:(3:Nat) * 2 ^ 14=49152:=by decide
     refine ⟨?_,?_,h1,fun _=>?_⟩ <;> omega
section pure
variable {B:List Bool} {most:Int} {z:Z}
theorem zget_err {n:Int} (h:(qhe B n z).2.2.2=0):z.2.2=0:=by
 unfold qhe at h
 split at h
 · exact h
 · rename_i h1; exact Decidable.not_not.1 h1
theorem qyc (n:Int):(qhe B n z).2.2.1=z.2.1:=by
 unfold qhe
 split
 · rfl
 · split <;> rfl
theorem zok_err {ok:Bool} (h:(zok ok z).2.2=0):ok=true∧z.2.2=0:=by
 unfold zok at h
 split at h
 · rename_i h1; exact ⟨h1,h⟩
 · exfalso
   unfold qod at h
   simp only at h
   split at h
   · cases h
   · contradiction
theorem qhj (ok:Bool):(zok ok z).2.1=z.2.1:=by unfold zok; split <;> rfl
theorem qlg (ls:List Int):(qdj ls B z).2.2.1=z.2.1:=by unfold qdj; split <;> rfl
theorem qyj (b:Int) (hm:most≤1000000) (h:z.2.1.length≤1000000):(zput most b z).2.1.length≤1000000:=by
 unfold zput
 split
 · exact h
 · split
   · exact h
   · simp only [List.length_append,List.length_singleton]; omega
theorem zcp_len (d:Int) (hm:most≤1000000):∀ n (z:Z),z.2.1.length≤1000000→(zcp most d n z).2.1.length≤1000000:=by
 intro n
 induction n with
 | zero=>intro z h; exact h
 | succ n ih =>
   intro z h
   rw [zcp]
   split
   · exact h
   · exact ih _ (qyj _ hm h)
theorem qfn (dl:List Int) (v:Int) (hm:most≤1000000) (h:z.2.1.length≤1000000):(zbehind dl B most v z).2.1.length≤1000000:=by
 unfold zbehind
 simp only
 refine zcp_len _ hm _ _ ?_
 split
 · show (qhe B _ _).2.2.1.length≤_
   rw [qyc,qhj,qlg,qyc,qhj]; exact h
 · rw [qyc,qhj,qlg,qyc,qhj]; exact h
theorem qjh {e:Int} (h:e ≠ 0):(qod e z).2.2 ≠ 0:=by
 unfold qod
 simp only
 split <;> assumption
end pure
section
variable {F0:List Nat} {w0 w:World} {ps rest rest2:List As} {sb rb V N:Nat} {most:Int} {z:Z}
theorem qq.c {v:Int} {cb:Nat} {dl:List Int} {K:Ending→World→Prop} (h:St F0 w0 w (ztA sb rb V N most z :: ps)) [PkF hcA cb ps dl rest] (hN:N≤137438953472) (hp:z.1≤8 * N) (hm:most≤1000000) (hL:z.2.1.length≤1000000)
 (hk:∀ w',St F0 w0 w' (ztA sb rb V N most (zbehind dl (qo V (8 * N)) most v z) :: ps)→K (.returned (.tuple ⟨[]⟩)) w') :
 Calls Try.prog 185 ⟨[.pointer (some ⟨sb,0,none⟩),.int .i64 v,.func (.func 23) ⟨[.pointer (some ⟨cb,0,none⟩)]⟩ ⟨[]⟩]⟩ w K:=by
 refine qoc (qq.ok _ _ _ _ _ ?_)
 unfold qq
 unfold zbehind at hk
 simp only at hk
 have b1:=zlen_b v
 refine qbc.c h ⟨_,_,_,rfl,?_⟩
 have j1:∀ w,St F0 w0 w (ztA sb rb V N most (zok (quh v).2.2 z) :: ps)→qq.j1 (some ⟨sb,0,none⟩) (some ⟨cb,0,none⟩) (quh v).1 (quh v).2.1 (fun v w'=>K (.returned v) w') w:=by
  intro w h
  unfold qq.j1
  have hzp:(zok (quh v).2.2 z).1≤8 * N:=by rw [zok_p]; exact hp
  have hzo:(zok (quh v).2.2 z).2.1.length≤1000000:=by rw [qhj]; exact hL
  generalize zok (quh v).2.2 z=z1 at h hk hzp hzo
  generalize (quh v).1=l1 at hk b1 ⊢
  generalize (quh v).2.1=l2 at hk b1 ⊢
  refine qvb.c h hN hzp fun w hg h=>⟨_,rfl,?_⟩
  have gl:=qrk (B:=qo V (8 * N)) (z:=z1) l2
  have go:=qyc (B:=qo V (8 * N)) (z:=z1) l2
  have ge:=zget_err (B:=qo V (8 * N)) (z:=z1) (n:=l2)
  generalize qhe (qo V (8 * N)) l2 z1=g at h hk hg gl go ge ⊢
  have pl:(2:Int) ^ l2.toNat≤64:=pow_leI (c:=64) b1.2.2 rfl
  refine qy (qk (by omega) (by omega)) ?_
  unfold qq.j2
  refine qld.c (ls:=dl) (cb:=cb) h hN hg fun w hs h=>⟨_,rfl,?_⟩
  have so:=qlg (B:=qo V (8 * N)) (z:=g.2) dl
  generalize qdj dl (qo V (8 * N)) g.2=s at h hk hs so ⊢
  have b2:=zdis_b s.1
  refine qyb.c h ⟨_,_,_,rfl,?_⟩
  have j3:∀ w,St F0 w0 w (ztA sb rb V N most (zok (qvh s.1).2.2 s.2) :: ps)→qq.j3 (some ⟨sb,0,none⟩) (l1+g.1) (qvh s.1).1 (qvh s.1).2.1 (fun v w'=>K (.returned v) w') w:=by
   intro w h
   unfold qq.j3
   have hzp2:(zok (qvh s.1).2.2 s.2).1≤8 * N:=by rw [zok_p]; exact hs
   have ho2:(zok (qvh s.1).2.2 s.2).2.1=z1.2.1:=by rw [qhj,so,go]
   have he2:=zok_err (ok:=(qvh s.1).2.2) (z:=s.2)
   generalize zok (qvh s.1).2.2 s.2=z4 at h hk hzp2 ho2 he2
   have b2':z4.2.2=0→1≤(qvh s.1).1:=fun e=>b2.2.2.2 (he2 e).1
   generalize (qvh s.1).1=d1 at hk b2 b2' ⊢
   generalize (qvh s.1).2.1=d2 at hk b2 ⊢
   refine qvb.c h hN hzp2 fun w hg2 h=>⟨_,rfl,?_⟩
   have gl2:=qrk (B:=qo V (8 * N)) (z:=z4) d2
   have go2:=qyc (B:=qo V (8 * N)) (z:=z4) d2
   have ge2:=zget_err (B:=qo V (8 * N)) (z:=z4) (n:=d2)
   generalize qhe (qo V (8 * N)) d2 z4=g2 at h hk hg2 gl2 go2 ge2 ⊢
   have pl2:(2:Int) ^ d2.toNat≤16384:=pow_leI (c:=16384) b2.2.2.1 rfl
   refine qy (qk (by omega) (by omega)) ?_
   have j4:∀ (z5:Z) w,zcp most (d1+g2.1) (l1+g.1).toNat z5=zcp most (d1+g2.1) (l1+g.1).toNat (if (g2.2.2.1.length:Int) < d1+g2.1 then qod 2 g2.2 else g2.2)→z5.2.1.length≤1000000→(z5.2.2=0→1≤d1+g2.1∧d1+g2.1≤(z5.2.1.length:Int)) →
    St F0 w0 w (ztA sb rb V N most z5 :: ps)→qq.j4 (some ⟨sb,0,none⟩) (l1+g.1) (d1+g2.1) (fun v w'=>K (.returned v) w') w:=by
    intro z5 w he hl5 hd5 h
    rw [← he] at hk
    clear he
    unfold qq.j4 qq.j5
    have hn0:0≤l1+g.1:=by omega
    generalize hnn:l1+g.1=n at hk hn0 ⊢
    have hn1:n≤2000:=by omega
    obtain ⟨n,rfl⟩:∃ k:Nat,n=k:=⟨n.toNat,by omega⟩
    rw [Int.toNat_natCast] at hk
    generalize hdd:d1+g2.1=d at hk hd5 ⊢
    have hdb:d≤200000∧0≤d:=by omega
    refine qsf (fun (a:Nat × Z) (i':Int) w'=>i'=a.1∧a.1≤n∧zcp most d (n - a.1) a.2=zcp most d n z5∧a.2.2.1.length≤1000000∧(a.2.2.2=0→1≤d∧d≤(a.2.2.1.length:Int))∧St F0 w0 w' (ztA sb rb V N most a.2 :: ps)) (fun a=>n - a.1) (0,z5) ⟨rfl,by simp,rfl,hl5,hd5,h⟩ ?_
    clear h hl5 hd5
    rintro ⟨i,p,out,err⟩ i' wL I μ ⟨rfl,hi,hz,hl5,hd5,h⟩ hin
    simp only at hi hz hl5 hd5 h hin ⊢
    unfold qq.b1
    have h0:=h
    obtain ⟨o,h⟩:=qvo h
    simp only at h
    have hol:=h.at2.len
    rw [qx] at hol
    refine qzc (fun g1=>?_) (fun g1=>?_)
    · obtain ⟨f,hf⟩:∃ f,n - i=f+1:=⟨n - i - 1,by omega⟩
      rw [hf,zcp] at hz
      refine qrd (h.fI ?_)
      refine qpf (fun g3=>?_) (fun g3=>?_)
      · have g3:err=0:=by simpa using g3
        subst g3
        have hd5:=hd5 rfl
        rw [if_neg (by simp)] at hz
        simp only at hz
        refine h.drewK fun w h=>?_
        refine qrd (h.fL (qrd (h.fL ?_)))
        refine qy (show IntKind.i64.wrap (((o.len:Nat):Int) - d)=((out.length - d.toNat:Nat):Int) by rw [qk (by omega) (by omega)]; omega) ?_
        refine h.lx (s:=o) (out.length - d.toNat) rfl (by omega) ?_
        refine qmd.c (zt_c h) (by simp only; omega) fun w h=>⟨rfl,?_⟩
        refine qy (qk (by omega) (by omega)) ?_
        refine ⟨⟨rfl,rfl,rfl⟩,hin (i+1,zput most (out.getD (out.length - d.toNat) 0) (p,out,0)) _ _ ⟨by simp,by simp only; omega,?_,qyj _ hm hl5,?_,h⟩ (by simp only; omega)⟩
        · simp only
          rw [show n - (i+1)=f by omega]
          exact hz
        · intro e
          refine ⟨hd5.1,?_⟩
          unfold zput
          simp only
          rw [if_neg (by simp)]
          split
          · exact hd5.2
          · simp only [List.length_append,List.length_singleton]; omega
      · have g3:err ≠ 0:=by simpa using g3
        rw [if_pos g3] at hz
        rw [← hz] at hk
        exact hk wL h0
    · have:i=n:=by omega
      subst this
      rw [Nat.sub_self,zcp] at hz
      rw [← hz] at hk
      exact hk wL h0
   have h0:=h
   obtain ⟨o,h⟩:=qvo h
   have hol:=h.at2.len
   rw [qx] at hol
   have hgo:g2.2.2.1.length≤1000000:=by rw [go2,ho2]; exact hzo
   refine qrd (h.fL ?_)
   refine qzc (fun g5=>?_) (fun g5=>?_)
   · have g5:d1+g2.1 > ((o.len:Nat):Int):=g5
     refine qqb.c h0 fun w h=>⟨rfl,?_⟩
     exact j4 (qod 2 g2.2) w (by rw [if_pos (by omega)]) hgo (fun e=>absurd e (qjh (by decide))) h
   · have g5:¬ d1+g2.1 > ((o.len:Nat):Int):=g5
     exact j4 g2.2 w (by rw [if_neg (by omega)]) hgo (fun e=>⟨by have:=b2' (ge2 e); omega,by omega⟩) h0
  refine qpf (fun g5=>?_) (fun g5=>?_)
  · have g5:(qvh s.1).2.2=false:=by simpa using g5
    refine qqb.c h fun w h=>⟨rfl,?_⟩
    refine j3 w ?_
    rw [g5]; exact h
  · have g5:(qvh s.1).2.2=true:=by simpa using g5
    refine j3 w ?_
    rw [g5]; exact h
 refine qpf (fun g5=>?_) (fun g5=>?_)
 · have g5:(quh v).2.2=false:=by simpa using g5
   refine qqb.c h fun w h=>⟨rfl,?_⟩
   refine j1 w ?_
   rw [g5]; exact h
 · have g5:(quh v).2.2=true:=by simpa using g5
   refine j1 w ?_
   rw [g5]; exact h
end
end Go.Proofs.Ythdmmmfgjmmelaa
namespace Go.Proofs.Ythdmmmfgjmmelaa
open Go Go.Proofs
set_option linter.unusedVariables false
set_option linter.unusedSimpArgs false
attribute [local irreducible] apK cpK mkK br
section
variable {F0:List Nat} {w0 w:World} {ps rest rest2:List As} {sb rb V N:Nat} {most:Int} {z:Z}
theorem hdec_nn (l:List Int) (b:List Bool):∀ f n v p,0≤(hdec l b f n v p).1:=by
 intro f
 induction f with
 | zero=>intro n v p; exact Int.le_refl _
 | succ f ih =>
   intro n v p
   rw [hdec]
   split
   · exact Int.le_refl _
   · split
     · exact Int.natCast_nonneg _
     · exact ih _ _ _
theorem zsym_nn {B:List Bool} (ls:List Int):0≤(qdj ls B z).1:=by
 unfold qdj
 split
 · exact Int.le_refl _
 · exact hdec_nn _ _ _ _ _ _
theorem qp.loop {ca cb:Nat} {ll dl:List Int} {K:Ending→World→Prop} (h:St F0 w0 w (ztA sb rb V N most z :: ps)) [PkF hcA ca ps ll rest] [PkF hcA cb ps dl rest2] (hN:N≤137438953472) (hp:z.1≤8 * N) (hm:most≤1000000) (hL:z.2.1.length≤1000000)
 (hk:∀ w',St F0 w0 w' (ztA sb rb V N most (qqd ll dl (qo V (8 * N)) most (8 * N+1) z) :: ps)→K (.returned (.tuple ⟨[]⟩)) w') :
 qp.j2 (some ⟨sb,0,none⟩) (some ⟨ca,0,none⟩) (some ⟨cb,0,none⟩) (fun v w'=>K (.returned v) w') w:=by
 unfold qp.j2
 have hBl:(qo (V:Int) (8 * N)).length=8 * N:=ql _ _
 refine loop0 (fun (a:Nat × Z) w'=>8 * N - a.2.1 < a.1∧a.2.1≤8 * N∧a.2.2.1.length≤1000000∧qqd ll dl (qo V (8 * N)) most a.1 a.2=qqd ll dl (qo V (8 * N)) most (8 * N+1) z∧St F0 w0 w' (ztA sb rb V N most a.2 :: ps)) (fun a=>a.1) (8 * N+1,z) ⟨by simp only; omega,hp,hL,rfl,h⟩ ?_
 clear h hp hL
 rintro ⟨f,z1⟩ wL I μ ⟨hf,hp,hL,hz,h⟩ hin
 simp only at hf hp hL hz h hin ⊢
 unfold qp.b1
 obtain ⟨f,rfl⟩:∃ g,f=g+1:=⟨f - 1,by omega⟩
 rw [qqd] at hz
 have h0:=h
 obtain ⟨o,h⟩:=qvo h
 refine qrd (h.fI ?_)
 refine qpf (fun g1=>?_) (fun g1=>?_)
 · have g1:z1.2.2=0:=by simpa using g1
   rw [if_neg (by simpa using g1)] at hz
   simp only at hz
   unfold qp.j3
   refine qld.c (ls:=ll) (cb:=ca) h0 hN hp fun w hs h=>⟨_,rfl,?_⟩
   have so:=qlg (B:=qo V (8 * N)) (z:=z1) ll
   have sp:(qdj ll (qo V (8 * N)) z1).2.2.2=0→z1.1 < (qdj ll (qo V (8 * N)) z1).2.1:=by
    unfold qdj
    rw [if_neg (by simpa using g1)]
    exact (hdec_le ll (qo V (8 * N)) (hlong ll 15) 1 0 z1.1 (by rw [hBl]; exact hp)).2.2
   have sn:=zsym_nn (B:=qo V (8 * N)) (z:=z1) ll
   generalize qdj ll (qo V (8 * N)) z1=s at h hz hs so sp sn ⊢
   obtain ⟨v,z2⟩:=s
   simp only at h hz hs so sp sn ⊢
   unfold qp.j4
   have h1:=h
   obtain ⟨o,h⟩:=qvo h
   refine qrd (h.fI ?_)
   refine qpf (fun g2=>?_) (fun g2=>?_)
   · have g2:z2.2.2 ≠ 0:=by simpa using g2
     rw [if_pos (Or.inl g2)] at hz
     rw [← hz] at hk
     unfold qp.j5
     exact qnm (hk w h1)
   have g2:z2.2.2=0:=by simpa using g2
   have sp:=sp g2
   unfold qp.j5
   refine qpf (fun g3=>?_) (fun g3=>?_)
   · rw [if_pos (Or.inr (by simpa using g3))] at hz
     rw [← hz] at hk
     exact hk w h1
   have g3:v ≠ 256:=by simpa using g3
   rw [if_neg (by rintro (e | e); exact e g2; exact g3 e)] at hz
   refine qzc (fun g4=>?_) (fun g4=>?_)
   · rw [if_pos g4] at hz
     refine qcj ?_
     rw [qhn,show v % 256=v by omega]
     refine qmd.c h1 (by rw [so]; omega) fun w h=>⟨rfl,?_⟩
     refine ⟨⟨rfl,rfl,rfl⟩,hin (f,zput most v z2) _ ⟨?_,?_,qyj _ hm (by rw [so]; exact hL),?_,h⟩ (by simp only; omega)⟩
     · simp only; rw [qdm]; omega
     · simp only; rw [qdm]; exact hs
     · exact hz
   · rw [if_neg g4] at hz
     have hfw:=qgn (most:=most) (B:=qo V (8 * N)) dl v (z:=z2) (by rw [hBl]; exact hs)
     rw [zfwd,hBl] at hfw
     refine qq.c (cb:=cb) (dl:=dl) h1 hN hs hm (by rw [so]; exact hL) fun w h=>⟨rfl,?_⟩
     refine ⟨⟨rfl,rfl,rfl⟩,hin (f,zbehind dl (qo V (8 * N)) most v z2) _ ⟨?_,hfw.2,qfn dl v hm (by rw [so]; exact hL),?_,h⟩ (by simp only; omega)⟩
     · simp only; omega
     · exact hz
 · have g1:z1.2.2 ≠ 0:=by simpa using g1
   rw [if_pos g1] at hz
   rw [← hz] at hk
   exact hk wL h0
theorem zcode_p (ls:List Int):(qcg ls z).1=z.1:=by unfold qcg; split <;> rfl
theorem qyk (ls:List Int):(qcg ls z).2.1=z.2.1:=by unfold qcg; split <;> rfl
theorem zcode_no (ls:List Int) (h:z.2.2 ≠ 0):qcg ls z=z:=by unfold qcg; rw [if_neg (fun e=>h e.1)]
theorem qp.c {s t:Sl} {ll dl:List Int} {K:Ending→World→Prop} (h:St F0 w0 w (ztA sb rb V N most z :: ps)) [Rdb F0 w0 s ps 1 (ivs .i64 ll)] [Rdb F0 w0 t ps 1 (ivs .i64 dl)] (hll:256 < ll.length) (hN:N≤137438953472) (hp:z.1≤8 * N) (hm:most≤1000000) (hL:z.2.1.length≤1000000)
 (hk:∀ w',St F0 w0 w' (ztA sb rb V N most (zblk ll dl (qo V (8 * N)) most z) :: ps)→K (.returned (.tuple ⟨[]⟩)) w') :
 Calls Try.prog 176 ⟨[.pointer (some ⟨sb,0,none⟩),.slice s.a s.len s.cap,.slice t.a t.len t.cap]⟩ w K:=by
 refine qoc (qp.ok _ _ _ _ _ ?_)
 unfold qp
 unfold zblk at hk
 simp only [ql] at hk
 have j1:∀ (z1:Z) w,z1=(if z.2.2=0∧ll.getD 256 0=0 then qod 2 z else z)→St F0 w0 w (ztA sb rb V N most z1 :: ps)→qp.j1 (some ⟨sb,0,none⟩) s t (fun v w'=>K (.returned v) w') w:=by
  intro z1 w e h
  have hp1:z1.1≤8 * N:=by rw [e]; split; exact hp; exact hp
  have hL1:z1.2.1.length≤1000000:=by rw [e]; split; exact hL; exact hL
  rw [← e] at hk
  clear e
  unfold qp.j1
  have bad:∀ (z2:Z) w,qcg dl (qcg ll z1)=z2→z2.2.2 ≠ 0→St F0 w0 w (ztA sb rb V N most z2 :: ps)→∀ pa pb,nz (some (⟨sb,0,none⟩:Addr)) fun a19=>ldI .i64 w (Addr.add a19 3) fun x20=>br ((x20:Int) != 0) (K (.returned (.tuple ⟨[]⟩)) w) (qp.j2 (some ⟨sb,0,none⟩) pa pb (fun v w'=>K (.returned v) w') w):=by
   intro z2 w e h2 h pa pb
   rw [e,if_pos h2] at hk
   have h0:=h
   obtain ⟨o,h⟩:=qvo h
   exact qrd (h.fI (qam (by simpa using h2) (hk w h0)))
  refine qlc.c (s:=s) (ls:=ll) (half:=true) h (fun ca w e1 e2 h=>⟨_,rfl,?_⟩) (fun w e1 e2 h=>⟨_,rfl,?_⟩) (fun e1=>⟨_,rfl,?_⟩)
  · have ec:qcg ll z1=z1:=by unfold qcg; rw [if_neg (fun e=>e.2 e2)]
    refine qlc.c (s:=t) (ls:=dl) (half:=true) h (fun cb w e1 e3 h=>⟨_,rfl,?_⟩) (fun w e1 e3 h=>⟨_,rfl,?_⟩) (fun e3=>absurd e1 e3)
    · have ec2:qcg dl z1=z1:=by unfold qcg; rw [if_neg (fun e=>e.2 e3)]
      rw [ec,ec2,if_neg (by simpa using e1)] at hk
      have h0:=h
      obtain ⟨o,h⟩:=qvo h
      refine qrd (h.fI (br_no (by simpa using e1) ?_))
      exact qp.loop (ca:=ca) (cb:=cb) (ll:=ll) (dl:=dl) h0 hN hp1 hm hL1 fun w h=>hk w (h.tail fun _ _ _ h=>h.drop.drop)
    · refine bad (qod 2 z1) w ?_ (qjh (by decide)) (h.tail fun _ _ _ h=>h.drop) _ _
      rw [ec]; unfold qcg; rw [if_pos ⟨e1,e3⟩]
  · have ec:qcg ll z1=qod 2 z1:=by unfold qcg; rw [if_pos ⟨e1,e2⟩]
    have hne:(qod 2 z1).2.2 ≠ 0:=qjh (by decide)
    refine qlc.c (s:=t) (ls:=dl) (half:=true) h (fun cb w e1 e3 h=>absurd e1 hne) (fun w e1 e3 h=>absurd e1 hne) (fun e3=>⟨_,rfl,?_⟩)
    exact bad _ w (by rw [ec,zcode_no _ hne]) hne h _ _
  · refine qlc.c (s:=t) (ls:=dl) (half:=true) h (fun cb w e2 e3 h=>absurd e2 e1) (fun w e2 e3 h=>absurd e2 e1) (fun e3=>⟨_,rfl,?_⟩)
    exact bad _ w (by rw [zcode_no ll e1,zcode_no _ e1]) e1 h _ _
 have h0:=h
 obtain ⟨o,h⟩:=qvo h
 refine qrd (h.fI ?_)
 refine qpf (fun g=>?_) (fun g=>?_)
 · have g:z.2.2=0:=by simpa using g
   refine h.lx (s:=s) 256 rfl hll ?_
   refine qpf (fun g2=>?_) (fun g2=>?_)
   · refine qqb.c h0 fun w h=>⟨rfl,?_⟩
     exact j1 _ w (by rw [if_pos ⟨g,by simpa using g2⟩]) h
   · have g3:ll.getD 256 0 ≠ 0:=by intro e; rw [e] at g2; simp at g2
     exact j1 _ w (by rw [if_neg (fun e=>g3 e.2)]) h0
 · exact j1 _ w (by rw [if_neg (fun e=>by simp [e.1] at g)]) h0
theorem zst_len (hm:most≤1000000) {B:List Bool}:∀ n (z:Z),z.2.1.length≤1000000→(zst B most n z).2.1.length≤1000000:=by
 intro n
 induction n with
 | zero=>intro z h; exact h
 | succ n ih=>intro z h; rw [zst]; exact ih _ (qyj _ hm (by rw [qyc]; exact h))
theorem qnb.c {K:Ending→World→Prop} (h:St F0 w0 w (ztA sb rb V N most z :: ps)) (hN:N≤137438953472) (hp:z.1≤8 * N) (hm:most≤1000000) (hm0:0≤most) (hL:z.2.1.length≤1000000)
 (hk:∀ w',(zstored (qo V (8 * N)) most z).1≤8 * N→St F0 w0 w' (ztA sb rb V N most (zstored (qo V (8 * N)) most z) :: ps)→K (.returned (.tuple ⟨[]⟩)) w') :
 Calls Try.prog 175 ⟨[.pointer (some ⟨sb,0,none⟩)]⟩ w K:=by
 refine qoc (qnb.ok _ _ _ ?_)
 unfold qnb
 unfold zstored at hk
 simp only at hk
 obtain ⟨o,h⟩:=qvo h
 refine qrd (h.fP ?_)
 have h:St F0 w0 w (rrA rb V N z.1 :: qxc sb [.pointer (some ⟨rb,0,none⟩),.slice o.a o.len o.cap,.int .i64 most,.int .i64 z.2.2] :: qdc 1 o (u8s z.2.1) :: ps):=h.at1
 refine qke.c h (by omega) fun w h=>⟨rfl,?_⟩
 have h:St F0 w0 w (bitA rb (V,N,8 * ((z.1+7) / 8)) :: qxc sb [.pointer (some ⟨rb,0,none⟩),.slice o.a o.len o.cap,.int .i64 most,.int .i64 z.2.2] :: qdc 1 o (u8s z.2.1) :: ps):=h
 have h:=zt_c (p:=8 * ((z.1+7) / 8)) (out:=z.2.1) h.at1
 have hz0:(8 * ((z.1+7) / 8),z.2.1,z.2.2).1≤8 * N:=by simp only; omega
 have hz0L:((8 * ((z.1+7) / 8),z.2.1,z.2.2):Z).2.1.length≤1000000:=hL
 generalize ((8 * ((z.1+7) / 8),z.2.1,z.2.2):Z)=z0 at h hk hz0 hz0L
 refine qvb.c h hN hz0 fun w hg h=>⟨_,rfl,?_⟩
 have gl:=qrk (B:=qo V (8 * N)) (z:=z0) 16
 have go:=qyc (B:=qo V (8 * N)) (z:=z0) 16
 generalize qhe (qo V (8 * N)) 16 z0=g at h hk hg gl go ⊢
 refine qvb.c h hN hg fun w hg2 h=>⟨_,rfl,?_⟩
 have go2:=qyc (B:=qo V (8 * N)) (z:=g.2) 16
 generalize qhe (qo V (8 * N)) 16 g.2=g2 at h hk hg2 go2 ⊢
 have hgL:g2.2.2.1.length≤1000000:=by rw [go2,go]; exact hz0L
 unfold qnb.j1
 have h0:=h
 obtain ⟨o,h⟩:=qvo h
 refine qrd (h.fI ?_)
 refine qpf (fun g3=>?_) (fun g3=>?_)
 · have g3:g2.2.2.2 ≠ 0:=by simpa using g3
   rw [if_pos g3] at hk
   exact hk w hg2 h0
 have g3:g2.2.2.2=0:=by simpa using g3
 rw [if_neg (by simpa using g3)] at hk
 refine qcj ?_
 refine qpf (fun g4=>?_) (fun g4=>?_)
 · rw [if_pos (by simpa using g4)] at hk
   exact qqb.c h0 fun w h=>⟨rfl,hk w hg2 h⟩
 rw [if_neg (by simpa using g4)] at hk
 have hol:=h.at2.len
 rw [qx] at hol
 have pl:(2:Int) ^ (16:Int).toNat=65536:=by decide
 rw [pl] at gl
 have h00:=h0.drew
 refine h.drewK fun w h=>?_
 have h0:=zt_c (p:=g2.2.1) h
 refine qrd (h.fI (qrd (h.fL ?_)))
 refine qy (qk (by simp only; omega) (by simp only; omega)) ?_
 refine qzc (fun g5=>?_) (fun g5=>?_)
 · have g5:g.1 > most - ((o.len:Nat):Int):=g5
   rw [if_pos (by omega)] at hk
   exact qqb.c h0 fun w h=>⟨rfl,hk w hg2 h⟩
 have g5:¬ g.1 > most - ((o.len:Nat):Int):=g5
 rw [if_neg (by omega)] at hk
 have h0:St F0 w0 w (ztA sb rb V N most g2.2 :: ps):=h0
 clear h hol g4 g5
 obtain ⟨n,hn⟩:∃ k:Nat,g.1=k:=⟨g.1.toNat,by omega⟩
 rw [hn] at hk gl ⊢
 rw [Int.toNat_natCast] at hk
 generalize g2.2=z2 at hk h0 hg2 hgL
 unfold qnb.j2
 refine qsf (fun (a:Nat × Z) (i':Int) w'=>i'=a.1∧a.1≤n∧a.2.1≤8 * N∧a.2.2.1.length≤1000000∧zst (qo V (8 * N)) most (n - a.1) a.2=zst (qo V (8 * N)) most n z2∧St F0 w0 w' (ztA sb rb V N most a.2 :: ps)) (fun a=>n - a.1) (0,z2) ⟨rfl,by simp,hg2,hgL,rfl,h0⟩ ?_
 clear h0 hg2 hgL
 rintro ⟨i,z3⟩ i' wL I μ ⟨rfl,hi,hp3,hL3,hz,h⟩ hin
 simp only at hi hp3 hL3 hz h hin ⊢
 unfold qnb.b1
 refine qzc (fun g1=>?_) (fun g1=>?_)
 · obtain ⟨f,hf⟩:∃ f,n - i=f+1:=⟨n - i - 1,by omega⟩
   rw [hf,zst] at hz
   refine qvb.c h hN hp3 fun w hg h=>⟨_,rfl,?_⟩
   have gl:=qrk (B:=qo V (8 * N)) (z:=z3) 8
   have go:=qyc (B:=qo V (8 * N)) (z:=z3) 8
   generalize qhe (qo V (8 * N)) 8 z3=g at h hz hg gl go ⊢
   have pl:(2:Int) ^ (8:Int).toNat=256:=by decide
   rw [pl] at gl
   refine qcj ?_
   rw [qhn,show g.1 % 256=g.1 by omega]
   refine qmd.c h (by rw [go]; omega) fun w h=>⟨rfl,?_⟩
   refine qy (qk (by omega) (by omega)) ?_
   refine ⟨⟨rfl,rfl⟩,hin (i+1,zput most g.1 g.2) _ _ ⟨by simp,by simp only; omega,by simp only; rw [qdm]; exact hg,qyj _ hm (by rw [go]; exact hL3),?_,h⟩ (by simp only; omega)⟩
   simp only
   rw [show n - (i+1)=f by omega]
   exact hz
 · have:i=n:=by omega
   subst this
   rw [Nat.sub_self,zst] at hz
   rw [← hz] at hk
   exact hk wL hp3 h
end
end Go.Proofs.Ythdmmmfgjmmelaa
namespace Go.Proofs.Ythdmmmfgjmmelaa
set_option linter.unusedVariables false
set_option linter.unusedSimpArgs false
abbrev Tk:=Int × Int × Int
def tkN (t:Tk):Nat:=if t.2.1=0 then 1 else t.2.1.toNat
def tkBad (n:Nat) (t:Tk):Prop:=(t.2.1=0∧t.2.2 ≠ 0) ∨ (t.2.1 ≠ 0∧(t.1 ≠ 0 ∨ t.2.1 < 3 ∨ 258 < t.2.1 ∨ t.2.2 < 1 ∨ 32768 < t.2.2 ∨ (n:Int) < t.2.2))
instance (n:Nat) (t:Tk):Decidable (tkBad n t):=by unfold tkBad; infer_instance
def tkCopy (d:Int):Nat→List Int→List Int
 | 0,out=>out
 | k+1,out=>tkCopy d k (out ++ [out.getD (out.length - d.toNat) 0])
def tkExp (out:List Int) (t:Tk):List Int:=if t.2.1=0 then out ++ [t.1] else tkCopy t.2.2 t.2.1.toNat out
def tkAll (most:Int):List Int→List Tk→List Int × Int
 | out,[]=>(out,0)
 | out,t :: r=>if most - out.length < (tkN t:Int) then ([],5) else tkAll most (tkExp out t) r
def tkK (t:Tk):Nat:=if t.2.1=0 then 1 else if t.2.1 < 0 ∨ 258 < t.2.1 then 0 else t.2.1.toNat
theorem qwg (d:Int):∀ (k:Nat) (out:List Int),(tkCopy d k out).length=out.length+k:=by
 intro k
 induction k with
 | zero=>intro out; rfl
 | succ k ih=>intro out; rw [tkCopy,ih]; simp; omega
inductive que (b:List Int):Nat→List Tk→Nat→Prop
 | nil (n:Nat):que b n [] n
 | lit {n m:Nat} {r:List Tk} (h:n < b.length):que b (n+1) r m→que b n ((b.getD n 0,0,0) :: r) m
 | copy {n m k d:Nat} {r:List Tk} (h3:3≤k) (h258:k≤258) (hd:1≤d) (hdn:d≤n) (hdf:d≤32768) (hk:n+k≤b.length) (hs:∀ j,j < k→b.getD (n - d+j) 0=b.getD (n+j) 0) :
    que b (n+k) r m→que b n ((0,(k:Int),(d:Int)) :: r) m
theorem que.le {b:List Int} {n m:Nat} {l:List Tk} (h:que b n l m) (hn:n≤b.length):n≤m∧m≤b.length∧l.length≤m - n:=by
 induction h with
 | nil n=>exact ⟨Nat.le_refl _,hn,by simp⟩
 | lit h _ ih=>have:=ih (by omega); simp only [List.length_cons]; omega
 | copy h3 _ _ _ _ hk _ _ ih=>have:=ih hk; simp only [List.length_cons]; omega
theorem qln {b:List Int} {n i:Nat} (h:i < n):(b.take n).getD i 0=b.getD i 0:=by simp [List.getD,List.getElem?_take,h]
theorem qmf {b:List Int} {n:Nat} (h:n < b.length):b.take (n+1)=b.take n ++ [b.getD n 0]:=by
 rw [List.take_succ_eq_append_getElem h]
 simp [List.getD,h]
theorem qmp {b:List Int} {d:Nat} (hd:1≤d):∀ (k n:Nat),d≤n→n+k≤b.length→(∀ j,j < k→b.getD (n - d+j) 0=b.getD (n+j) 0)→tkCopy d k (b.take n)=b.take (n+k):=by
 intro k
 induction k with
 | zero=>intro n _ _ _; rfl
 | succ k ih =>
   intro n hn hk hs
   have hl:(b.take n).length=n:=by rw [List.length_take]; omega
   rw [tkCopy,hl,Int.toNat_natCast,qln (by omega)]
   have h0:=hs 0 (by omega)
   rw [Nat.add_zero,Nat.add_zero] at h0
   rw [h0,← qmf (by omega),ih (n+1) (by omega) (by omega) (fun j hj=>?_)]
   · rw [show n+1+k=n+(k+1) by omega]
   · have:=hs (j+1) (by omega)
     rw [show n+1 - d+j=n - d+(j+1) by omega,show n+1+j=n+(j+1) by omega]
     exact this
theorem que.all {b:List Int} {n m:Nat} {l:List Tk} (h:que b n l m) {most:Int} (hm:(b.length:Int)≤most):n≤b.length→∀ r,tkAll most (b.take n) (l ++ r)=tkAll most (b.take m) r:=by
 induction h with
 | nil n=>intro _ r; rfl
 | @lit n m r0 h _ ih =>
   intro hn r
   have e:tkN (b.getD n 0,0,0)=1:=rfl
   rw [List.cons_append,tkAll,e,if_neg (by rw [List.length_take]; omega)]
   have:tkExp (b.take n) (b.getD n 0,0,0)=b.take (n+1):=by unfold tkExp; rw [if_pos rfl,qmf h]
   rw [this]
   exact ih (by omega) r
 | @copy n m k d r0 h3 h258 hd hdn hdf hk hs _ ih =>
   intro hn r
   have e:tkN (0,(k:Int),(d:Int))=k:=by unfold tkN; simp; omega
   rw [List.cons_append,tkAll,e,if_neg (by rw [List.length_take]; omega)]
   have:tkExp (b.take n) (0,(k:Int),(d:Int))=b.take (n+k):=by
    unfold tkExp
    rw [if_neg (by simp; omega)]
    exact qmp hd k n hdn hk hs
   rw [this]
   exact ih hk r
theorem que.size {b:List Int} {n m:Nat} {l:List Tk} (h:que b n l m):n+(l.map tkK).sum=m:=by
 induction h with
 | nil n=>rfl
 | @lit n m r0 h _ ih =>
   have e:tkK (b.getD n 0,0,0)=1:=rfl
   rw [List.map_cons,List.sum_cons,e]; omega
 | @copy n m k d r0 h3 h258 hd hdn hdf hk hs _ ih =>
   have e:tkK (0,(k:Int),(d:Int))=k:=by
    unfold tkK
    rw [if_neg (by simp; omega),if_neg (by simp; omega)]
    simp
   rw [List.map_cons,List.sum_cons,e]; omega
theorem que.append {b:List Int} {n m k:Nat} {l r:List Tk} (h:que b n l m) (h2:que b m r k):que b n (l ++ r) k:=by
 induction h with
 | nil n=>exact h2
 | lit h _ ih=>exact que.lit h (ih h2)
 | copy h3 h258 hd hdn hdf hk hs _ ih=>exact que.copy h3 h258 hd hdn hdf hk hs (ih h2)
theorem que.cut {b:List Int} {n m:Nat} {l:List Tk} (h:que b n l m):∀ c,∃ k,que b n (l.take c) k∧que b k (l.drop c) m:=by
 induction h with
 | nil n=>intro c; exact ⟨n,by simpa using que.nil n,by simpa using que.nil n⟩
 | lit h hr ih =>
   intro c
   cases c with
   | zero=>exact ⟨_,que.nil _,que.lit h hr⟩
   | succ c =>
     obtain ⟨k,h1,h2⟩:=ih c
     exact ⟨k,que.lit h h1,h2⟩
 | copy h3 h258 hd hdn hdf hk hs hr ih =>
   intro c
   cases c with
   | zero=>exact ⟨_,que.nil _,que.copy h3 h258 hd hdn hdf hk hs hr⟩
   | succ c =>
     obtain ⟨k,h1,h2⟩:=ih c
     exact ⟨k,que.copy h3 h258 hd hdn hdf hk hs h1,h2⟩
end Go.Proofs.Ythdmmmfgjmmelaa
namespace Go.Proofs.Ythdmmmfgjmmelaa
open Go Go.Proofs
set_option linter.unusedVariables false
set_option linter.unusedSimpArgs false
attribute [local irreducible] apK cpK mkK br
theorem qgh:qkg.length=288:=by unfold qkg; simp only [List.length_append,List.length_replicate]
theorem flit_get {i:Nat} (h:i < 288):qkg.getD i 0=if i < 144 then 8 else if i < 256 then 9 else if i < 280 then 7 else 8:=by
 unfold qkg
 rw [List.getD,List.getElem?_append,List.length_replicate]
 by_cases h1:i < 144
 · rw [if_pos h1,if_pos h1,List.getElem?_replicate,if_pos h1]; rfl
 rw [if_neg h1,if_neg h1,List.getElem?_append,List.length_replicate]
 by_cases h2:i < 256
 · rw [if_pos (by omega),if_pos h2,List.getElem?_replicate,if_pos (by omega)]; rfl
 rw [if_neg (by omega),if_neg h2,List.getElem?_append,List.length_replicate]
 by_cases h3:i < 280
 · rw [if_pos (by omega),if_pos h3,List.getElem?_replicate,if_pos (by omega)]; rfl
 rw [if_neg (by omega),if_neg h3,List.getElem?_replicate,if_pos (by omega)]; rfl
theorem qqh:qxd.length=32:=by unfold qxd; simp only [List.length_replicate]
theorem fdist_get {i:Nat} (h:i < 32):qxd.getD i 0=5:=by
 unfold qxd
 rw [List.getD,List.getElem?_replicate,if_pos h]; rfl
section
variable {F0:List Nat} {w0 w:World} {ps rest rest2:List As} {sb rb V N:Nat} {most:Int} {z:Z}
theorem qaj.c {s:Sl} {cs:List Value} {K:Ending→World→Prop} (h:St F0 w0 w (rdA 1 s cs :: ps)) (hc:s.len≤s.cap)
 (hk:∀ s':Sl,s'.len=s.len→s'.cap=s.len→St F0 w0 w (rdA 1 s' cs :: ps)→K (.returned (.slice s'.a s'.len s'.cap)) w):Calls Try.prog 163 ⟨[.slice s.a s.len s.cap]⟩ w K:=by
 refine qoc (qng.ok _ _ _ ?_)
 unfold qng
 refine ⟨⟨by omega,by omega⟩,⟨by omega,by omega⟩,qcj ?_⟩
 refine hk ⟨_,_,_⟩ (by simp) (by simp) (h.recap ?_ (by simp))
 show qzf s.a _ 0 1=s.a
 unfold qzf
 split
 · rfl
 · cases s.a with
   | none=>rfl
   | some a=>simp [Addr.add]
theorem qu.c {K:Ending→World→Prop} (h:St F0 w0 w ps)
 (hk:∀ s t w',s.len=288→t.len=32→St F0 w0 w' (rdA 1 s (ivs .i64 qkg) :: rdA 1 t (ivs .i64 qxd) :: ps)→K (.returned (.tuple ⟨[.slice s.a s.len s.cap,.slice t.a t.len t.cap]⟩)) w'):Calls Try.prog 126 ⟨[]⟩ w K:=by
 refine qoc (qu.ok _ _ ?_)
 unfold qu qu.j1 qu.j5
 have e0:qdc 1 ⟨none,0,0⟩ []=qdc 1 ⟨none,0,0⟩ (ivs .i64 (qkg.take 0)):=rfl
 refine loop2 (fun (i:Nat) (o:Sl) (i':Int) w'=>i'=i∧i≤288∧St F0 w0 w' (qdc 1 o (ivs .i64 (qkg.take i)) :: ps)) (fun i=>288 - i) 0 ⟨rfl,by omega,h.nil 1⟩ ?_
 clear h
 rintro i o i' wL I μ ⟨rfl,hi,h⟩ hin
 unfold qu.b2
 refine qzc (fun g=>?_) (fun g=>?_)
 · have hi2:i < 288:=by omega
   have j9:∀ n:Int,n=qkg.getD i 0→qu.j9 o ⟨none,0,0⟩ n (i:Int) (fun v w'=>K (.returned v) w') (fun d' o' i' w'=>d'=⟨none,0,0⟩∧I o' i' w'∧μ o' i' w' < μ o (i:Int) wL) wL:=by
    intro n hn
    unfold qu.j9
    refine h.pushI (s:=o) (by rw [List.length_take]; omega) fun o2 w h=>?_
    unfold qu.j7
    refine qy (qk (by omega) (by omega)) ?_
    rw [hn,← qmf (by rw [qgh]; exact hi2)] at h
    exact ⟨rfl,hin (i+1) _ _ _ ⟨by omega,by omega,h⟩ (by omega)⟩
   have hg:=flit_get hi2
   unfold qu.j6 qu.j8 qu.j10
   refine qzc (fun g1=>?_) (fun g1=>?_)
   · rw [if_neg (by omega)] at hg
     refine qzc (fun g2=>?_) (fun g2=>?_)
     · exact j9 9 (by rw [hg,if_pos (by omega)])
     · rw [if_neg (by omega)] at hg
       refine qzc (fun g3=>?_) (fun g3=>by omega)
       refine qzc (fun g4=>?_) (fun g4=>?_)
       · exact j9 7 (by rw [hg,if_pos (by omega)])
       · exact j9 8 (by rw [hg,if_neg (by omega)])
   · rw [if_pos (by omega)] at hg
     refine qkl ?_
     refine qzc (fun g3=>by omega) (fun g3=>?_)
     exact j9 8 hg.symm
 · have:i=288:=by omega
   subst this
   rw [List.take_of_length_le (by rw [qgh]; omega)] at h
   unfold qu.j2 qu.j4
   refine loop2 (fun (i:Nat) (d:Sl) (i':Int) w'=>i'=i∧i≤32∧St F0 w0 w' (qdc 1 d (ivs .i64 (qxd.take i)) :: qdc 1 o (ivs .i64 qkg) :: ps)) (fun i=>32 - i) 0 ⟨rfl,by omega,h.nil 1⟩ ?_
   clear h hin
   rintro i d i' wL2 I2 μ2 ⟨rfl,hi,h⟩ hin
   unfold qu.b1
   refine qzc (fun g=>?_) (fun g=>?_)
   · have hi2:i < 32:=by omega
     refine h.pushI (s:=d) (by rw [List.length_take]; omega) fun d2 w h=>?_
     refine qy (qk (by omega) (by omega)) ?_
     rw [show (5:Int)=qxd.getD i 0 by rw [fdist_get hi2],← qmf (by rw [qqh]; exact hi2)] at h
     exact ⟨rfl,hin (i+1) _ _ _ ⟨by omega,by omega,h⟩ (by omega)⟩
   · have:i=32:=by omega
     subst this
     rw [List.take_of_length_le (by rw [qqh]; omega)] at h
     unfold qu.j3
     have c1:=h.cap (by decide)
     have c2:=h.at1.cap (by decide)
     have l1:=h.len
     have l2:=h.at1.len
     rw [qx,qqh] at l1
     rw [qx,qgh] at l2
     refine qaj.c h.at1.ro c2 fun s h1 h2 h=>⟨s,rfl,?_⟩
     refine qaj.c h.at1.ro c1 fun t h3 h4 h=>⟨t,rfl,?_⟩
     exact hk s t wL2 (by omega) (by omega) h.at1
theorem zcoded_len {ll dl:List Int} {B:List Bool} (hm:most≤1000000):∀ f (z:Z),z.2.1.length≤1000000→(qqd ll dl B most f z).2.1.length≤1000000:=by
 intro f
 induction f with
 | zero=>intro z h; exact h
 | succ f ih =>
   intro z h
   rw [qqd]
   split
   · exact h
   · simp only
     split
     · rw [qlg]; exact h
     · split
       · exact ih _ (qyj _ hm (by rw [qlg]; exact h))
       · exact ih _ (qfn dl _ hm (by rw [qlg]; exact h))
end
end Go.Proofs.Ythdmmmfgjmmelaa
namespace Go.Proofs.Ythdmmmfgjmmelaa
open Go Go.Proofs
set_option linter.unusedVariables false
set_option linter.unusedSimpArgs false
attribute [local irreducible] apK cpK mkK br
def tLenB:List Int:=[3,4,5,6,7,8,9,10,11,13,15,17,19,23,27,31,35,43,51,59,67,83,99,115,131,163,195,227,258]
def tLenX:List Int:=[0,0,0,0,0,0,0,0,1,1,1,1,2,2,2,2,3,3,3,3,4,4,4,4,5,5,5,5,0]
def tDisB:List Int:=[1,2,3,4,5,7,9,13,17,25,33,49,65,97,129,193,257,385,513,769,1025,1537,2049,3073,4097,6145,8193,12289,16385,24577]
def tDisX:List Int:=[0,0,0,0,1,1,2,2,3,3,4,4,5,5,6,6,7,7,8,8,9,9,10,10,11,11,12,12,13,13]
theorem zlen_t {v:Int} (h0:257≤v) (h1:v≤285):quh v=(tLenB.getD (v - 257).toNat 0,tLenX.getD (v - 257).toNat 0,true):=by
 have:∀ k:Nat,k < 29→quh (257+(k:Int))=(tLenB.getD k 0,tLenX.getD k 0,true):=by decide
 have h:=this (v - 257).toNat (by omega)
 rwa [show (257:Int)+((v - 257).toNat:Int)=v by omega] at h
theorem zdis_t {v:Int} (h0:0≤v) (h1:v≤29):qvh v=(tDisB.getD v.toNat 0,tDisX.getD v.toNat 0,true):=by
 have:∀ k:Nat,k < 30→qvh (k:Int)=(tDisB.getD k 0,tDisX.getD k 0,true):=by decide
 have h:=this v.toNat (by omega)
 rwa [show ((v.toNat:Nat):Int)=v by omega] at h
section
variable {F0:List Nat} {w0 w:World} {ps rest rest2:List As}
theorem flit_ok:okL qkg:=by
 intro x hx
 unfold qkg at hx
 simp only [List.mem_append,List.mem_replicate] at hx
 omega
theorem fdist_ok:okL qxd:=by
 intro x hx
 unfold qxd at hx
 simp only [List.mem_replicate] at hx
 omega
theorem kr_flit:kr qkg=32768:=by kernel_rfl
theorem kr_fdist:kr qxd=32768:=by kernel_rfl
end
end Go.Proofs.Ythdmmmfgjmmelaa
namespace Go.Proofs.Ythdmmmfgjmmelaa
open Go Go.Proofs
set_option linter.unusedVariables false
set_option linter.unusedSimpArgs false
def qhc (ls:List Int) (s:Nat):List Bool:=cbits (qef ls s) (ls.getD s 0).toNat
theorem qug (ls:List Int) (s:Nat):(qhc ls s).length=(ls.getD s 0).toNat:=qwj _ _
section
variable {B:List Bool} {most:Int}
theorem qac {p:Nat} {l r:List Bool} (h:B.drop p=l ++ r):B.drop (p+l.length)=r:=by
 rw [← List.drop_drop,h,List.drop_left' rfl]
theorem qic {p:Nat} {l r:List Bool} (h:B.drop p=l ++ r):l.length≤B.length - p:=by
 have:=congrArg List.length h
 rw [List.length_drop,List.length_append] at this
 omega
theorem qwe {p:Nat} {l r:List Bool} {out:List Int} {n:Int} (h:B.drop p=l ++ r) (hn:n=l.length) (hl:l.length≤24) (hp:p≤B.length):qhe B n (p,out,0)=((val l:Int),(p+l.length,out,0)):=by
 have:=qic h
 unfold qhe
 rw [if_neg (by simp),if_pos (by simp only; omega),h,hn,Int.toNat_natCast,List.take_left' rfl]
theorem zsym_at {ls:List Int} {p s:Nat} {r:List Bool} {out:List Int} (hok:okL ls) (hkr:kr ls≤32768) (hs:s < ls.length) (h0:0 < ls.getD s 0) (h:B.drop p=qhc ls s ++ r):qdj ls B (p,out,0)=((s:Int),(p+(qhc ls s).length,out,0)):=by
 have hm:ls.getD s 0=(((ls.getD s 0).toNat:Nat):Int):=by omega
 have h1:=hnext_code hok hs hm (by omega) (b:=B) (p:=p) (by rw [h]; exact List.take_left' (qug ls s)) (qip hok hkr hs hm (by omega))
 unfold qdj
 rw [if_neg (by simp),h1,qug]
theorem zlit_at {p s:Nat} {r:List Bool} {out:List Int} (hs:s < 288) (h:B.drop p=qhc qkg s ++ r):qdj qkg B (p,out,0)=((s:Int),(p+(qhc qkg s).length,out,0)) :=
 zsym_at flit_ok (by rw [kr_flit]; decide) (by rw [qgh]; exact hs) (by rw [flit_get hs]; split; decide; split; decide; split <;> decide) h
theorem zdist_at {p s:Nat} {r:List Bool} {out:List Int} (hs:s < 32) (h:B.drop p=qhc qxd s ++ r):qdj qxd B (p,out,0)=((s:Int),(p+(qhc qxd s).length,out,0)) :=
 zsym_at fdist_ok (by rw [kr_fdist]; decide) (by rw [qqh]; exact hs) (by rw [fdist_get hs]; decide) h
theorem zcp_full (p:Nat) (d:Int):∀ (n:Nat) (out:List Int),(out.length+n:Int)≤most→zcp most d n (p,out,0)=(p,tkCopy d n out,0):=by
 intro n
 induction n with
 | zero=>intro out _; rfl
 | succ n ih =>
   intro out h
   rw [zcp,if_neg (by simp),tkCopy]
   simp only
   unfold zput
   rw [if_neg (by simp),if_neg (by simp only; omega)]
   simp only
   exact ih _ (by rw [List.length_append,List.length_singleton]; omega)
theorem zcp_bad (d:Int) (n:Nat) {z:Z} (h:z.2.2 ≠ 0):zcp most d n z=z:=by
 cases n with
 | zero=>rfl
 | succ n=>rw [zcp,if_pos h]
theorem zcp_short (p:Nat) (d:Int):∀ (n:Nat) (out:List Int),(out.length:Int)≤most→most < (out.length+n:Int)→(zcp most d n (p,out,0)).2.2=5:=by
 intro n
 induction n with
 | zero=>intro out h1 h2; omega
 | succ n ih =>
   intro out h1 h2
   rw [zcp,if_neg (by simp)]
   simp only
   unfold zput
   rw [if_neg (by simp)]
   by_cases h3:most≤(out.length:Int)
   · rw [if_pos h3,zcp_bad _ _ (by simp)]
   · rw [if_neg h3]
     simp only
     exact ih _ (by rw [List.length_append,List.length_singleton]; omega) (by rw [List.length_append,List.length_singleton]; omega)
def symP (v:Int) (dist:Bool) (n e x:Int):Prop :=
 (dist=true∧0≤n∧n < 30∧∃ b,qvh n=(b,x,true)∧e=v - b∧b≤v∧v < b+2 ^ x.toNat∧0≤x) ∨
 (dist=false∧257≤n∧n≤285∧∃ b,quh n=(b,x,true)∧e=v - b∧b≤v∧v < b+2 ^ x.toNat∧0≤x)
inductive Fx:List Bool→List Int→Prop
 | nil:Fx [] []
 | lit {bits:List Bool} {out:List Int} {b:Int} (h:Fx bits out) (h0:0≤b) (h1:b < 256):Fx (bits ++ qhc qkg b.toNat) (out ++ [b])
 | copy {bits:List Bool} {out:List Int} {n d s e x s2 e2 x2:Int} (h:Fx bits out) (h3:3≤n) (h258:n≤258) (hd:1≤d) (hdo:d≤out.length) (hs:symP n false s e x) (hs2:symP d true s2 e2 x2) :
    Fx (bits ++ (qhc qkg s.toNat ++ (qo e x.toNat ++ (qhc qxd s2.toNat ++ qo e2 x2.toNat)))) (tkCopy d n.toNat out)
theorem qce {e x:Int} (h0:0≤e) (h1:e < 2 ^ x.toNat):((val (qo e x.toNat):Nat):Int)=e:=by
 rw [qai]
 exact Int.emod_eq_of_lt h0 h1
theorem zlen_x (v:Int):(quh v).2.1≤6:=by
 have:=(zlen_b v).2.2
 omega
theorem zdis_x (v:Int):(qvh v).2.1≤14:=by
 have:=(zdis_b v).2.2.1
 omega
theorem qap {p:Nat} {r:List Bool} {out:List Int} {n d s e x s2 e2 x2:Int} (hn:3≤n) (hs:symP n false s e x) (hs2:symP d true s2 e2 x2) (hd:1≤d) (hp:p≤B.length)
 (h:B.drop p=qo e x.toNat ++ (qhc qxd s2.toNat ++ (qo e2 x2.toNat ++ r))) :
 zbehind qxd B most s (p,out,0)=zcp most d n.toNat (if (out.length:Int) < d then qod 2 (p+((qo e x.toNat).length+((qhc qxd s2.toNat).length+(qo e2 x2.toNat).length)),out,0) else (p+((qo e x.toNat).length+((qhc qxd s2.toNat).length+(qo e2 x2.toNat).length)),out,0)):=by
 rcases hs with ⟨h1,_⟩ | ⟨_,hs0,hs1,b,hz,he,hb1,hb2,hx0⟩
 · cases h1
 rcases hs2 with ⟨_,hs20,hs21,b2,hz2,he2,hb3,hb4,hx20⟩ | ⟨h1,_⟩
 rotate_left
 · cases h1
 have hx:=zlen_x s
 have hx2:=zdis_x s2
 rw [hz] at hx
 rw [hz2] at hx2
 simp only at hx hx2
 have l1:=qic h
 have h':=qac h
 have l2:=qic h'
 have h'':=qac h'
 have l3:=qic h''
 unfold zbehind
 simp only [hz]
 unfold zok
 simp only [if_true]
 rw [qwe h (by rw [ql]; omega) (by rw [ql]; omega) hp]
 simp only
 rw [zdist_at (by omega) h']
 simp only
 rw [show ((s2.toNat:Nat):Int)=s2 by omega]
 simp only [hz2]
 simp only [if_true]
 rw [qwe h'' (by rw [ql]; omega) (by rw [ql]; omega) (by omega)]
 simp only
 rw [qce (by omega) (by omega),qce (by omega) (by omega),show b2+e2=d by omega,show b+e=n by omega]
 rw [show p+(qo e x.toNat).length+(qhc qxd s2.toNat).length+(qo e2 x2.toNat).length=p+((qo e x.toNat).length+((qhc qxd s2.toNat).length+(qo e2 x2.toNat).length)) by omega]
theorem qel {s:Nat} (hs:s < 288):1≤(qhc qkg s).length:=by
 rw [qug,flit_get hs]
 split
 · decide
 · split
   · decide
   · split <;> decide
theorem qwo {p:Nat} {r:List Bool} {out:List Int} {b:Int} (h0:0≤b) (h1:b < 256) (f:Nat) (h:B.drop p=qhc qkg b.toNat ++ r) :
 qqd qkg qxd B most (f+1) (p,out,0)=qqd qkg qxd B most f (zput most b (p+(qhc qkg b.toNat).length,out,0)):=by
 rw [qqd,if_neg (by simp)]
 simp only
 rw [zlit_at (by omega) h]
 simp only
 rw [if_neg (by omega),if_pos (by omega),show ((b.toNat:Nat):Int)=b by omega]
theorem qcn {p:Nat} {r:List Bool} {out:List Int} {s:Int} (h0:257≤s) (h1:s≤285) (f:Nat) (h:B.drop p=qhc qkg s.toNat ++ r) :
 qqd qkg qxd B most (f+1) (p,out,0)=qqd qkg qxd B most f (zbehind qxd B most s (p+(qhc qkg s.toNat).length,out,0)):=by
 rw [qqd,if_neg (by simp)]
 simp only
 rw [zlit_at (by omega) h]
 simp only
 rw [if_neg (by omega),if_neg (by omega),show ((s.toNat:Nat):Int)=s by omega]
theorem qxo (f:Nat) {z:Z} (h:z.2.2 ≠ 0):qqd qkg qxd B most f z=z:=by
 cases f with
 | zero=>rfl
 | succ f=>rw [qqd,if_pos h]
theorem qak {n s e x:Int} (h:symP n false s e x):257≤s∧s≤285:=by
 rcases h with ⟨h1,_⟩ | ⟨_,h1,h2,_⟩
 · cases h1
 · exact ⟨h1,h2⟩
theorem Fx.dec {bits:List Bool} {out:List Int} (h:Fx bits out):∀ {p:Nat} {r:List Bool},p≤B.length→B.drop p=bits ++ r→(out.length:Int)≤most →
 ∃ k,k≤bits.length∧∀ f,qqd qkg qxd B most (f+k) (p,[],0)=qqd qkg qxd B most f (p+bits.length,out,0):=by
 induction h with
 | nil=>intro p r hp hd hm; exact ⟨0,Nat.le_refl _,fun f=>rfl⟩
 | @lit bits out b h h0 h1 ih =>
   intro p r hp hd hm
   rw [List.length_append,List.length_singleton] at hm
   rw [List.append_assoc] at hd
   obtain ⟨k,hk,ih⟩:=ih hp hd (by omega)
   have hs:=qel (s:=b.toNat) (by omega)
   refine ⟨k+1,by rw [List.length_append]; omega,fun f=>?_⟩
   rw [show f+(k+1)=(f+1)+k by omega,ih,qwo h0 h1 f (qac hd)]
   unfold zput
   rw [if_neg (by simp),if_neg (by simp only; omega),List.length_append,Nat.add_assoc]
 | @copy bits out n d s e x s2 e2 x2 h h3 h258 hdd hdo hs hs2 ih =>
   intro p r hp hd hm
   rw [qwg] at hm
   rw [List.append_assoc] at hd
   obtain ⟨k,hk,ih⟩:=ih hp hd (by omega)
   have hr:=qak hs
   have hsp:=qel (s:=s.toNat) (by omega)
   refine ⟨k+1,by simp only [List.length_append]; omega,fun f=>?_⟩
   have l1:=qic hd
   have hd2:=qac hd
   rw [List.append_assoc] at hd2
   have l2:=qic hd2
   have hd3:=qac hd2
   simp only [List.append_assoc] at hd3
   rw [show f+(k+1)=(f+1)+k by omega,ih,qcn hr.1 hr.2 f hd2,qap h3 hs hs2 hdd (by omega) hd3,if_neg (by omega),zcp_full _ _ _ _ (by omega)]
   simp only [List.length_append,Nat.add_assoc]
theorem Fx.short {bits:List Bool} {out:List Int} (h:Fx bits out):∀ {p:Nat} {r:List Bool},p≤B.length→B.drop p=bits ++ r→0≤most→most < (out.length:Int) →
 ∀ f,(qqd qkg qxd B most (f+bits.length) (p,[],0)).2.2=5:=by
 induction h with
 | nil=>intro p r hp hd h0 hm; simp at hm; omega
 | @lit bits out b h h0 h1 ih =>
   intro p r hp hd hm0 hm
   rw [List.append_assoc] at hd
   have hs:=qel (s:=b.toNat) (by omega)
   intro f
   rw [List.length_append]
   by_cases hle:(out.length:Int)≤most
   · obtain ⟨k,hk,hdec⟩:=Fx.dec (most:=most) h hp hd hle
     rw [List.length_append,List.length_singleton] at hm
     rw [show f+(bits.length+(qhc qkg b.toNat).length)=((f+(bits.length - k)+((qhc qkg b.toNat).length - 1))+1)+k by omega,hdec,qwo h0 h1 _ (qac hd)]
     unfold zput
     rw [if_neg (by simp),if_pos (by simp only; omega),qxo _ (by simp)]
   · rw [show f+(bits.length+(qhc qkg b.toNat).length)=(f+(qhc qkg b.toNat).length)+bits.length by omega]
     exact ih hp hd hm0 (by omega) _
 | @copy bits out n d s e x s2 e2 x2 h h3 h258 hdd hdo hs hs2 ih =>
   intro p r hp hd hm0 hm
   rw [List.append_assoc] at hd
   have hr:=qak hs
   have hsp:=qel (s:=s.toNat) (by omega)
   intro f
   rw [qwg] at hm
   rw [List.length_append,List.length_append]
   by_cases hle:(out.length:Int)≤most
   · obtain ⟨k,hk,hdec⟩:=Fx.dec (most:=most) h hp hd hle
     have l1:=qic hd
     have hd2:=qac hd
     rw [List.append_assoc] at hd2
     have l2:=qic hd2
     have hd3:=qac hd2
     simp only [List.append_assoc] at hd3
     generalize (qo e x.toNat ++ (qhc qxd s2.toNat ++ qo e2 x2.toNat)).length=q
     rw [show f+(bits.length+((qhc qkg s.toNat).length+q))=((f+(bits.length - k)+((qhc qkg s.toNat).length - 1)+q)+1)+k by omega,hdec,qcn hr.1 hr.2 _ hd2,qap h3 hs hs2 hdd (by omega) hd3,if_neg (by omega)]
     have h5:=zcp_short (most:=most) (p+bits.length+(qhc qkg s.toNat).length+((qo e x.toNat).length+((qhc qxd s2.toNat).length+(qo e2 x2.toNat).length))) d n.toNat out hle (by omega)
     rw [qxo _ (by rw [h5]; decide),h5]
   · rw [show f+(bits.length+((qhc qkg s.toNat).length+(qo e x.toNat ++ (qhc qxd s2.toNat ++ qo e2 x2.toNat)).length))=(f+((qhc qkg s.toNat).length+(qo e x.toNat ++ (qhc qxd s2.toNat ++ qo e2 x2.toNat)).length))+bits.length by omega]
     exact ih hp hd hm0 (by omega) _
end
end Go.Proofs.Ythdmmmfgjmmelaa
namespace Go.Proofs.Ythdmmmfgjmmelaa
open Go Go.ChangeShapes Go.WideShapes Go.ChangeAt Go.RowKit
set_option maxRecDepth 100000
set_option linter.unusedSimpArgs false
set_option linter.unusedVariables false
theorem strip_cut (rest : List (List Char)) : stripLifts liftWords ("cut".toList :: rest) = ([], "cut".toList :: rest) := by rfl
theorem make_of (P : Program) (rest : List (List Char)) (h : behindMainWord (wordsSigns P.initOrder.toList) = "cut".toList :: rest) : P.make = some .cut := by
 unfold Program.make
 rw [h]
 rfl
theorem lifts_of (P : Program) (rest : List (List Char)) (h : behindMainWord (wordsSigns P.initOrder.toList) = "cut".toList :: rest) : P.liftsFinal = false := by
 unfold Program.liftsFinal Program.headLifts
 rw [h,strip_cut]
 rfl
theorem enter_of (P : Program) (rest : List (List Char)) (h : behindMainWord (wordsSigns P.initOrder.toList) = "cut".toList :: rest) (h1 : P.laysLater = false) (h2 : P.bearsReflect = false) (h3 : P.doorRows = []) : P.mayEnter = true := by
 unfold Program.mayEnter
 rw [h]
 simp only [strip_cut,h1,h2]
 unfold Program.doorFits
 rw [h3]
 rfl
theorem joined_of {P:Program} {f:FuncId} {fn:Func} {s:ChangeSpec} {c:OpenClaim}
 (k1:c.wf (OpenSpec.ofChange s)=true) (k2:laidOutB P=true) (k3:mapsRowed P=true) (k4:fn.params.all (P.readableRec ·)=true) (k5:namedTie P c.named s.vars=true)
 (k6:(c.stops == [])=true) (k7:(P.stops == [])=true) (k8:(c.knobs == [])=true) (k9:(P.stopKnobs == [])=true)
 (k10:(c.inPlace == P.inPlace f)=true) (k11:(c.unfollowed == P.unfollowed f)=true) (k12:(c.recurses == P.recurses f)=true) (k13:(c.named == P.varsNamed f)=true)
 (k14:(c.maps == (fn.params.toList ++ s.plain.varTypes P).any (P.mapsRec ·))=true) (k15:(c.ifaces == (fn.params.toList ++ s.plain.varTypes P).any (P.ifacesRec ·))=true) (k16:(c.mapsOut == P.mapsAmong fn.resultTypes.toList)=true)
 (k17:(c.loops == (fn.params.toList ++ s.plain.varTypes P).any (P.loopsFrom ·))=true) (k18:(c.wideKeys == (fn.params.toList ++ s.plain.varTypes P ++ fn.resultTypes.toList).any (P.wideKeysFrom ·))=true)
 (k19:s.vars.all (P.varReadable ·)=true) (k20:fn.resultTypes.all (fun t=>P.readableRec t && decide (t < P.types.size))=true) (k21:(c.ifacesOut == fn.resultTypes.toList.any (P.ifacesRec ·))=true) (k22:(c.loopsOut == fn.resultTypes.toList.any (P.loopsFrom ·))=true)
 (k23:(c.plainKeys == P.plainKeys)=true) (k24:c.shortTexts.isNone=true) (k25:P.stopsHeard=true) (k26:P.mayEnter=true) (k27:(c.lifted == P.liftsFinal)=true) (k28:(P.make == some c.make)=true)
 (k29:(c.kinds == (if c.domain.isEmpty then [] else fn.params.toList.map fun t=>match P.underlying t with | some (.int k)=>some k | _=>none))=true) (k30:(c.pinned == c.pinnedBy)=true)
 (k31:(c.veiled == (fn.params.toList ++ s.plain.varTypes P ++ fn.resultTypes.toList).any (P.veiledRec ·))=true) (k32:c.veiledFits P fn.params.toList (fn.params.toList ++ s.plain.varTypes P ++ fn.resultTypes.toList)=true):joinedFacts P f fn s c=true:=by
 unfold joinedFacts
 rw [k1,k2,k3,k4,k5,k6,k7,k8,k9,k10,k11,k12,k13,k14,k15,k16,k17,k18,k19,k20,k21,k22,k23,k24,k25,k26,k27,k28,k30,k31,k32]
 simp only [Bool.true_and,Bool.and_true]
 exact k29
theorem head_ex {α:Type} {a:α} {l:List α} (h:l.head?=some a):∃ r,l=a :: r:=by
 cases l with
 | nil=>cases h
 | cons b r=>simp at h; subst h; exact ⟨r,rfl⟩
theorem init_eq:Try.prog.initOrder=String.ofList (List.map Char.ofNat [104,97,114,110,101,115,115,32,56,56,102,56,54,99,99,97,50,101,49,53,54,52,57,48,54,55,53,97,56,50,99,53,102,98,97,101,48,52,57,98,51,54,51,54,55,55,55,50,48,97,49,101,48,100,102,49,98,50,49,55,98,98,49,53,97,54,99,52,102,57,48,49,32,99,117,116,32,97,116,32,116,114,111,118,101,47,116,114,111,118,101,108,97,119,54,46,76,105,109,105,116,87,105,100,101,114,32,116,114,111,118,101,47,116,114,111,118,101,108,97,119,54,46,76,105,109,105,116,66,101,115,116,32,116,114,111,118,101,47,116,114,111,118,101,108,97,119,54,46,76,105,109,105,116,67,111,100,101,115,32,116,114,111,118,101,47,116,114,111,118,101,108,97,119,49,57,46,71,114,97,112,104,71,114,111,119,115,32,116,114,111,118,101,47,116,114,111,118,101,108,97,119,49,57,46,71,114,97,112,104,77,97,110,121,32,116,114,111,118,101,47,116,114,111,118,101,108,97,119,57,46,90,108,105,98,83,109,97,108,108]):=by kernel_rfl
theorem qvl : ∃ rest, behindMainWord (wordsSigns Try.prog.initOrder.toList) = "cut".toList :: rest := by
 rw [init_eq,String.toList_ofList]
 exact head_ex (by kernel_rfl)
theorem f_make:Try.prog.make=some .cut:=by
 obtain ⟨r,h⟩:=qvl
 exact make_of _ r h
theorem f_lifts:Try.prog.liftsFinal=false:=by
 obtain ⟨r,h⟩:=qvl
 exact lifts_of _ r h
theorem f_later:Try.prog.laysLater=false:=by kernel_rfl
theorem f_refl:Try.prog.bearsReflect=false:=by kernel_rfl
theorem f_doors:Try.prog.doorRows=[]:=by kernel_rfl
theorem f_enter:Try.prog.mayEnter=true:=by
 obtain ⟨r,h⟩:=qvl
 exact enter_of _ r h f_later f_refl f_doors
theorem f_laid:laidOutB Try.prog=true:=by kernel_rfl
theorem f_maps:mapsRowed Try.prog=true:=by kernel_rfl
theorem f_stops:(Try.prog.stops == [])=true:=by kernel_rfl
theorem f_knobs:(Try.prog.stopKnobs == [])=true:=by kernel_rfl
theorem f_heard:Try.prog.stopsHeard=true:=by kernel_rfl
theorem f_own:ownKnob Try.prog.godebug=none:=by kernel_rfl
end Go.Proofs.Ythdmmmfgjmmelaa
namespace Go.Proofs.Ythdmmmfgjmmelaa
open Go Go.Proofs Go.ChangeShapes Go.WideShapes Go.MapKept Go.Maps
set_option linter.unusedVariables false
set_option linter.unusedSimpArgs false
theorem keyed_deep {P:Program} (hl:laidOutB P=true) {m:Nat} (hm:m+1≤10000) {k:TypeId} (hrow:k < P.types.size) (hk:P.keyTypeAt m k=true) (hwide:(match P.underlying k with | some (.array _ _) | some (.struct _)=>true | _=>false)=true):Keyed P k :=
 Keyed.of_law (deep_law_laid hl hm hrow hk hwide)
def kvs (es:Array MapEntry):List (Value × Value):=es.toList.map fun e=>(e.key,e.val)
section
variable {P:Program} {w:World} {k e t:TypeId} {b:Nat} {es:Array MapEntry} {clock:Nat}
theorem map_look (K:Keyed P k) (ht:P.underlying t=some (.map k e)) (hb:w.heap[b]?=some (.map es clock)) (hks:∀ p ∈ kvs es,∃ l,keyOf P k p.1=some l) {z key:Value} (c:Bool) (hz:(zeroValue e).run P w=.ok z w) (hkey:∃ l,keyOf P k key=some l) :
 ((Instr.lookup t (.map (some b)) key c).run P w=.ok (if c then .tuple #[z,.bool false] else z) w∧∀ p ∈ kvs es,p.1 ≠ key) ∨
 ∃ (j:Nat) (p:Value × Value),(kvs es)[j]?=some p∧p.1=key∧(Instr.lookup t (.map (some b)) key c).run P w=.ok (if c then .tuple #[p.2,.bool true] else p.2) w:=by
 obtain ⟨l,hkey⟩:=hkey
 have hks':∀ x ∈ es.toList,∃ l,keyOf P k x.key=some l:=fun x hx=>hks (x.key,x.val) (List.mem_map.2 ⟨x,hx,rfl⟩)
 rcases K.find w hkey es.toList hks' with ⟨h1,h2⟩ | ⟨j,e0,h1,h2,h3⟩
 · refine Or.inl ⟨by simp [Instr.lookup,qt ht,MapKept.run_getObj_map hb,K.check w _ hkey,h1,hz,Result.andThen],fun p hp=>?_⟩
   obtain ⟨x,hx,rfl⟩:=List.mem_map.1 hp
   exact h2 x hx
 · refine Or.inr ⟨j,(e0.key,e0.val),?_,h3,by simp [Instr.lookup,qt ht,MapKept.run_getObj_map hb,K.check w _ hkey,h1,Result.andThen]⟩
   unfold kvs
   rw [List.getElem?_map,h2]
   rfl
theorem map_set (K:Keyed P k) (ht:P.underlying t=some (.map k e)) (hb:w.heap[b]?=some (.map es clock)) (hks:∀ p ∈ kvs es,∃ l,keyOf P k p.1=some l) {key val:Value} (hkey:∃ l,keyOf P k key=some l) :
 ∃ es' clock',(Instr.mapUpdate t (.map (some b)) key val).run P w=.ok () { w with heap:=w.heap.setIfInBounds b (.map es' clock') } ∧
  ((kvs es'=kvs es ++ [(key,val)]∧∀ p ∈ kvs es,p.1 ≠ key) ∨ ∃ (j:Nat) (p:Value × Value),(kvs es)[j]?=some p∧p.1=key∧kvs es'=(kvs es).set j (key,val)):=by
 obtain ⟨l,hkey⟩:=hkey
 have hks':∀ x ∈ es.toList,∃ l,keyOf P k x.key=some l:=fun x hx=>hks (x.key,x.val) (List.mem_map.2 ⟨x,hx,rfl⟩)
 rcases K.find w hkey es.toList hks' with ⟨h1,h2⟩ | ⟨j,e0,h1,h2,h3⟩
 · refine ⟨es.push ⟨key,val,clock⟩,clock+1,?_,Or.inl ⟨by simp [kvs],fun p hp=>?_⟩⟩
   · simp [Instr.mapUpdate,qt ht,MapKept.run_getObj_map hb,K.check w false hkey,h1,MapKept.run_setObj_map _ hb,Result.andThen]
   · obtain ⟨x,hx,rfl⟩:=List.mem_map.1 hp
     exact h2 x hx
 · have hj:es[j]?=some e0:=by simpa using h2
   refine ⟨es.modify j fun e=>{ e with key,val },clock,?_,Or.inr ⟨j,(e0.key,e0.val),?_,h3,?_⟩⟩
   · simp [Instr.mapUpdate,qt ht,MapKept.run_getObj_map hb,K.check w false hkey,h1,hj,h3,K.stays w hkey,MapKept.run_setObj_map _ hb,Result.andThen]
   · unfold kvs
     rw [List.getElem?_map,h2]
     rfl
   · unfold kvs
     apply List.ext_getElem?
     intro i
     simp only [List.getElem?_map,Array.getElem?_toList,Array.getElem?_modify,List.getElem?_set,List.length_map,Array.length_toList]
     by_cases hij:j=i
     · subst hij
       have hlt:j < es.size:=(Array.getElem?_eq_some_iff.1 hj).1
       simp [hj,hlt]
     · simp [hij]
theorem map_make (w:World) (ht:True):(Instr.makeMap t none).run P w=.ok (.map (some w.heap.size)) (w.alloc (.map #[] 0)):=by
 simp [Instr.makeMap,newObj,Sem.run,Result.andThen]
end
def mpA (b:Nat) (kv:List (Value × Value)):As where
 hd w F:=(∃ es clock,w.heap[b]?=some (.map es clock)∧kvs es=kv)∧F=[b]
 keep:=by
  rintro w w' F G ⟨⟨es,c,h,e⟩,rfl⟩ m hd
  have hl:b < w.heap.size:=(Array.getElem?_eq_some_iff.1 h).1
  exact ⟨⟨es,c,by rw [m.frame b hl (hd b (by simp))]; exact h,e⟩,rfl⟩
 lt:=by
  rintro w F ⟨⟨es,c,h,e⟩,rfl⟩ x hx
  have:x=b:=by simpa using hx
  subst this
  exact (Array.getElem?_eq_some_iff.1 h).1
section
variable {F0:List Nat} {w0 w:World} {ps rest:List As} {P:Program} {k e t:TypeId} {b:Nat} {kv:List (Value × Value)}
theorem St.mget (h:St F0 w0 w (mpA b kv :: ps)):∃ es clock,w.heap[b]?=some (.map es clock)∧kvs es=kv:=by
 obtain ⟨F,h,_⟩:=h.get
 exact h
theorem St.mlook (h:St F0 w0 w (mpA b kv :: ps)) (K:Keyed P k) (ht:P.underlying t=some (.map k e)) (hks:∀ p ∈ kv,∃ l,keyOf P k p.1=some l) {z key:Value} (c:Bool) (hz:(zeroValue e).run P w=.ok z w) (hkey:∃ l,keyOf P k key=some l) :
 (lkR P t (.map (some b)) key c w (if c then .tuple #[z,.bool false] else z)∧∀ p ∈ kv,p.1 ≠ key) ∨
 ∃ (j:Nat) (p:Value × Value),kv[j]?=some p∧p.1=key∧lkR P t (.map (some b)) key c w (if c then .tuple #[p.2,.bool true] else p.2):=by
 obtain ⟨es,clock,hb,rfl⟩:=h.mget
 exact map_look K ht hb hks c hz hkey
theorem St.mset {key val:Value} {X:World→Prop} (h:St F0 w0 w (mpA b kv :: ps)) (K:Keyed P k) (ht:P.underlying t=some (.map k e)) (hks:∀ p ∈ kv,∃ l,keyOf P k p.1=some l) (hkey:∃ l,keyOf P k key=some l)
 (hk:∀ kv' w',St F0 w0 w' (mpA b kv' :: ps)→((kv'=kv ++ [(key,val)]∧∀ p ∈ kv,p.1 ≠ key) ∨ ∃ (j:Nat) (p:Value × Value),kv[j]?=some p∧p.1=key∧kv'=kv.set j (key,val))→X w') :
 ∃ w',muR P t (.map (some b)) key val w w'∧X w':=by
 obtain ⟨f,⟨⟨es,clock,hb,rfl⟩,rfl⟩,hst⟩:=h.step
 obtain ⟨es',clock',h1,h2⟩:=map_set (val:=val) K ht hb hks hkey
 refine ⟨_,h1,hk (kvs es') _ (hst _ [b] _ ⟨rfl,rfl,rfl,by simp,fun x hx hF=>?_⟩ (Gr.refl _ _) ⟨⟨es',clock',?_,rfl⟩,rfl⟩) h2⟩
 · simp only [Array.getElem?_setIfInBounds]
   rw [if_neg (fun e=>hF (by simp [e]))]
 · have hl:b < w.heap.size:=(Array.getElem?_eq_some_iff.1 hb).1
   simp [Array.getElem?_setIfInBounds,hl]
theorem St.mmake {X:Nat→World→Prop} (h:St F0 w0 w ps) (hk:∀ mb w',St F0 w0 w' (mpA mb [] :: ps)→X mb w'):∃ n:Nat,∃ w':World,mmR P t none w n w'∧X n w':=by
 refine ⟨_,_,map_make w trivial,hk _ _ (h.add (f':=[w.heap.size]) (Mod.alloc w _) ⟨⟨#[],0,?_,rfl⟩,rfl⟩ ?_)⟩
 · show (w.heap.push _)[w.heap.size]?=_
   rw [Array.getElem?_push_size]
 · intro x hx
   have:x=w.heap.size:=by simpa using hx
   exact Or.inr (by omega)
end
end Go.Proofs.Ythdmmmfgjmmelaa
namespace Go.Proofs.Ythdmmmfgjmmelaa
open Go Go.Proofs
set_option linter.unusedVariables false
set_option maxRecDepth 100000
def qpd (f_0:OAd) (at_1:Int) (Q:VWP) (w:World):Prop :=
 lt (⟨World.heapSize w,0,none⟩:Addr) fun a1 =>
 lt (World.alloc w (.cells (zc Try.prog 222) 222)) fun w2 =>
 nz f_0 fun a3 =>
 ldL w2 (Addr.add a3 0) fun x4 =>
 bd at_1 x4.len fun n5 =>
 lt (⟨qzf x4.a x4.cap n5 1,x4.len - n5,x4.cap - n5⟩:Sl) fun s6 =>
 3≤s6.len ∧
 nz s6.a fun a7 =>
 ldA w2 a7 3 fun c8 =>
 (c8).size=3 ∧
 stA w2 a1 c8 fun w9 =>
 ldA w9 a1 3 fun c10 =>
 Q (.agg c10) w9
theorem qpd.ok (f_0:OAd) (at_1:Int) (Q:VWP) (w:World) (h:qpd f_0 at_1 Q w):Calls Try.prog 161 ⟨[.pointer f_0,.int .i64 at_1]⟩ w (Ret Q):=by
 refine qn [.cell 4 222] Try.func161 rfl rfl rfl rfl ?_
 exact qg qpb _ (Eq.mp (by kernel_rfl) h)
def qcc.j2 (f_0:OAd) (at_1:Int) (Q:VWP) (w:World):Prop :=
 lt (World.drew w) fun w1 =>
 nz f_0 fun a2 =>
 (ldM w1 (Addr.add a2 1) fun x3 =>
 Calls Try.prog 161 ⟨[.pointer f_0,.int .i64 at_1]⟩ w1 fun e4 w5 =>
 ∃ r6:(Array Value),e4=.returned (.agg r6) ∧
 ∃ w7:World,muR Try.prog 176 (.map x3) (.agg r6) (.int .i64 at_1) w5 w7 ∧
 Q (.tuple ⟨[]⟩) w7)∧(
 Calls Try.prog 161 ⟨[.pointer f_0,.int .i64 at_1]⟩ w1 fun e8 w9 =>
 ∃ r10:(Array Value),e8=.returned (.agg r10) ∧
 ldM w9 (Addr.add a2 1) fun x11 =>
 ∃ w12:World,muR Try.prog 176 (.map x11) (.agg r10) (.int .i64 at_1) w9 w12 ∧
 Q (.tuple ⟨[]⟩) w12)
def qcc.j3 (f_0:OAd) (at_1:Int) (i_4:Int) (is_5:Bool) (Q:VWP) (w:World):Prop :=
 br is_5 (
 nz f_0 fun a13 =>
 ldL w (Addr.add a13 2) fun x14 =>
 ixS x14.a x14.len at_1 1 fun a15 =>
 st w a15 (.int .i64 i_4) fun w16 =>
 qcc.j2 f_0 at_1 Q w16) (
 qcc.j2 f_0 at_1 Q w)
def qcc.j1 (f_0:OAd) (at_1:Int) (Q:VWP) (w:World):Prop :=
 lt (World.drew w) fun w17 =>
 nz f_0 fun a18 =>
 (ldM w17 (Addr.add a18 1) fun x19 =>
 Calls Try.prog 161 ⟨[.pointer f_0,.int .i64 at_1]⟩ w17 fun e20 w21 =>
 ∃ r22:(Array Value),e20=.returned (.agg r22) ∧
 ∃ r23:Int,∃ r24:Bool,lkR Try.prog 176 (.map x19) (.agg r22) true w21 (.tuple ⟨[.int .i64 r23,.bool r24]⟩) ∧
 qcc.j3 f_0 at_1 r23 r24 Q w21)∧(
 Calls Try.prog 161 ⟨[.pointer f_0,.int .i64 at_1]⟩ w17 fun e25 w26 =>
 ∃ r27:(Array Value),e25=.returned (.agg r27) ∧
 ldM w26 (Addr.add a18 1) fun x28 =>
 ∃ r29:Int,∃ r30:Bool,lkR Try.prog 176 (.map x28) (.agg r27) true w26 (.tuple ⟨[.int .i64 r29,.bool r30]⟩) ∧
 qcc.j3 f_0 at_1 r29 r30 Q w26)
def qcc (f_0:OAd) (at_1:Int) (Q:VWP) (w:World):Prop :=
 nz f_0 fun a31 =>
 ldL w (Addr.add a31 2) fun x32 =>
 lt (⟨World.heapSize w,0,none⟩:Addr) fun a33 =>
 lt (World.alloc w (.cells ⟨[.int .i64 (-1)]⟩ 3)) fun w34 =>
 rdO w34 (some a33) (1 * 1) fun c35 =>
 apK Try.prog 3 w34 x32.a x32.len x32.cap 1 c35 fun s36 w37 =>
 nz f_0 fun a38 =>
 st w37 (Addr.add a38 2) (.slice s36.a s36.len s36.cap) fun w39 =>
 lt (IntKind.i64.wrap (at_1+3)) fun x40 =>
 nz f_0 fun a41 =>
 ldL w39 (Addr.add a41 0) fun x42 =>
 br (decide ((x40:Int) > ((x42.len:Nat):Int))) (
 Q (.tuple ⟨[]⟩) w39) (
 qcc.j1 f_0 at_1 Q w39)
theorem qcc.ok (f_0:OAd) (at_1:Int) (Q:VWP) (w:World) (h:qcc f_0 at_1 Q w):Calls Try.prog 122 ⟨[.pointer f_0,.int .i64 at_1]⟩ w (Ret Q):=by
 refine qn [] Try.func122 rfl rfl rfl rfl ?_
 refine qib qpb (fun ρ w=>asP (ρ 0) fun f_0=>asI .i64 (ρ 1) fun at_1=>qcc.j1 f_0 at_1 Q w) (Eq.mp (by kernel_rfl) h) ?_
 intro ρ w h
 obtain ⟨f_0,e0,h⟩:=qw h
 obtain ⟨at_1,e1,h⟩:=qe h
 refine qb e0 (qb (qa e1 rfl) ?_)
 refine qr (fun ρ w=>asP (ρ 0) fun f_0=>asI .i64 (ρ 1) fun at_1=>qcc.j2 f_0 at_1 Q w) ?_ ?_
 · skip
   refine qr (fun ρ w=>asP (ρ 0) fun f_0=>asI .i64 (ρ 1) fun at_1=>asI .i64 (ρ 4) fun i_4=>asB (ρ 5) fun is_5=>qcc.j3 f_0 at_1 i_4 is_5 Q w) ?_ ?_
   · skip
     exact qg qpb _ (Eq.mp (by kernel_rfl) h)
   · intro ρ w h
     obtain ⟨f_0,e0,h⟩:=qw h
     obtain ⟨at_1,e1,h⟩:=qe h
     obtain ⟨i_4,e4,h⟩:=qe h
     obtain ⟨is_5,e5,h⟩:=qgd h
     refine qb e0 (qb (qa e1 rfl) (qb (qa (qa e4 rfl) rfl) (qb (qa (qa (qa e5 rfl) rfl) rfl) ?_)))
     exact qg qpb _ (Eq.mp (by kernel_rfl) h)
 · intro ρ w h
   obtain ⟨f_0,e0,h⟩:=qw h
   obtain ⟨at_1,e1,h⟩:=qe h
   refine qb e0 (qb (qa e1 rfl) ?_)
   exact qg qpb _ (Eq.mp (by kernel_rfl) h)
def qec.j2 (n_7:Int) (Q:VWP) (w:World):Prop :=
 Q (.int .i64 n_7) w
def qec.b1 (f_0:OAd) (i_1:Int) (k_2 n_7:Int) (Q:VWP) (nx1:OAd→Int→Int→Int→World→Prop) (w:World):Prop :=
 lt (World.drew w) fun w1 =>
 br (decide ((n_7:Int) < 258)) (
 lt (IntKind.i64.wrap (k_2+n_7)) fun x2 =>
 nz f_0 fun a3 =>
 ldL w1 (Addr.add a3 0) fun x4 =>
 br (decide ((x2:Int) < ((x4.len:Nat):Int))) (
 nz f_0 fun a5 =>
 ldL w1 (Addr.add a5 0) fun x6 =>
 lt (IntKind.i64.wrap (i_1+n_7)) fun x7 =>
 ixS x6.a x6.len x7 1 fun a8 =>
 ldI .u8 w1 a8 fun x9 =>
 nz f_0 fun a10 =>
 ldL w1 (Addr.add a10 0) fun x11 =>
 lt (IntKind.i64.wrap (k_2+n_7)) fun x12 =>
 ixS x11.a x11.len x12 1 fun a13 =>
 ldI .u8 w1 a13 fun x14 =>
 br ((x9:Int) == x14) (
 lt (IntKind.i64.wrap (n_7+1)) fun x15 =>
 nx1 f_0 i_1 k_2 x15 w1) (
 qec.j2 n_7 Q w1)) (
 qec.j2 n_7 Q w1)) (
 qec.j2 n_7 Q w1)
def qec.l1 (f_0:OAd) (i_1:Int) (k_2 n_7:Int) (Q:VWP) (w:World):Prop :=
 ∃ (I:Int→World→Prop) (μ:Int→World→Nat),I n_7 w∧∀ n_7:Int,∀ w:World,I n_7 w→qec.b1 f_0 i_1 k_2 n_7 Q (fun f_0' i_1' k_2' n_7' w'=>(f_0'=f_0∧i_1'=i_1∧k_2'=k_2)∧I n_7' w'∧μ n_7' w' < μ n_7 w) w
def qec.j1 (f_0:OAd) (i_1:Int) (k_2 n_7:Int) (Q:VWP) (w:World):Prop :=
 qec.l1 f_0 i_1 k_2 n_7 Q w
def qec (f_0:OAd) (i_1:Int) (k_2:Int) (Q:VWP) (w:World):Prop :=
 qec.j1 f_0 i_1 k_2 0 Q w
theorem qec.ok (f_0:OAd) (i_1:Int) (k_2:Int) (Q:VWP) (w:World) (h:qec f_0 i_1 k_2 Q w):Calls Try.prog 162 ⟨[.pointer f_0,.int .i64 i_1,.int .i64 k_2]⟩ w (Ret Q):=by
 refine qn [.tmp 6] Try.func162 rfl rfl rfl rfl ?_
 refine qib qpb (fun ρ w=>asP (ρ 0) fun f_0=>asI .i64 (ρ 1) fun i_1=>asI .i64 (ρ 2) fun k_2=>asI .i64 (ρ 7) fun n_7=>qec.j1 f_0 i_1 k_2 n_7 Q w) (Eq.mp (by kernel_rfl) h) ?_
 intro ρ w h
 obtain ⟨f_0,e0,h⟩:=qw h
 obtain ⟨i_1,e1,h⟩:=qe h
 obtain ⟨k_2,e2,h⟩:=qe h
 obtain ⟨n_7,e7,h⟩:=qe h
 refine qb e0 (qb (qa e1 rfl) (qb (qa (qa e2 rfl) rfl) (qb (qa (qa (qa e7 rfl) rfl) rfl) ?_)))
 refine qr (fun ρ w=>asI .i64 (ρ 7) fun n_7=>qec.j2 n_7 Q w) ?_ ?_
 · skip
   refine qcb ?_
   obtain ⟨I,μ,hI,hr⟩:=h
   refine qhb (α:=Int) (fun s ρ=>ρ 7=.int .i64 s∧ρ 0=.pointer f_0∧ρ 1=.int .i64 i_1∧ρ 2=.int .i64 k_2) (fun s w=>I s w) (fun s w=>μ s w) n_7 ⟨rfl,rfl,rfl,rfl⟩ hI ?_
   rintro n_7 ρ w ⟨e7,e0,e1,e2⟩ hI
   have h:=hr n_7 w hI
   clear hr
   obtain ⟨nx1,hnx⟩:∃ nx:OAd→Int→Int→Int→World→Prop,nx=(fun f_0' i_1' k_2' n_7' w'=>(f_0'=f_0∧i_1'=i_1∧k_2'=k_2)∧I n_7' w'∧μ n_7' w' < μ n_7 w):=⟨_,rfl⟩
   rw [← hnx] at h
   refine qob (M:=fun ρ w=>asP (ρ 0) fun f_0=>asI .i64 (ρ 1) fun i_1=>asI .i64 (ρ 2) fun k_2=>asI .i64 (ρ 7) fun n_7=>nx1 f_0 i_1 k_2 n_7 w) ?_ (fun ρ w h=>?_)
   · skip
     refine qb e0 (qb (qa e1 rfl) (qb (qa (qa e2 rfl) rfl) (qb (qa (qa (qa e7 rfl) rfl) rfl) ?_)))
     exact qg qpb _ (Eq.mp (by kernel_rfl) h)
   · skip
     obtain ⟨f_0',e0',h⟩:=qw h
     obtain ⟨i_1',e1',h⟩:=qe h
     obtain ⟨k_2',e2',h⟩:=qe h
     obtain ⟨n_7',e7',h⟩:=qe h
     rw [hnx] at h
     obtain ⟨hu,hI2,hμ⟩:=h
     obtain ⟨rfl,rfl,rfl⟩:=hu
     exact ⟨n_7',⟨e7',e0',e1',e2'⟩,hI2,hμ⟩
 · intro ρ w h
   obtain ⟨n_7,e7,h⟩:=qe h
   refine qb e7 ?_
   exact qg qpb _ (Eq.mp (by kernel_rfl) h)
def qbb.j3 (t6 t7:Int) (Q:VWP) (w:World):Prop :=
 Q (.tuple ⟨[.int .i64 t6,.int .i64 t7]⟩) w
def qbb.j5 (d_0:OAd) (i_1:Int) (t2 t6 t7 t8:Int) (t9:Bool) (Q:VWP) (nx1:OAd→Int→Bool→Int→Int→Int→Int→World→Prop) (w:World):Prop :=
 lt (IntKind.i64.wrap (t2 - 1)) fun x1 =>
 nx1 d_0 i_1 t9 x1 t6 t7 t8 w
def qbb.j6 (d_0:OAd) (i_1:Int) (t2 t6 t7 t8:Int) (t9:Bool) (Q:VWP) (nx1:OAd→Int→Bool→Int→Int→Int→Int→World→Prop) (w:World):Prop :=
 nz d_0 fun a2 =>
 ldL w (Addr.add a2 2) fun x3 =>
 ixS x3.a x3.len t8 1 fun a4 =>
 ldI .i64 w a4 fun x5 =>
 br (decide ((x5:Int) < 0)) (
 qbb.j3 t6 t7 Q w) (
 br ((t6:Int) == 258) (
 qbb.j3 t6 t7 Q w) (
 qbb.j5 d_0 i_1 t2 t6 t7 x5 t9 Q nx1 w))
def qbb.j4 (d_0:OAd) (i_1:Int) (t2 t6 t7 t8:Int) (t9:Bool) (Q:VWP) (nx1:OAd→Int→Bool→Int→Int→Int→Int→World→Prop) (w:World):Prop :=
 Calls Try.prog 162 ⟨[.pointer d_0,.int .i64 t8,.int .i64 i_1]⟩ w fun e6 w7 =>
 ∃ r8:Int,e6=.returned (.int .i64 r8) ∧
 br (decide ((r8:Int) > t6)) (
 lt (IntKind.i64.wrap (i_1 - t8)) fun x9 =>
 qbb.j6 d_0 i_1 t2 r8 x9 t8 t9 Q nx1 w7) (
 qbb.j6 d_0 i_1 t2 t6 t7 t8 t9 Q nx1 w7)
def qbb.b1 (d_0:OAd) (i_1:Int) (t9:Bool) (t2:Int) (t6 t7 t8:Int) (Q:VWP) (nx1:OAd→Int→Bool→Int→Int→Int→Int→World→Prop) (w:World):Prop :=
 br t9 (
 br (decide ((t2:Int) > 0)) (
 lt (IntKind.i64.wrap (i_1 - t8)) fun x10 =>
 br (decide ((x10:Int)≤32768)) (
 qbb.j4 d_0 i_1 t2 t6 t7 t8 t9 Q nx1 w) (
 qbb.j3 t6 t7 Q w)) (
 qbb.j3 t6 t7 Q w)) (
 qbb.j3 t6 t7 Q w)
def qbb.l1 (d_0:OAd) (i_1:Int) (t9:Bool) (t2:Int) (t6 t7 t8:Int) (Q:VWP) (w:World):Prop :=
 ∃ (I:Int→Int→Int→Int→World→Prop) (μ:Int→Int→Int→Int→World→Nat),I t2 t6 t7 t8 w∧∀ t2:Int,∀ t6:Int,∀ t7:Int,∀ t8:Int,∀ w:World,I t2 t6 t7 t8 w→qbb.b1 d_0 i_1 t9 t2 t6 t7 t8 Q (fun d_0' i_1' t9' t2' t6' t7' t8' w'=>(d_0'=d_0∧i_1'=i_1∧t9'=t9)∧I t2' t6' t7' t8' w'∧μ t2' t6' t7' t8' w' < μ t2 t6 t7 t8 w) w
def qbb.j2 (d_0:OAd) (i_1:Int) (t2 t6 t7 t8:Int) (t9:Bool) (Q:VWP) (w:World):Prop :=
 qbb.l1 d_0 i_1 t9 t2 t6 t7 t8 Q w
def qbb.j1 (d_0:OAd) (i_1:Int) (t2 t6 t7:Int) (Q:VWP) (w:World):Prop :=
 lt (IntKind.i64.wrap (i_1+3)) fun x11 =>
 nz d_0 fun a12 =>
 ldL w (Addr.add a12 0) fun x13 =>
 br (decide ((x11:Int) > ((x13.len:Nat):Int))) (
 Q (.tuple ⟨[.int .i64 0,.int .i64 0]⟩) w) (
 lt (World.drew w) fun w14 =>
 nz d_0 fun a15 =>
 (ldM w14 (Addr.add a15 1) fun x16 =>
 Calls Try.prog 161 ⟨[.pointer d_0,.int .i64 i_1]⟩ w14 fun e17 w18 =>
 ∃ r19:(Array Value),e17=.returned (.agg r19) ∧
 ∃ r20:Int,∃ r21:Bool,lkR Try.prog 176 (.map x16) (.agg r19) true w18 (.tuple ⟨[.int .i64 r20,.bool r21]⟩) ∧
 qbb.j2 d_0 i_1 t2 t6 t7 r20 r21 Q w18)∧(
 Calls Try.prog 161 ⟨[.pointer d_0,.int .i64 i_1]⟩ w14 fun e22 w23 =>
 ∃ r24:(Array Value),e22=.returned (.agg r24) ∧
 ldM w23 (Addr.add a15 1) fun x25 =>
 ∃ r26:Int,∃ r27:Bool,lkR Try.prog 176 (.map x25) (.agg r24) true w23 (.tuple ⟨[.int .i64 r26,.bool r27]⟩) ∧
 qbb.j2 d_0 i_1 t2 t6 t7 r26 r27 Q w23))
def qbb (d_0:OAd) (i_1:Int) (t2:Int) (Q:VWP) (w:World):Prop :=
 qbb.j1 d_0 i_1 t2 0 0 Q w
theorem qbb.ok (d_0:OAd) (i_1:Int) (t2:Int) (Q:VWP) (w:World) (h:qbb d_0 i_1 t2 Q w):Calls Try.prog 121 ⟨[.pointer d_0,.int .i64 i_1,.int .i64 t2]⟩ w (Ret Q):=by
 refine qn [.tmp 6,.tmp 7] Try.func121 rfl rfl rfl rfl ?_
 refine qr (fun ρ w=>asP (ρ 0) fun d_0=>asI .i64 (ρ 1) fun i_1=>asI .i64 (ρ 2) fun t2=>asI .i64 (ρ 6) fun t6=>asI .i64 (ρ 7) fun t7=>qbb.j1 d_0 i_1 t2 t6 t7 Q w) ?_ ?_
 · skip
   exact qg qpb _ (Eq.mp (by kernel_rfl) h)
 · intro ρ w h
   obtain ⟨d_0,e0,h⟩:=qw h
   obtain ⟨i_1,e1,h⟩:=qe h
   obtain ⟨t2,e2,h⟩:=qe h
   obtain ⟨t6,e6,h⟩:=qe h
   obtain ⟨t7,e7,h⟩:=qe h
   refine qb e0 (qb (qa e1 rfl) (qb (qa (qa e2 rfl) rfl) (qb (qa (qa (qa e6 rfl) rfl) rfl) (qb (qa (qa (qa (qa e7 rfl) rfl) rfl) rfl) ?_))))
   refine qib qpb (fun ρ w=>asP (ρ 0) fun d_0=>asI .i64 (ρ 1) fun i_1=>asI .i64 (ρ 2) fun t2=>asI .i64 (ρ 6) fun t6=>asI .i64 (ρ 7) fun t7=>asI .i64 (ρ 8) fun t8=>asB (ρ 9) fun t9=>qbb.j2 d_0 i_1 t2 t6 t7 t8 t9 Q w) (Eq.mp (by kernel_rfl) h) ?_
   intro ρ w h
   obtain ⟨d_0,e0,h⟩:=qw h
   obtain ⟨i_1,e1,h⟩:=qe h
   obtain ⟨t2,e2,h⟩:=qe h
   obtain ⟨t6,e6,h⟩:=qe h
   obtain ⟨t7,e7,h⟩:=qe h
   obtain ⟨t8,e8,h⟩:=qe h
   obtain ⟨t9,e9,h⟩:=qgd h
   refine qb e0 (qb (qa e1 rfl) (qb (qa (qa e2 rfl) rfl) (qb (qa (qa (qa e6 rfl) rfl) rfl) (qb (qa (qa (qa (qa e7 rfl) rfl) rfl) rfl) (qb (qa (qa (qa (qa (qa e8 rfl) rfl) rfl) rfl) rfl) (qb (qa (qa (qa (qa (qa (qa e9 rfl) rfl) rfl) rfl) rfl) rfl) ?_))))))
   refine qr (fun ρ w=>asI .i64 (ρ 6) fun t6=>asI .i64 (ρ 7) fun t7=>qbb.j3 t6 t7 Q w) ?_ ?_
   · skip
     refine qcb ?_
     obtain ⟨I,μ,hI,hr⟩:=h
     refine qhb (α:=Int × Int × Int × Int) (fun s ρ=>ρ 2=.int .i64 s.1∧ρ 6=.int .i64 s.2.1∧ρ 7=.int .i64 s.2.2.1∧ρ 8=.int .i64 s.2.2.2∧ρ 0=.pointer d_0∧ρ 1=.int .i64 i_1∧ρ 9=.bool t9) (fun s w=>I s.1 s.2.1 s.2.2.1 s.2.2.2 w) (fun s w=>μ s.1 s.2.1 s.2.2.1 s.2.2.2 w) (t2,t6,t7,t8) ⟨rfl,rfl,rfl,rfl,rfl,rfl,rfl⟩ hI ?_
     rintro ⟨t2,t6,t7,t8⟩ ρ w ⟨e2,e6,e7,e8,e0,e1,e9⟩ hI
     have h:=hr t2 t6 t7 t8 w hI
     clear hr
     obtain ⟨nx1,hnx⟩:∃ nx:OAd→Int→Bool→Int→Int→Int→Int→World→Prop,nx=(fun d_0' i_1' t9' t2' t6' t7' t8' w'=>(d_0'=d_0∧i_1'=i_1∧t9'=t9)∧I t2' t6' t7' t8' w'∧μ t2' t6' t7' t8' w' < μ t2 t6 t7 t8 w):=⟨_,rfl⟩
     rw [← hnx] at h
     refine qob (M:=fun ρ w=>asP (ρ 0) fun d_0=>asI .i64 (ρ 1) fun i_1=>asB (ρ 9) fun t9=>asI .i64 (ρ 2) fun t2=>asI .i64 (ρ 6) fun t6=>asI .i64 (ρ 7) fun t7=>asI .i64 (ρ 8) fun t8=>nx1 d_0 i_1 t9 t2 t6 t7 t8 w) ?_ (fun ρ w h=>?_)
     · skip
       refine qb e0 (qb (qa e1 rfl) (qb (qa (qa e2 rfl) rfl) (qb (qa (qa (qa e6 rfl) rfl) rfl) (qb (qa (qa (qa (qa e7 rfl) rfl) rfl) rfl) (qb (qa (qa (qa (qa (qa e8 rfl) rfl) rfl) rfl) rfl) (qb (qa (qa (qa (qa (qa (qa e9 rfl) rfl) rfl) rfl) rfl) rfl) ?_))))))
       refine qr (fun ρ w=>asP (ρ 0) fun d_0=>asI .i64 (ρ 1) fun i_1=>asI .i64 (ρ 2) fun t2=>asI .i64 (ρ 6) fun t6=>asI .i64 (ρ 7) fun t7=>asI .i64 (ρ 8) fun t8=>asB (ρ 9) fun t9=>qbb.j4 d_0 i_1 t2 t6 t7 t8 t9 Q nx1 w) ?_ ?_
       · skip
         exact qg qpb _ (Eq.mp (by kernel_rfl) h)
       · intro ρ w h
         obtain ⟨d_0,e0,h⟩:=qw h
         obtain ⟨i_1,e1,h⟩:=qe h
         obtain ⟨t2,e2,h⟩:=qe h
         obtain ⟨t6,e6,h⟩:=qe h
         obtain ⟨t7,e7,h⟩:=qe h
         obtain ⟨t8,e8,h⟩:=qe h
         obtain ⟨t9,e9,h⟩:=qgd h
         refine qb e0 (qb (qa e1 rfl) (qb (qa (qa e2 rfl) rfl) (qb (qa (qa (qa e6 rfl) rfl) rfl) (qb (qa (qa (qa (qa e7 rfl) rfl) rfl) rfl) (qb (qa (qa (qa (qa (qa e8 rfl) rfl) rfl) rfl) rfl) (qb (qa (qa (qa (qa (qa (qa e9 rfl) rfl) rfl) rfl) rfl) rfl) ?_))))))
         refine qr (fun ρ w=>asP (ρ 0) fun d_0=>asI .i64 (ρ 1) fun i_1=>asI .i64 (ρ 2) fun t2=>asI .i64 (ρ 6) fun t6=>asI .i64 (ρ 7) fun t7=>asI .i64 (ρ 8) fun t8=>asB (ρ 9) fun t9=>qbb.j5 d_0 i_1 t2 t6 t7 t8 t9 Q nx1 w) ?_ ?_
         · skip
           refine qcb ?_
           refine qr (fun ρ w=>asP (ρ 0) fun d_0=>asI .i64 (ρ 1) fun i_1=>asI .i64 (ρ 2) fun t2=>asI .i64 (ρ 6) fun t6=>asI .i64 (ρ 7) fun t7=>asI .i64 (ρ 8) fun t8=>asB (ρ 9) fun t9=>qbb.j6 d_0 i_1 t2 t6 t7 t8 t9 Q nx1 w) ?_ ?_
           · skip
             exact qg qpb _ (Eq.mp (by kernel_rfl) h)
           · intro ρ w h
             obtain ⟨d_0,e0,h⟩:=qw h
             obtain ⟨i_1,e1,h⟩:=qe h
             obtain ⟨t2,e2,h⟩:=qe h
             obtain ⟨t6,e6,h⟩:=qe h
             obtain ⟨t7,e7,h⟩:=qe h
             obtain ⟨t8,e8,h⟩:=qe h
             obtain ⟨t9,e9,h⟩:=qgd h
             refine qb e0 (qb (qa e1 rfl) (qb (qa (qa e2 rfl) rfl) (qb (qa (qa (qa e6 rfl) rfl) rfl) (qb (qa (qa (qa (qa e7 rfl) rfl) rfl) rfl) (qb (qa (qa (qa (qa (qa e8 rfl) rfl) rfl) rfl) rfl) (qb (qa (qa (qa (qa (qa (qa e9 rfl) rfl) rfl) rfl) rfl) rfl) ?_))))))
             exact qg qpb _ (Eq.mp (by kernel_rfl) h)
         · intro ρ w h
           obtain ⟨d_0,e0,h⟩:=qw h
           obtain ⟨i_1,e1,h⟩:=qe h
           obtain ⟨t2,e2,h⟩:=qe h
           obtain ⟨t6,e6,h⟩:=qe h
           obtain ⟨t7,e7,h⟩:=qe h
           obtain ⟨t8,e8,h⟩:=qe h
           obtain ⟨t9,e9,h⟩:=qgd h
           refine qb e0 (qb (qa e1 rfl) (qb (qa (qa e2 rfl) rfl) (qb (qa (qa (qa e6 rfl) rfl) rfl) (qb (qa (qa (qa (qa e7 rfl) rfl) rfl) rfl) (qb (qa (qa (qa (qa (qa e8 rfl) rfl) rfl) rfl) rfl) (qb (qa (qa (qa (qa (qa (qa e9 rfl) rfl) rfl) rfl) rfl) rfl) ?_))))))
           exact qg qpb _ (Eq.mp (by kernel_rfl) h)
     · skip
       obtain ⟨d_0',e0',h⟩:=qw h
       obtain ⟨i_1',e1',h⟩:=qe h
       obtain ⟨t9',e9',h⟩:=qgd h
       obtain ⟨t2',e2',h⟩:=qe h
       obtain ⟨t6',e6',h⟩:=qe h
       obtain ⟨t7',e7',h⟩:=qe h
       obtain ⟨t8',e8',h⟩:=qe h
       rw [hnx] at h
       obtain ⟨hu,hI2,hμ⟩:=h
       obtain ⟨rfl,rfl,rfl⟩:=hu
       exact ⟨(t2',t6',t7',t8'),⟨e2',e6',e7',e8',e0',e1',e9'⟩,hI2,hμ⟩
   · intro ρ w h
     obtain ⟨t6,e6,h⟩:=qe h
     obtain ⟨t7,e7,h⟩:=qe h
     refine qb e6 (qb (qa e7 rfl) ?_)
     exact qg qpb _ (Eq.mp (by kernel_rfl) h)
def qgc.j4 (out_7:Sl) (Q:VWP) (w:World):Prop :=
 Calls Try.prog 123 ⟨[.slice out_7.a out_7.len out_7.cap]⟩ w fun e1 w2 =>
 ∃ r3:Sl,e1=.returned (.slice r3.a r3.len r3.cap) ∧
 Q (.slice r3.a r3.len r3.cap) w2
def qgc.b2 (b_0:Sl) (f_5:OAd) (looks_6:Int) (out_7:Sl) (t47 at_8 t48:Int) (Q:VWP) (nx1:Sl→OAd→Int→Sl→Int→World→Prop) (nx2:Sl→OAd→Int→Sl→Int→Int→Int→World→Prop) (w:World):Prop :=
 br (decide ((t48:Int) < t47)) (
 Calls Try.prog 122 ⟨[.pointer f_5,.int .i64 at_8]⟩ w fun e4 w5 =>
 e4=.returned (.tuple ⟨[]⟩) ∧
 lt (IntKind.i64.wrap (at_8+1)) fun x6 =>
 lt (IntKind.i64.wrap (t48+1)) fun x7 =>
 nx2 b_0 f_5 looks_6 out_7 t47 x6 x7 w5) (
 nx1 b_0 f_5 looks_6 out_7 at_8 w)
def qgc.l2 (b_0:Sl) (f_5:OAd) (looks_6:Int) (out_7:Sl) (t47 at_8 t48:Int) (Q:VWP) (nx1:Sl→OAd→Int→Sl→Int→World→Prop) (w:World):Prop :=
 ∃ (I:Int→Int→World→Prop) (μ:Int→Int→World→Nat),I at_8 t48 w∧∀ at_8:Int,∀ t48:Int,∀ w:World,I at_8 t48 w→qgc.b2 b_0 f_5 looks_6 out_7 t47 at_8 t48 Q nx1 (fun b_0' f_5' looks_6' out_7' t47' at_8' t48' w'=>(b_0'=b_0∧f_5'=f_5∧looks_6'=looks_6∧out_7'=out_7∧t47'=t47)∧I at_8' t48' w'∧μ at_8' t48' w' < μ at_8 t48 w) w
def qgc.j9 (b_0:Sl) (f_5:OAd) (looks_6:Int) (out_7:Sl) (at_8 t47 t48:Int) (Q:VWP) (nx1:Sl→OAd→Int→Sl→Int→World→Prop) (w:World):Prop :=
 qgc.l2 b_0 f_5 looks_6 out_7 t47 at_8 t48 Q nx1 w
def qgc.j8 (b_0:Sl) (f_5:OAd) (looks_6:Int) (out_7:Sl) (at_8 n_9:Int) (t_11:Addr) (Q:VWP) (nx1:Sl→OAd→Int→Sl→Int→World→Prop) (w:World):Prop :=
 ldA w t_11 3 fun c8 =>
 (c8).size=3 ∧
 lt (⟨World.heapSize w,0,none⟩:Addr) fun a9 =>
 lt (World.alloc w (.cells ⟨(spl [.int .u8 0,.int .i64 0,.int .i64 0] 0 c8)⟩ 170)) fun w10 =>
 rdO w10 (some a9) (1 * 3) fun c11 =>
 apK Try.prog 170 w10 out_7.a out_7.len out_7.cap 1 c11 fun s12 w13 =>
 qgc.j9 b_0 f_5 looks_6 s12 at_8 n_9 0 Q nx1 w13
def qgc.j7 (b_0:Sl) (f_5:OAd) (looks_6:Int) (out_7:Sl) (at_8 n_9 d_10:Int) (Q:VWP) (nx1:Sl→OAd→Int→Sl→Int→World→Prop) (w:World):Prop :=
 lt (⟨World.heapSize w,0,none⟩:Addr) fun a14 =>
 lt (World.alloc w (.cells (zc Try.prog 170) 170)) fun w15 =>
 ((⟨[.int .u8 0,.int .i64 n_9,.int .i64 d_10]⟩:Array Value)).size=3 ∧
 stA w15 a14 (⟨[.int .u8 0,.int .i64 n_9,.int .i64 d_10]⟩:Array Value) fun w16 =>
 br (decide ((n_9:Int) < 3)) (
 ixS b_0.a b_0.len at_8 1 fun a17 =>
 ldI .u8 w16 a17 fun x18 =>
 ((⟨[.int .u8 x18,.int .i64 0,.int .i64 0]⟩:Array Value)).size=3 ∧
 stA w16 a14 (⟨[.int .u8 x18,.int .i64 0,.int .i64 0]⟩:Array Value) fun w19 =>
 qgc.j8 b_0 f_5 looks_6 out_7 at_8 1 a14 Q nx1 w19) (
 qgc.j8 b_0 f_5 looks_6 out_7 at_8 n_9 a14 Q nx1 w16)
def qgc.j6 (b_0:Sl) (f_5:OAd) (looks_6:Int) (out_7:Sl) (at_8:Int) (Q:VWP) (nx1:Sl→OAd→Int→Sl→Int→World→Prop) (w:World):Prop :=
 Calls Try.prog 121 ⟨[.pointer f_5,.int .i64 at_8,.int .i64 looks_6]⟩ w fun e20 w21 =>
 ∃ r22:Int,∃ r23:Int,e20=.returned (.tuple ⟨[.int .i64 r22,.int .i64 r23]⟩) ∧
 qgc.j7 b_0 f_5 looks_6 out_7 at_8 r22 r23 Q nx1 w21
def qgc.b1 (b_0:Sl) (f_5:OAd) (looks_6:Int) (out_7:Sl) (at_8:Int) (Q:VWP) (nx1:Sl→OAd→Int→Sl→Int→World→Prop) (w:World):Prop :=
 br (decide ((at_8:Int) < ((b_0.len:Nat):Int))) (
 qgc.j6 b_0 f_5 looks_6 out_7 at_8 Q nx1 w) (
 qgc.j4 out_7 Q w)
def qgc.l1 (b_0:Sl) (f_5:OAd) (looks_6:Int) (out_7:Sl) (at_8:Int) (Q:VWP) (w:World):Prop :=
 ∃ (I:Sl→Int→World→Prop) (μ:Sl→Int→World→Nat),I out_7 at_8 w∧∀ out_7:Sl,∀ at_8:Int,∀ w:World,I out_7 at_8 w→qgc.b1 b_0 f_5 looks_6 out_7 at_8 Q (fun b_0' f_5' looks_6' out_7' at_8' w'=>(b_0'=b_0∧f_5'=f_5∧looks_6'=looks_6)∧I out_7' at_8' w'∧μ out_7' at_8' w' < μ out_7 at_8 w) w
def qgc.j5 (b_0:Sl) (f_5:OAd) (looks_6:Int) (out_7:Sl) (at_8:Int) (Q:VWP) (w:World):Prop :=
 qgc.l1 b_0 f_5 looks_6 out_7 at_8 Q w
def qgc.j3 (b_0:Sl) (f_5:OAd) (looks_6:Int) (out_7:Sl) (Q:VWP) (w:World):Prop :=
 qgc.j5 b_0 f_5 looks_6 out_7 0 Q w
def qgc.j2 (b_0:Sl) (effort_1:Int) (f_5:OAd) (Q:VWP) (w:World):Prop :=
 lt (if (0:Int) > effort_1 then 0 else effort_1) fun x24 =>
 lt (if (4096:Int) < x24 then 4096 else x24) fun x25 =>
 qgc.j3 b_0 f_5 x25 ⟨none,0,0⟩ Q w
def qgc.j1 (b_0:Sl) (effort_1:Int) (Q:VWP) (w:World):Prop :=
 br (decide ((((b_0.len:Nat):Int):Int) > 262144)) (
 Q (.slice none 0 0) w) (
 ∃ n26:Nat,∃ w27:World,mmR Try.prog 176 none w n26 w27 ∧
 lt (⟨World.heapSize w27,0,none⟩:Addr) fun a28 =>
 lt (World.alloc w27 (.cells (⟨[.slice b_0.a b_0.len b_0.cap,.map (some n26),.slice none 0 0]⟩:Array Value) 178)) fun w29 =>
 qgc.j2 b_0 effort_1 (some a28) Q w29)
def qgc (b_0:Sl) (effort_1:Int) (Q:VWP) (w:World):Prop :=
 qgc.j1 b_0 effort_1 Q w
theorem qgc.ok (b_0:Sl) (effort_1:Int) (Q:VWP) (w:World) (h:qgc b_0 effort_1 Q w):Calls Try.prog 78 ⟨[.slice b_0.a b_0.len b_0.cap,.int .i64 effort_1]⟩ w (Ret Q):=by
 refine qn [.tmp 4] Try.func78 rfl rfl rfl rfl ?_
 refine qr (fun ρ w=>asL (ρ 0) fun b_0=>asI .i64 (ρ 1) fun effort_1=>qgc.j1 b_0 effort_1 Q w) ?_ ?_
 · skip
   exact qg qpb _ (Eq.mp (by kernel_rfl) h)
 · intro ρ w h
   obtain ⟨b_0,e0,h⟩:=qj h
   obtain ⟨effort_1,e1,h⟩:=qe h
   refine qb e0 (qb (qa e1 rfl) ?_)
   refine qib qpb (fun ρ w=>asL (ρ 0) fun b_0=>asI .i64 (ρ 1) fun effort_1=>asP (ρ 5) fun f_5=>qgc.j2 b_0 effort_1 f_5 Q w) (Eq.mp (by kernel_rfl) h) ?_
   intro ρ w h
   obtain ⟨b_0,e0,h⟩:=qj h
   obtain ⟨effort_1,e1,h⟩:=qe h
   obtain ⟨f_5,e5,h⟩:=qw h
   refine qb e0 (qb (qa e1 rfl) (qb (qa (qa e5 rfl) rfl) ?_))
   refine qib qpb (fun ρ w=>asL (ρ 0) fun b_0=>asP (ρ 5) fun f_5=>asI .i64 (ρ 6) fun looks_6=>asL (ρ 7) fun out_7=>qgc.j3 b_0 f_5 looks_6 out_7 Q w) (Eq.mp (by kernel_rfl) h) ?_
   intro ρ w h
   obtain ⟨b_0,e0,h⟩:=qj h
   obtain ⟨f_5,e5,h⟩:=qw h
   obtain ⟨looks_6,e6,h⟩:=qe h
   obtain ⟨out_7,e7,h⟩:=qj h
   refine qb e0 (qb (qa e5 rfl) (qb (qa (qa e6 rfl) rfl) (qb (qa (qa (qa e7 rfl) rfl) rfl) ?_)))
   refine qr (fun ρ w=>asL (ρ 7) fun out_7=>qgc.j4 out_7 Q w) ?_ ?_
   · skip
     refine qr (fun ρ w=>asL (ρ 0) fun b_0=>asP (ρ 5) fun f_5=>asI .i64 (ρ 6) fun looks_6=>asL (ρ 7) fun out_7=>asI .i64 (ρ 8) fun at_8=>qgc.j5 b_0 f_5 looks_6 out_7 at_8 Q w) ?_ ?_
     · skip
       exact qg qpb _ (Eq.mp (by kernel_rfl) h)
     · intro ρ w h
       obtain ⟨b_0,e0,h⟩:=qj h
       obtain ⟨f_5,e5,h⟩:=qw h
       obtain ⟨looks_6,e6,h⟩:=qe h
       obtain ⟨out_7,e7,h⟩:=qj h
       obtain ⟨at_8,e8,h⟩:=qe h
       refine qb e0 (qb (qa e5 rfl) (qb (qa (qa e6 rfl) rfl) (qb (qa (qa (qa e7 rfl) rfl) rfl) (qb (qa (qa (qa (qa e8 rfl) rfl) rfl) rfl) ?_))))
       refine qcb ?_
       obtain ⟨I,μ,hI,hr⟩:=h
       refine qhb (α:=Sl × Int) (fun s ρ=>ρ 7=.slice s.1.a s.1.len s.1.cap∧ρ 8=.int .i64 s.2∧ρ 0=.slice b_0.a b_0.len b_0.cap∧ρ 5=.pointer f_5∧ρ 6=.int .i64 looks_6) (fun s w=>I s.1 s.2 w) (fun s w=>μ s.1 s.2 w) (out_7,at_8) ⟨rfl,rfl,rfl,rfl,rfl⟩ hI ?_
       rintro ⟨out_7,at_8⟩ ρ w ⟨e7,e8,e0,e5,e6⟩ hI
       have h:=hr out_7 at_8 w hI
       clear hr
       obtain ⟨nx1,hnx⟩:∃ nx:Sl→OAd→Int→Sl→Int→World→Prop,nx=(fun b_0' f_5' looks_6' out_7' at_8' w'=>(b_0'=b_0∧f_5'=f_5∧looks_6'=looks_6)∧I out_7' at_8' w'∧μ out_7' at_8' w' < μ out_7 at_8 w):=⟨_,rfl⟩
       rw [← hnx] at h
       refine qob (M:=fun ρ w=>asL (ρ 0) fun b_0=>asP (ρ 5) fun f_5=>asI .i64 (ρ 6) fun looks_6=>asL (ρ 7) fun out_7=>asI .i64 (ρ 8) fun at_8=>nx1 b_0 f_5 looks_6 out_7 at_8 w) ?_ (fun ρ w h=>?_)
       · skip
         refine qb e0 (qb (qa e5 rfl) (qb (qa (qa e6 rfl) rfl) (qb (qa (qa (qa e7 rfl) rfl) rfl) (qb (qa (qa (qa (qa e8 rfl) rfl) rfl) rfl) ?_))))
         refine qr (fun ρ w=>asL (ρ 0) fun b_0=>asP (ρ 5) fun f_5=>asI .i64 (ρ 6) fun looks_6=>asL (ρ 7) fun out_7=>asI .i64 (ρ 8) fun at_8=>qgc.j6 b_0 f_5 looks_6 out_7 at_8 Q nx1 w) ?_ ?_
         · skip
           exact qg qpb _ (Eq.mp (by kernel_rfl) h)
         · intro ρ w h
           obtain ⟨b_0,e0,h⟩:=qj h
           obtain ⟨f_5,e5,h⟩:=qw h
           obtain ⟨looks_6,e6,h⟩:=qe h
           obtain ⟨out_7,e7,h⟩:=qj h
           obtain ⟨at_8,e8,h⟩:=qe h
           refine qb e0 (qb (qa e5 rfl) (qb (qa (qa e6 rfl) rfl) (qb (qa (qa (qa e7 rfl) rfl) rfl) (qb (qa (qa (qa (qa e8 rfl) rfl) rfl) rfl) ?_))))
           refine qcb ?_
           refine qr (fun ρ w=>asL (ρ 0) fun b_0=>asP (ρ 5) fun f_5=>asI .i64 (ρ 6) fun looks_6=>asL (ρ 7) fun out_7=>asI .i64 (ρ 8) fun at_8=>asI .i64 (ρ 9) fun n_9=>asI .i64 (ρ 10) fun d_10=>qgc.j7 b_0 f_5 looks_6 out_7 at_8 n_9 d_10 Q nx1 w) ?_ ?_
           · skip
             exact qg qpb _ (Eq.mp (by kernel_rfl) h)
           · intro ρ w h
             obtain ⟨b_0,e0,h⟩:=qj h
             obtain ⟨f_5,e5,h⟩:=qw h
             obtain ⟨looks_6,e6,h⟩:=qe h
             obtain ⟨out_7,e7,h⟩:=qj h
             obtain ⟨at_8,e8,h⟩:=qe h
             obtain ⟨n_9,e9,h⟩:=qe h
             obtain ⟨d_10,e10,h⟩:=qe h
             refine qb e0 (qb (qa e5 rfl) (qb (qa (qa e6 rfl) rfl) (qb (qa (qa (qa e7 rfl) rfl) rfl) (qb (qa (qa (qa (qa e8 rfl) rfl) rfl) rfl) (qb (qa (qa (qa (qa (qa e9 rfl) rfl) rfl) rfl) rfl) (qb (qa (qa (qa (qa (qa (qa e10 rfl) rfl) rfl) rfl) rfl) rfl) ?_))))))
             refine qib qpb (fun ρ w=>asL (ρ 0) fun b_0=>asP (ρ 5) fun f_5=>asI .i64 (ρ 6) fun looks_6=>asL (ρ 7) fun out_7=>asI .i64 (ρ 8) fun at_8=>asI .i64 (ρ 9) fun n_9=>asA (ρ 11) fun t_11=>qgc.j8 b_0 f_5 looks_6 out_7 at_8 n_9 t_11 Q nx1 w) (Eq.mp (by kernel_rfl) h) ?_
             intro ρ w h
             obtain ⟨b_0,e0,h⟩:=qj h
             obtain ⟨f_5,e5,h⟩:=qw h
             obtain ⟨looks_6,e6,h⟩:=qe h
             obtain ⟨out_7,e7,h⟩:=qj h
             obtain ⟨at_8,e8,h⟩:=qe h
             obtain ⟨n_9,e9,h⟩:=qe h
             obtain ⟨t_11,e11,h⟩:=qbe h
             refine qb e0 (qb (qa e5 rfl) (qb (qa (qa e6 rfl) rfl) (qb (qa (qa (qa e7 rfl) rfl) rfl) (qb (qa (qa (qa (qa e8 rfl) rfl) rfl) rfl) (qb (qa (qa (qa (qa (qa e9 rfl) rfl) rfl) rfl) rfl) (qb (qa (qa (qa (qa (qa (qa e11 rfl) rfl) rfl) rfl) rfl) rfl) ?_))))))
             refine qib qpb (fun ρ w=>asL (ρ 0) fun b_0=>asP (ρ 5) fun f_5=>asI .i64 (ρ 6) fun looks_6=>asL (ρ 7) fun out_7=>asI .i64 (ρ 8) fun at_8=>asI .i64 (ρ 47) fun t47=>asI .i64 (ρ 48) fun t48=>qgc.j9 b_0 f_5 looks_6 out_7 at_8 t47 t48 Q nx1 w) (Eq.mp (by kernel_rfl) h) ?_
             intro ρ w h
             obtain ⟨b_0,e0,h⟩:=qj h
             obtain ⟨f_5,e5,h⟩:=qw h
             obtain ⟨looks_6,e6,h⟩:=qe h
             obtain ⟨out_7,e7,h⟩:=qj h
             obtain ⟨at_8,e8,h⟩:=qe h
             obtain ⟨t47,e47,h⟩:=qe h
             obtain ⟨t48,e48,h⟩:=qe h
             refine qb e0 (qb (qa e5 rfl) (qb (qa (qa e6 rfl) rfl) (qb (qa (qa (qa e7 rfl) rfl) rfl) (qb (qa (qa (qa (qa e8 rfl) rfl) rfl) rfl) (qb (qa (qa (qa (qa (qa e47 rfl) rfl) rfl) rfl) rfl) (qb (qa (qa (qa (qa (qa (qa e48 rfl) rfl) rfl) rfl) rfl) rfl) ?_))))))
             refine qcb ?_
             obtain ⟨I,μ,hI,hr⟩:=h
             refine qhb (α:=Int × Int) (fun s ρ=>ρ 8=.int .i64 s.1∧ρ 48=.int .i64 s.2∧ρ 0=.slice b_0.a b_0.len b_0.cap∧ρ 5=.pointer f_5∧ρ 6=.int .i64 looks_6∧ρ 7=.slice out_7.a out_7.len out_7.cap∧ρ 47=.int .i64 t47) (fun s w=>I s.1 s.2 w) (fun s w=>μ s.1 s.2 w) (at_8,t48) ⟨rfl,rfl,rfl,rfl,rfl,rfl,rfl⟩ hI ?_
             rintro ⟨at_8,t48⟩ ρ w ⟨e8,e48,e0,e5,e6,e7,e47⟩ hI
             have h:=hr at_8 t48 w hI
             clear hr
             obtain ⟨nx2,hnx⟩:∃ nx:Sl→OAd→Int→Sl→Int→Int→Int→World→Prop,nx=(fun b_0' f_5' looks_6' out_7' t47' at_8' t48' w'=>(b_0'=b_0∧f_5'=f_5∧looks_6'=looks_6∧out_7'=out_7∧t47'=t47)∧I at_8' t48' w'∧μ at_8' t48' w' < μ at_8 t48 w):=⟨_,rfl⟩
             rw [← hnx] at h
             refine qob (M:=fun ρ w=>asL (ρ 0) fun b_0=>asP (ρ 5) fun f_5=>asI .i64 (ρ 6) fun looks_6=>asL (ρ 7) fun out_7=>asI .i64 (ρ 47) fun t47=>asI .i64 (ρ 8) fun at_8=>asI .i64 (ρ 48) fun t48=>nx2 b_0 f_5 looks_6 out_7 t47 at_8 t48 w) ?_ (fun ρ w h=>?_)
             · skip
               refine qb e0 (qb (qa e5 rfl) (qb (qa (qa e6 rfl) rfl) (qb (qa (qa (qa e7 rfl) rfl) rfl) (qb (qa (qa (qa (qa e8 rfl) rfl) rfl) rfl) (qb (qa (qa (qa (qa (qa e47 rfl) rfl) rfl) rfl) rfl) (qb (qa (qa (qa (qa (qa (qa e48 rfl) rfl) rfl) rfl) rfl) rfl) ?_))))))
               exact qg qpb _ (Eq.mp (by kernel_rfl) h)
             · skip
               obtain ⟨b_0',e0',h⟩:=qj h
               obtain ⟨f_5',e5',h⟩:=qw h
               obtain ⟨looks_6',e6',h⟩:=qe h
               obtain ⟨out_7',e7',h⟩:=qj h
               obtain ⟨t47',e47',h⟩:=qe h
               obtain ⟨at_8',e8',h⟩:=qe h
               obtain ⟨t48',e48',h⟩:=qe h
               rw [hnx] at h
               obtain ⟨hu,hI2,hμ⟩:=h
               obtain ⟨rfl,rfl,rfl,rfl,rfl⟩:=hu
               exact ⟨(at_8',t48'),⟨e8',e48',e0',e5',e6',e7',e47'⟩,hI2,hμ⟩
       · skip
         obtain ⟨b_0',e0',h⟩:=qj h
         obtain ⟨f_5',e5',h⟩:=qw h
         obtain ⟨looks_6',e6',h⟩:=qe h
         obtain ⟨out_7',e7',h⟩:=qj h
         obtain ⟨at_8',e8',h⟩:=qe h
         rw [hnx] at h
         obtain ⟨hu,hI2,hμ⟩:=h
         obtain ⟨rfl,rfl,rfl⟩:=hu
         exact ⟨(out_7',at_8'),⟨e7',e8',e0',e5',e6'⟩,hI2,hμ⟩
   · intro ρ w h
     obtain ⟨out_7,e7,h⟩:=qj h
     refine qb e7 ?_
     exact qg qpb _ (Eq.mp (by kernel_rfl) h)
def qve (s_0:Sl) (Q:VWP) (w:World):Prop :=
 bd ((s_0.len:Nat):Int) s_0.cap fun n1 =>
 bd ((s_0.len:Nat):Int) n1 fun n2 =>
 lt (⟨qzf s_0.a n1 0 3,n2 - 0,n1 - 0⟩:Sl) fun s3 =>
 Q (.slice s3.a s3.len s3.cap) w
theorem qve.ok (s_0:Sl) (Q:VWP) (w:World) (h:qve s_0 Q w):Calls Try.prog 123 ⟨[.slice s_0.a s_0.len s_0.cap]⟩ w (Ret Q):=by
 refine qn [.tmp 2] Try.func123 rfl rfl rfl rfl ?_
 exact qg qpb _ (Eq.mp (by kernel_rfl) h)
end Go.Proofs.Ythdmmmfgjmmelaa
namespace Go.Proofs.Ythdmmmfgjmmelaa
open Go Go.Proofs
set_option linter.unusedVariables false
set_option linter.unusedSimpArgs false
attribute [local irreducible] apK cpK mkK br
abbrev tks (L:List Tk):List Value:=tri .u8 .i64 .i64 L
def tkC (t:Tk):List Value:=[.int .u8 t.1,.int .i64 t.2.1,.int .i64 t.2.2]
theorem zc_tok:zc Try.prog 170=⟨[.int .u8 0,.int .i64 0,.int .i64 0]⟩:=by kernel_rfl
theorem tks_snoc (L:List Tk) (t:Tk):tks (L ++ [t])=tks L ++ tkC t:=by simp [tri,tkC]
theorem qjj (t:Tk):∀ v ∈ (⟨tkC t⟩:Array Value),storable v:=by
 intro v hv
 have hv:v ∈ tkC t:=by simpa using hv
 simp [tkC] at hv
 rcases hv with rfl | rfl | rfl <;> trivial
section
variable {F0:List Nat} {w0 w:World} {ps rest:List As} {L:List Tk}
theorem Rd.ixT {s:Sl} {i:Int} {K:Addr→Prop} (h:Rd w 3 s (tks L)) (j:Nat) (hi:i=j) (hj:j < L.length)
 (hk:∀ a,w.cell? (a.add 0)=some (.int .u8 L[j].1)→w.cell? (a.add 1)=some (.int .i64 L[j].2.1)→w.cell? (a.add 2)=some (.int .i64 L[j].2.2)→K a):ixS s.a s.len i 3 K:=by
 subst hi
 have hl:=h.1
 rw [qgg] at hl
 refine h.ix (by decide) (by omega) (by omega) fun a ha=>?_
 rw [show ((j:Int)).toNat * 3=j * 3 by omega]
 obtain ⟨g1,g2,g3⟩:=tri_get .u8 .i64 .i64 L j hj
 refine hk _ ?_ ?_ ?_
 · rw [qwk,h.cell ha (by rw [qgg]; omega)]; exact g1
 · rw [qwk,h.cell ha (by rw [qgg]; omega)]; exact g2
 · rw [qwk,h.cell ha (by rw [qgg]; omega)]; exact g3
theorem ldA_tok {a:Addr} {t:Tk} {K:Array Value→Prop} (h0:w.cell? (a.add 0)=some (.int .u8 t.1)) (h1:w.cell? (a.add 1)=some (.int .i64 t.2.1)) (h2:w.cell? (a.add 2)=some (.int .i64 t.2.2)) (hk:K ⟨tkC t⟩):ldA w a 3 K :=
 ⟨⟨tkC t⟩,rfl,fun i hi=>by
   have:i=0 ∨ i=1 ∨ i=2:=by omega
   rcases this with rfl | rfl | rfl
   · rw [h0]; rfl
   · rw [h1]; rfl
   · rw [h2]; rfl,hk⟩
theorem St.ltok {s:Sl} {i:Int} {K:Array Value→Prop} (h:St F0 w0 w ps) [Rdb F0 w0 s ps 3 (tks L)] (j:Nat) (hi:i=j) (hj:j < L.length) (hk:K ⟨tkC L[j]⟩):ixS s.a s.len i 3 fun a=>ldA w a 3 K :=
 (h.rdb s).ixT j hi hj fun a h0 h1 h2=>ldA_tok h0 h1 h2 hk
theorem St.tokN {t:Tk} {K:Addr→World→Prop} (h:St F0 w0 w ps) (hk:∀ nb w',St F0 w0 w' (qxc nb (tkC t) :: ps)→K ⟨nb,0,none⟩ w') :
 lt (⟨World.heapSize w,0,none⟩:Addr) fun a=>lt (World.alloc w (.cells (zc Try.prog 170) 170)) fun w1=>(⟨tkC t⟩:Array Value).size=3∧Go.Proofs.Ythdmmmfgjmmelaa.stA w1 a ⟨tkC t⟩ fun w2=>K a w2:=by
 rw [zc_tok]
 refine h.new fun nb w h=>⟨rfl,?_⟩
 exact h.sA (l:=[.int .u8 0,.int .i64 0,.int .i64 0]) rfl rfl (qjj t) fun w h=>hk nb w h
end
end Go.Proofs.Ythdmmmfgjmmelaa
namespace Go.Proofs.Ythdmmmfgjmmelaa
set_option linter.unusedVariables false
set_option linter.unusedSimpArgs false
def qhh (b:List Int) (i:Nat):Int × Int × Int:=(b.getD i 0,b.getD (i+1) 0,b.getD (i+2) 0)
def lastK (b:List Int) (k:Int × Int × Int):Nat→Option Nat
 | 0=>none
 | n+1=>if qhh b n=k then some n else lastK b k n
theorem qzg {b:List Int} {k:Int × Int × Int}:∀ {n i:Nat},lastK b k n=some i→i < n∧qhh b i=k∧∀ j,i < j→j < n→qhh b j ≠ k:=by
 intro n
 induction n with
 | zero=>intro i h; cases h
 | succ n ih =>
   intro i h
   rw [lastK] at h
   split at h
   · rename_i hk
     injection h with h
     subst h
     exact ⟨by omega,hk,fun j h1 h2=>by omega⟩
   · rename_i hk
     obtain ⟨h1,h2,h3⟩:=ih h
     refine ⟨by omega,h2,fun j h4 h5=>?_⟩
     by_cases e:j=n
     · subst e; exact hk
     · exact h3 j h4 (by omega)
theorem qgp {b:List Int} {k:Int × Int × Int}:∀ {n:Nat},lastK b k n=none→∀ j,j < n→qhh b j ≠ k:=by
 intro n
 induction n with
 | zero=>intro _ j h; omega
 | succ n ih =>
   intro h j hj
   rw [lastK] at h
   split at h
   · cases h
   · rename_i hk
     by_cases e:j=n
     · subst e; exact hk
     · exact ih h j (by omega)
def sameN (b:List Int) (i k:Nat):Nat→Nat→Nat
 | 0,n=>n
 | f+1,n=>if k+n < b.length∧b.getD (i+n) 0=b.getD (k+n) 0 then sameN b i k f (n+1) else n
def qqi (b:List Int) (i k:Nat):Nat:=sameN b i k 258 0
theorem qol (b:List Int) (i k:Nat):∀ f n,(∀ j,j < n→k+j < b.length∧b.getD (i+j) 0=b.getD (k+j) 0) →
 n≤sameN b i k f n∧sameN b i k f n≤n+f∧(∀ j,j < sameN b i k f n→k+j < b.length∧b.getD (i+j) 0=b.getD (k+j) 0) ∧
 (sameN b i k f n < n+f→¬ (k+sameN b i k f n < b.length∧b.getD (i+sameN b i k f n) 0=b.getD (k+sameN b i k f n) 0)):=by
 intro f
 induction f with
 | zero=>intro n h; exact ⟨Nat.le_refl _,Nat.le_refl _,h,fun h1=>by simp [sameN] at h1⟩
 | succ f ih =>
   intro n h
   rw [sameN]
   split
   · rename_i hc
     obtain ⟨h1,h2,h3,h4⟩:=ih (n+1) (fun j hj=>by
      by_cases e:j=n
      · subst e; exact hc
      · exact h j (by omega))
     exact ⟨by omega,by omega,h3,fun hlt=>h4 (by omega)⟩
   · rename_i hc
     exact ⟨Nat.le_refl _,by omega,h,fun _=>hc⟩
theorem same_le (b:List Int) (i k:Nat):qqi b i k≤258:=by have:=(qol b i k 258 0 (fun j hj=>by omega)).2.1; unfold qqi; omega
theorem same_eq {b:List Int} {i k j:Nat} (h:j < qqi b i k):k+j < b.length∧b.getD (i+j) 0=b.getD (k+j) 0:=(qol b i k 258 0 (fun j hj=>by omega)).2.2.1 j h
theorem same_all {b:List Int} {i k:Nat} (h:∀ j,k+j < b.length→b.getD (i+j) 0=b.getD (k+j) 0):min 258 (b.length - k)≤qqi b i k:=by
 have:=(qol b i k 258 0 (fun j hj=>by omega)).2.2.2
 unfold qqi
 rcases Nat.lt_or_ge (sameN b i k 258 0) (min 258 (b.length - k)) with h1 | h1
 · exact absurd ⟨by omega,h _ (by omega)⟩ (this (by omega))
 · exact h1
def walkL (b:List Int) (at':Nat):Nat→Nat→Nat→Nat→Nat × Nat
 | 0,_,n,d=>(n,d)
 | f+1,i,n,d =>
   if 32768 < at' - i then (n,d)
   else
    let n':=if n < qqi b i at' then qqi b i at' else n
    let d':=if n < qqi b i at' then at' - i else d
    match lastK b (qhh b i) i with
    | none=>(n',d')
    | some j=>if n'=258 then (n',d') else walkL b at' f j n' d'
def bestL (b:List Int) (at' looks:Nat):Nat × Nat :=
 if b.length < at'+3 then (0,0) else match lastK b (qhh b at') at' with
  | none=>(0,0)
  | some i=>walkL b at' looks i 0 0
def goodC (b:List Int) (at':Nat) (x:Nat × Nat):Prop:=x.1=0 ∨ (x.1≤258∧1≤x.2∧x.2≤at'∧x.2≤32768∧at'+x.1≤b.length∧∀ j,j < x.1→b.getD (at' - x.2+j) 0=b.getD (at'+j) 0)
theorem goodC_same {b:List Int} {at' i:Nat} (hi:i < at') (hf:¬ 32768 < at' - i):goodC b at' (qqi b i at',at' - i):=by
 rcases Nat.eq_zero_or_pos (qqi b i at') with h0 | h0
 · exact Or.inl h0
 · right
   refine ⟨same_le _ _ _,by show 1≤at' - i; omega,by show at' - i≤at'; omega,by show at' - i≤32768; omega,?_,fun j hj=>?_⟩
   · have:=(same_eq (b:=b) (i:=i) (k:=at') (j:=qqi b i at' - 1) (by omega)).1
     show at'+qqi b i at'≤b.length
     omega
   · show b.getD (at' - (at' - i)+j) 0=_
     rw [show at' - (at' - i)=i by omega]
     exact (same_eq hj).2
theorem walkL_good (b:List Int) (at':Nat):∀ f i n d,i < at'→goodC b at' (n,d)→goodC b at' (walkL b at' f i n d):=by
 intro f
 induction f with
 | zero=>intro i n d _ h; exact h
 | succ f ih =>
   intro i n d hi h
   rw [walkL]
   split
   · exact h
   · rename_i hf
     have hg:goodC b at' (if n < qqi b i at' then qqi b i at' else n,if n < qqi b i at' then at' - i else d):=by
      by_cases hl:n < qqi b i at'
      · rw [if_pos hl,if_pos hl]; exact goodC_same hi hf
      · rw [if_neg hl,if_neg hl]; exact h
     simp only
     generalize (if n < qqi b i at' then qqi b i at' else n)=n2 at hg ⊢
     generalize (if n < qqi b i at' then at' - i else d)=d2 at hg ⊢
     split
     · exact hg
     · rename_i j hj
       have:=(qzg hj).1
       split
       · exact hg
       · exact ih _ _ _ (by omega) hg
theorem qpp (b:List Int) (at' looks:Nat):goodC b at' (bestL b at' looks):=by
 unfold bestL
 split
 · exact Or.inl rfl
 · split
   · exact Or.inl rfl
   · rename_i i hi
     exact walkL_good _ _ _ _ _ _ (qzg hi).1 (Or.inl rfl)
theorem walkL_ge (b:List Int) (at':Nat):∀ f i n d,n≤(walkL b at' f i n d).1:=by
 intro f
 induction f with
 | zero=>intro i n d; exact Nat.le_refl _
 | succ f ih =>
   intro i n d
   rw [walkL]
   split
   · exact Nat.le_refl _
   · simp only
     have hn:n≤if n < qqi b i at' then qqi b i at' else n:=by split <;> omega
     generalize (if n < qqi b i at' then qqi b i at' else n)=n2 at hn ⊢
     generalize (if n < qqi b i at' then at' - i else d)=d2
     split
     · exact hn
     · split
       · exact hn
       · exact Nat.le_trans hn (ih _ _ _)
theorem walkL_far {b:List Int} {at' R:Nat} (hR:R≤at') (hR0:0 < R) (hR1:R≤100) (h3:at'+3≤b.length) (h:∀ j,at'+j < b.length→b.getD (at' - R+j) 0=b.getD (at'+j) 0) :
 ∀ f i n d,at' - R≤i→i < at'→qhh b i=qhh b at'→i - (at' - R) < f→min 258 (b.length - at')≤(walkL b at' f i n d).1:=by
 have hkey:qhh b (at' - R)=qhh b at':=by
  unfold qhh
  have h0:=h 0 (by omega)
  have h1:=h 1 (by omega)
  have h2:=h 2 (by omega)
  rw [Nat.add_zero,Nat.add_zero] at h0
  rw [h0,h1,h2]
 intro f
 induction f with
 | zero=>intro i n d _ _ _ h; omega
 | succ f ih =>
   intro i n d hi hia hk hf
   rw [walkL,if_neg (by omega)]
   simp only
   have hn:qqi b i at'≤if n < qqi b i at' then qqi b i at' else n:=by split <;> omega
   generalize (if n < qqi b i at' then qqi b i at' else n)=n2 at hn ⊢
   generalize (if n < qqi b i at' then at' - i else d)=d2
   by_cases e:i=at' - R
   · have hs:min 258 (b.length - at')≤qqi b i at':=same_all (fun j hj=>by rw [e]; exact h j hj)
     split
     · show _≤n2; omega
     · split
       · show _≤n2; omega
       · exact Nat.le_trans (by omega) (walkL_ge _ _ _ _ _ _)
   · split
     · rename_i hj
       exact absurd (hkey.trans hk.symm) (qgp hj (at' - R) (by omega))
     · rename_i j hj
       obtain ⟨g1,g2,g3⟩:=qzg hj
       have hjR:at' - R≤j:=by
        rcases Nat.lt_or_ge j (at' - R) with h5 | h5
        · exact absurd (hkey.trans hk.symm) (g3 (at' - R) h5 (by omega))
        · exact h5
       split
       · rename_i h258
         show _≤n2
         omega
       · exact ih j _ _ hjR (by omega) (g2.trans hk) (by omega)
def stepL (b:List Int) (looks at':Nat):(Int × Int × Int) × Nat :=
 let x:=bestL b at' looks
 if x.1 < 3 then ((b.getD at' 0,0,0),1) else ((0,(x.1:Int),(x.2:Int)),x.1)
def findL (b:List Int) (looks:Nat):Nat→Nat→List (Int × Int × Int)
 | 0,_=>[]
 | f+1,at'=>if at' < b.length then (stepL b looks at').1 :: findL b looks f (at'+(stepL b looks at').2) else []
theorem qdh (b:List Int) (looks at':Nat):0 < (stepL b looks at').2:=by
 unfold stepL
 simp only
 split
 · exact Nat.zero_lt_one
 · simp only; omega
theorem stepL_le (b:List Int) (looks at':Nat) (h:at' < b.length):at'+(stepL b looks at').2≤b.length:=by
 unfold stepL
 simp only
 split
 · simp only; omega
 · rename_i h3
   simp only
   rcases qpp b at' looks with h1 | h1
   · omega
   · exact h1.2.2.2.2.1
theorem findL_fuel (b:List Int) (looks:Nat):∀ f g at',b.length - at'≤f→b.length - at'≤g→findL b looks f at'=findL b looks g at':=by
 intro f
 induction f with
 | zero =>
   intro g at' h1 h2
   cases g with
   | zero=>rfl
   | succ g=>rw [findL,findL,if_neg (by omega)]
 | succ f ih =>
   intro g at' h1 h2
   cases g with
   | zero=>rw [findL,findL,if_neg (by omega)]
   | succ g =>
     rw [findL,findL]
     split
     · have:=qdh b looks at'
       congr 1
       exact ih g _ (by omega) (by omega)
     · rfl
end Go.Proofs.Ythdmmmfgjmmelaa
namespace Go.Proofs.Ythdmmmfgjmmelaa
open Go Go.Proofs Go.ChangeShapes Go.WideShapes Go.MapKept Go.Maps
set_option linter.unusedVariables false
set_option linter.unusedSimpArgs false
attribute [local irreducible] apK cpK mkK br
abbrev kyL (k:Int × Int × Int):List Value:=[.int .u8 k.1,.int .u8 k.2.1,.int .u8 k.2.2]
def kyV (k:Int × Int × Int):Value:=.agg ⟨kyL k⟩
theorem kyV_inj {a b:Int × Int × Int} (h:kyV a=kyV b):a=b:=by
 obtain ⟨a1,a2,a3⟩:=a
 obtain ⟨b1,b2,b3⟩:=b
 simpa [kyV] using h
def kyB (k:Int × Int × Int):Prop:=(0≤k.1∧k.1 < 256)∧(0≤k.2.1∧k.2.1 < 256)∧(0≤k.2.2∧k.2.2 < 256)
theorem key_lit {P:Program} {t e:TypeId} {m:Nat} (h1:P.underlying t=some (.array 3 e)) (h2:P.underlying e=some (.int .u8)) (h3:P.cellsOf t=3) (h4:P.cellsOf e=1) (h5:P.keyType t=true) (h6:P.types.size+1=m+2) {k:Int × Int × Int} (hk:kyB k):∃ l,keyOf P t (kyV k)=some l:=by
 obtain ⟨⟨a1,a2⟩,⟨b1,b2⟩,⟨c1,c2⟩⟩:=hk
 have wf:∀ n:Int,0≤n→n < 256→(Lit.int .u8 n).wf=true:=by
  intro n h0 h1
  simp [Lit.wf,show IntKind.u8.min=0 from rfl,show IntKind.u8.max=255 from rfl]
  omega
 have e1:∀ n:Int,0≤n→n < 256→P.keyLits (m+1) e [.int .u8 n]=some [.int .u8 n]:=by
  intro n h0 h1
  unfold Program.keyLits
  rw [h2]
  simp [wf n h0 h1]
 have e2:∃ ls,P.keyLits (m+2) t (kyL k)=some ls:=by
  unfold Program.keyLits
  rw [h1]
  simp only [h3,h4]
  rw [if_pos (show (kyL k).length=3 from rfl),show List.range 3=[0,1,2] from rfl]
  simp [e1 _ a1 a2,e1 _ b1 b2,e1 _ c1 c2]
 obtain ⟨ls,e2⟩:=e2
 unfold keyOf
 rw [h1]
 have e3:(kyV k).formed P t=true:=by simp [kyV,Value.formed,h1,h3]
 have e4:(kyV k).cells.toList=kyL k:=rfl
 simp only [h5,e3,e4,h6,e2]
 exact ⟨_,rfl⟩
theorem ky_keyed:Keyed Try.prog 222:=keyed_deep f_laid (m:=2) (by omega) (of_decide_eq_true (by kernel_rfl)) (by kernel_rfl) (by kernel_rfl)
theorem ky_lit {k:Int × Int × Int} (hk:kyB k):∃ l,keyOf Try.prog 222 (kyV k)=some l :=
 key_lit (e:=5) (m:=Try.prog.types.size - 1) (by kernel_rfl) (by kernel_rfl) (by kernel_rfl) (by kernel_rfl) (by kernel_rfl) (by kernel_rfl) hk
theorem ky_map:Try.prog.underlying 176=some (.map 222 3):=by kernel_rfl
abbrev kvl (E:List ((Int × Int × Int) × Int)):List (Value × Value):=E.map fun e=>(kyV e.1,.int .i64 e.2)
section
variable {F0:List Nat} {w0 w:World} {ps rest:List As} {b:Nat} {E:List ((Int × Int × Int) × Int)} {k:Int × Int × Int}
theorem kvl_lit (hE:∀ e ∈ E,kyB e.1):∀ p ∈ kvl E,∃ l,keyOf Try.prog 222 p.1=some l:=by
 intro p hp
 obtain ⟨e,he,rfl⟩:=List.mem_map.1 hp
 exact ky_lit (hE e he)
theorem St.klook {K:Int→Bool→Prop} (h:St F0 w0 w ps) [PkF mpA b ps (kvl E) rest] (hE:∀ e ∈ E,kyB e.1) (hk:kyB k) (h1:(∀ e ∈ E,e.1 ≠ k)→K 0 false) (h2:∀ e ∈ E,e.1=k→K e.2 true) :
 ∃ r20:Int,∃ r21:Bool,lkR Try.prog 176 (.map (some b)) (.agg ⟨kyL k⟩) true w (.tuple ⟨[.int .i64 r20,.bool r21]⟩)∧K r20 r21:=by
 have hz:(zeroValue (3:TypeId)).run Try.prog w=.ok (.int .i64 0) w:=by kernel_rfl
 rcases (h.toF mpA b).mlook ky_keyed ky_map (kvl_lit hE) true hz (ky_lit hk) with ⟨h3,h4⟩ | ⟨j,p,h3,h4,h5⟩
 · refine ⟨0,false,h3,h1 fun e he hne=>?_⟩
   exact h4 (kyV e.1,.int .i64 e.2) (List.mem_map.2 ⟨e,he,rfl⟩) (by rw [hne])
 · rw [List.getElem?_map] at h3
   cases he:E[j]? with
   | none=>rw [he] at h3; cases h3
   | some e =>
     rw [he] at h3
     injection h3 with h3
     subst h3
     have hm:e ∈ E:=List.mem_of_getElem? he
     exact ⟨e.2,true,h5,h2 e hm (kyV_inj h4)⟩
theorem St.kset {v:Int} {K:World→Prop} (h:St F0 w0 w ps) [PkF mpA b ps (kvl E) rest] (hE:∀ e ∈ E,kyB e.1) (hk:kyB k)
 (hK:∀ E' w',St F0 w0 w' (mpA b (kvl E') :: rest)→((E'=E ++ [(k,v)]∧∀ e ∈ E,e.1 ≠ k) ∨ ∃ j,∃ e:(Int × Int × Int) × Int,E[j]?=some e∧e.1=k∧E'=E.set j (k,v))→K w') :
 ∃ w',muR Try.prog 176 (.map (some b)) (.agg ⟨kyL k⟩) (.int .i64 v) w w'∧K w':=by
 refine (h.toF mpA b).mset ky_keyed ky_map (kvl_lit hE) (ky_lit hk) fun kv' w' h he=>?_
 rcases he with ⟨rfl,h1⟩ | ⟨j,p,h1,h2,rfl⟩
 · refine hK (E ++ [(k,v)]) w' (by rw [show kvl (E ++ [(k,v)])=kvl E ++ [(.agg ⟨kyL k⟩,.int .i64 v)] by simp [kyV]]; exact h) (Or.inl ⟨rfl,fun e he hne=>?_⟩)
   exact h1 (kyV e.1,.int .i64 e.2) (List.mem_map.2 ⟨e,he,rfl⟩) (by rw [hne]; rfl)
 · rw [List.getElem?_map] at h1
   cases he:E[j]? with
   | none=>rw [he] at h1; cases h1
   | some e =>
     rw [he] at h1
     injection h1 with h1
     subst h1
     refine hK (E.set j (k,v)) w' (by rw [show kvl (E.set j (k,v))=(kvl E).set j (.agg ⟨kyL k⟩,.int .i64 v) by rw [kvl,List.map_set]; rfl]; exact h) (Or.inr ⟨j,e,he,kyV_inj h2,rfl⟩)
end
structure KM (b:List Int) (E:List ((Int × Int × Int) × Int)) (n:Nat):Prop where
 val:∀ (j:Nat) (e:(Int × Int × Int) × Int),E[j]?=some e→∃ i:Nat,e.2=(i:Int)∧lastK b e.1 n=some i
 all:∀ k i,lastK b k n=some i→∃ (j:Nat) (e:(Int × Int × Int) × Int),E[j]?=some e∧e.1=k
 one:∀ (i j:Nat) (e e':(Int × Int × Int) × Int),E[i]?=some e→E[j]?=some e'→e.1=e'.1→i=j
theorem KM.nil (b:List Int):KM b [] 0:=⟨fun j e h=>(by simp at h),fun k i h=>(by cases h),fun i j e e' h=>(by simp at h)⟩
theorem KM.next {b:List Int} {E E':List ((Int × Int × Int) × Int)} {n:Nat} (h:KM b E n)
 (he:(E'=E ++ [(qhh b n,(n:Int))]∧∀ e ∈ E,e.1 ≠ qhh b n) ∨ ∃ j,∃ e:(Int × Int × Int) × Int,E[j]?=some e∧e.1=qhh b n∧E'=E.set j (qhh b n,(n:Int))):KM b E' (n+1):=by
 rcases he with ⟨rfl,hn⟩ | ⟨j0,e0,hj0,he0,rfl⟩
 · have sn:∀ j e,(E ++ [(qhh b n,(n:Int))])[j]?=some e→E[j]?=some e ∨ (j=E.length∧e=(qhh b n,(n:Int))):=by
    intro j e hj
    rcases Nat.lt_or_ge j E.length with h1 | h1
    · rw [List.getElem?_append_left h1] at hj; exact Or.inl hj
    · rw [List.getElem?_append_right h1] at hj
      have:j=E.length:=by
       rcases Nat.eq_or_lt_of_le h1 with h2 | h2
       · exact h2.symm
       · rw [List.getElem?_eq_none (by simp; omega)] at hj; cases hj
      subst this
      simp at hj
      exact Or.inr ⟨rfl,hj.symm⟩
   refine ⟨fun j e hj=>?_,fun k i hi=>?_,fun i j e e' hi hj hk=>?_⟩
   · rcases sn j e hj with h1 | ⟨_,rfl⟩
     · obtain ⟨i,h2,h3⟩:=h.val j e h1
       refine ⟨i,h2,?_⟩
       rw [lastK,if_neg (fun e2=>hn e (List.mem_of_getElem? h1) e2.symm)]
       exact h3
     · refine ⟨n,rfl,?_⟩
       rw [lastK,if_pos rfl]
   · rw [lastK] at hi
     split at hi
     · rename_i hk
       exact ⟨E.length,(qhh b n,(n:Int)),by simp,hk⟩
     · obtain ⟨j,e,h1,h2⟩:=h.all k i hi
       refine ⟨j,e,?_,h2⟩
       rw [List.getElem?_append_left (List.getElem?_eq_some_iff.1 h1).1]
       exact h1
   · rcases sn i e hi with h1 | ⟨rfl,rfl⟩
     · rcases sn j e' hj with h2 | ⟨rfl,rfl⟩
       · exact h.one i j e e' h1 h2 hk
       · exact absurd hk (hn e (List.mem_of_getElem? h1))
     · rcases sn j e' hj with h2 | ⟨rfl,rfl⟩
       · exact absurd hk.symm (hn e' (List.mem_of_getElem? h2))
       · rfl
 · have hlt:j0 < E.length:=(List.getElem?_eq_some_iff.1 hj0).1
   have sn:∀ j e,(E.set j0 (qhh b n,(n:Int)))[j]?=some e→(j=j0∧e=(qhh b n,(n:Int))) ∨ (j ≠ j0∧E[j]?=some e):=by
    intro j e hj
    rw [List.getElem?_set] at hj
    by_cases h1:j0=j
    · subst h1
      rw [if_pos rfl,if_pos hlt] at hj
      injection hj with hj
      exact Or.inl ⟨rfl,hj.symm⟩
    · rw [if_neg h1] at hj
      exact Or.inr ⟨fun e=>h1 e.symm,hj⟩
   refine ⟨fun j e hj=>?_,fun k i hi=>?_,fun i j e e' hi hj hk=>?_⟩
   · rcases sn j e hj with ⟨rfl,rfl⟩ | ⟨hne,h1⟩
     · refine ⟨n,rfl,?_⟩
       rw [lastK,if_pos rfl]
     · obtain ⟨i,h2,h3⟩:=h.val j e h1
       refine ⟨i,h2,?_⟩
       rw [lastK,if_neg (fun e2=>hne (h.one j j0 e e0 h1 hj0 (e2.symm.trans he0.symm)))]
       exact h3
   · rw [lastK] at hi
     split at hi
     · rename_i hk
       refine ⟨j0,(qhh b n,(n:Int)),?_,hk⟩
       rw [List.getElem?_set,if_pos rfl,if_pos hlt]
     · rename_i hk
       obtain ⟨j,e,h1,h2⟩:=h.all k i hi
       refine ⟨j,e,?_,h2⟩
       rw [List.getElem?_set,if_neg,h1]
       intro hjj
       subst hjj
       rw [hj0] at h1
       injection h1 with h1
       subst h1
       exact hk (he0.symm.trans h2)
   · rcases sn i e hi with ⟨rfl,rfl⟩ | ⟨hne,h1⟩
     · rcases sn j e' hj with ⟨rfl,rfl⟩ | ⟨hne2,h2⟩
       · rfl
       · exact absurd (h.one j i e' e0 h2 hj0 (hk.symm.trans he0.symm)) hne2
     · rcases sn j e' hj with ⟨rfl,rfl⟩ | ⟨hne2,h2⟩
       · exact absurd (h.one i j e e0 h1 hj0 (hk.trans he0.symm)) hne
       · exact h.one i j e e' h1 h2 hk
def prI (b:List Int) (j:Nat):Int:=match lastK b (qhh b j) j with
 | none=>-1
 | some i=>(i:Int)
structure FOK (b:List Int) (E:List ((Int × Int × Int) × Int)) (P:List Int) (n:Nat):Prop where
 len:P.length=n
 keys:∀ e ∈ E,kyB e.1
 map:n+2≤b.length→KM b E n
 row:∀ j,j < n→j+3≤b.length→P.getD j 0=prI b j
theorem key_b {b:List Int} (hb:∀ x ∈ b,0≤x∧x < 256) (i:Nat):kyB (qhh b i):=by
 have:∀ j,0≤b.getD j 0∧b.getD j 0 < 256:=by
  intro j
  rcases Nat.lt_or_ge j b.length with h | h
  · rw [List.getD,List.getElem?_eq_getElem h]
    exact hb _ (List.getElem_mem h)
  · rw [List.getD,List.getElem?_eq_none h]
    decide
 exact ⟨this _,this _,this _⟩
end Go.Proofs.Ythdmmmfgjmmelaa
namespace Go.Proofs.Ythdmmmfgjmmelaa
open Go Go.Proofs
set_option linter.unusedVariables false
set_option linter.unusedSimpArgs false
attribute [local irreducible] apK cpK mkK br
def finA (fb mb:Nat) (s p:Sl) (E:List ((Int × Int × Int) × Int)) (P:List Int):As :=
 andA (qxc fb [.slice s.a s.len s.cap,.map (some mb),.slice p.a p.len p.cap]) (andA (mpA mb (kvl E)) (qdc 1 p (ivs .i64 P)))
section
variable {F0:List Nat} {w0 w:World} {ps rest:List As} {xs:List Int} {fb mb:Nat} {s p:Sl} {E:List ((Int × Int × Int) × Int)} {P:List Int}
theorem fin_o (h:St F0 w0 w (finA fb mb s p E P :: ps)):St F0 w0 w (qxc fb [.slice s.a s.len s.cap,.map (some mb),.slice p.a p.len p.cap] :: mpA mb (kvl E) :: qdc 1 p (ivs .i64 P) :: ps):=by
 unfold finA at h
 exact h.split.tail fun _ _ _ h=>h.split
theorem fin_c (h:St F0 w0 w (qxc fb [.slice s.a s.len s.cap,.map (some mb),.slice p.a p.len p.cap] :: mpA mb (kvl E) :: qdc 1 p (ivs .i64 P) :: ps)):St F0 w0 w (finA fb mb s p E P :: ps):=by
 unfold finA
 exact St.join (h.tail fun _ _ _ h=>h.join)
theorem nz_ldA {a:Option Addr} {k:Nat} {K:Array Value→Prop} (h:rdO w a k K) (hk:k ≠ 0):nz a fun a=>ldA w a k K:=by
 cases a with
 | none=>exact absurd h.1 hk
 | some a=>exact h
theorem take3 {i:Nat} (h:i+3≤xs.length):(xs.drop i).take (i+3 - i)=[(qhh xs i).1,(qhh xs i).2.1,(qhh xs i).2.2]:=by
 rw [show i+3 - i=3 by omega]
 rw [List.drop_eq_getElem_cons (by omega),List.drop_eq_getElem_cons (by omega),List.drop_eq_getElem_cons (by omega)]
 show [xs[i],xs[i+1],xs[i+2]]=_
 simp [qhh,List.getD,show i < xs.length by omega,show i+1 < xs.length by omega,show i+2 < xs.length by omega]
theorem qpd.c {i:Nat} {K:Ending→World→Prop} (h:St F0 w0 w ps) [PkB fb ps [.slice s.a s.len s.cap,.map (some mb),.slice p.a p.len p.cap] rest] [Rdb F0 w0 s ps 1 (u8s xs)] (hc:s.len≤s.cap) (hi:i+3≤xs.length)
 (hk:∀ w',St F0 w0 w' ps→K (.returned (.agg ⟨kyL (qhh xs i)⟩)) w'):Calls Try.prog 161 ⟨[.pointer (some ⟨fb,0,none⟩),.int .i64 (i:Int)]⟩ w K:=by
 have hl:=(h.rdb s).1
 rw [qx] at hl
 refine qoc (qpd.ok _ _ _ _ ?_)
 unfold qpd
 rw [show zc Try.prog 222=⟨[.int .u8 0,.int .u8 0,.int .u8 0]⟩ by kernel_rfl]
 refine h.new fun nb w h=>?_
 have h:St F0 w0 w (qxc nb [.int .u8 0,.int .u8 0,.int .u8 0] :: ps):=h
 refine qrd (h.fL ?_)
 refine bd_i rfl (by show i≤s.len; omega) ?_
 refine qcj ?_
 refine ⟨by show 3≤s.len - i; omega,?_⟩
 have hr:=(h.cutR s i (i+3) 0 (by omega) (by omega) hc (take3 hi)).rd h
 refine nz_ldA (hr.rdO (k:=3) rfl ⟨rfl,?_⟩) (by decide)
 refine h.sA (l:=[.int .u8 0,.int .u8 0,.int .u8 0]) (l':=kyL (qhh xs i)) rfl rfl (qof (l:=[(qhh xs i).1,(qhh xs i).2.1,(qhh xs i).2.2])) fun w h=>?_
 refine h.lA rfl ?_
 exact hk w h.drop
theorem qec.c {i k:Nat} {K:Ending→World→Prop} (h:St F0 w0 w ps) [PkB fb ps [.slice s.a s.len s.cap,.map (some mb),.slice p.a p.len p.cap] rest] [Rdb F0 w0 s ps 1 (u8s xs)] (hik:i < k) (hkl:k≤xs.length) (hlen:xs.length≤1000000)
 (hk:∀ w',St F0 w0 w' ps→K (.returned (.int .i64 (qqi xs i k:Int))) w'):Calls Try.prog 162 ⟨[.pointer (some ⟨fb,0,none⟩),.int .i64 (i:Int),.int .i64 (k:Int)]⟩ w K:=by
 have hl:=(h.rdb s).1
 rw [qx] at hl
 refine qoc (qec.ok _ _ _ _ _ ?_)
 unfold qec qec.j1
 refine qsf (fun (m:Nat) (n':Int) w'=>n'=m∧m≤258∧sameN xs i k (258 - m) m=qqi xs i k∧St F0 w0 w' ps) (fun m=>258 - m) 0 ⟨rfl,by omega,rfl,h⟩ ?_
 clear h
 rintro m n' wL I μ ⟨rfl,hm,hs,h⟩ hin
 unfold qec.b1
 refine h.drewK fun w h=>?_
 have done:sameN xs i k (258 - m) m=m→K (.returned (.int .i64 (m:Int))) w:=fun e=>by
  rw [e] at hs
  rw [← hs] at hk
  exact hk w h
 refine qzc (fun g=>?_) (fun g=>?_)
 · obtain ⟨f,hf⟩:∃ f,258 - m=f+1:=⟨258 - m - 1,by omega⟩
   rw [hf,sameN] at hs
   rw [hf,sameN] at done
   refine qy (qk (by omega) (by omega)) ?_
   refine qrd (h.fL ?_)
   refine qzc (fun g1=>?_) (fun g1=>?_)
   · have g1:(k:Int)+m < (s.len:Int):=g1
     refine qrd (h.fL ?_)
     refine qy (qk (by omega) (by omega)) ?_
     refine h.lx (s:=s) (i+m) (by omega) (by omega) ?_
     refine qrd (h.fL ?_)
     refine qy (qk (by omega) (by omega)) ?_
     refine h.lx (s:=s) (k+m) (by omega) (by omega) ?_
     refine qpf (fun g2=>?_) (fun g2=>?_)
     · have g2:xs.getD (i+m) 0=xs.getD (k+m) 0:=by simpa using g2
       rw [if_pos ⟨by omega,g2⟩] at hs
       refine qy (qk (by omega) (by omega)) ?_
       exact ⟨⟨rfl,rfl,rfl⟩,hin (m+1) _ _ ⟨by omega,by omega,by rw [show 258 - (m+1)=f by omega]; exact hs,h⟩ (by omega)⟩
     · have g2:¬ xs.getD (i+m) 0=xs.getD (k+m) 0:=by simpa using g2
       exact done (if_neg fun e=>g2 e.2)
   · have g1:¬ (k:Int)+m < (s.len:Int):=g1
     exact done (if_neg fun e=>by omega)
 · rw [show 258 - m=0 by omega] at done
   exact done rfl
theorem qbb.c {a L:Nat} {K:Ending→World→Prop} (h:St F0 w0 w (finA fb mb s p E P :: ps)) [Rdb F0 w0 s ps 1 (u8s xs)] (hb:∀ x ∈ xs,0≤x∧x < 256) (hc:s.len≤s.cap) (hlen:xs.length≤1000000) (hF:FOK xs E P a) (ha:a≤xs.length) (hL:L≤4096)
 (hk:∀ w',St F0 w0 w' (finA fb mb s p E P :: ps)→K (.returned (.tuple ⟨[.int .i64 ((bestL xs a L).1:Int),.int .i64 ((bestL xs a L).2:Int)]⟩)) w') :
 Calls Try.prog 121 ⟨[.pointer (some ⟨fb,0,none⟩),.int .i64 (a:Int),.int .i64 (L:Int)]⟩ w K:=by
 have hl:=(h.drop.rdb s).1
 rw [qx] at hl
 have h:=fin_o h
 refine qoc (qbb.ok _ _ _ _ _ ?_)
 unfold qbb qbb.j1
 refine qy (qk (by omega) (by omega)) ?_
 refine qrd (h.fL ?_)
 have ex:∀ (n d:Nat) (w:World),bestL xs a L=(n,d)→St F0 w0 w (qxc fb [.slice s.a s.len s.cap,.map (some mb),.slice p.a p.len p.cap] :: mpA mb (kvl E) :: qdc 1 p (ivs .i64 P) :: ps)→K (.returned (.tuple ⟨[.int .i64 (n:Int),.int .i64 (d:Int)]⟩)) w:=by
  intro n d w e h
  rw [e] at hk
  exact hk w (fin_c h)
 clear hk
 refine qzc (fun g=>?_) (fun g=>?_)
 · have g:(a:Int)+3 > (s.len:Int):=g
   exact ex 0 0 w (by unfold bestL; rw [if_pos (by omega)]) h
 have g:¬ (a:Int)+3 > (s.len:Int):=g
 have hM:=hF.map (by omega)
 refine h.drewK fun w h=>?_
 have j2:∀ (w:World) (r20:Int) (r21:Bool),((r21=false∧lastK xs (qhh xs a) a=none) ∨ ∃ i:Nat,r20=(i:Int)∧r21=true∧lastK xs (qhh xs a) a=some i) →
  St F0 w0 w (qxc fb [.slice s.a s.len s.cap,.map (some mb),.slice p.a p.len p.cap] :: mpA mb (kvl E) :: qdc 1 p (ivs .i64 P) :: ps)→qbb.j2 (some ⟨fb,0,none⟩) (a:Int) (L:Int) 0 0 r20 r21 (fun v w'=>K (.returned v) w') w:=by
  intro w r20 r21 hr h
  unfold qbb.j2
  rcases hr with ⟨rfl,e⟩ | ⟨i0,rfl,rfl,e⟩
  · refine loop4 (fun (u:Nat) (t2 t6 t7 t8:Int) w'=>t6=0∧t7=0∧St F0 w0 w' (qxc fb [.slice s.a s.len s.cap,.map (some mb),.slice p.a p.len p.cap] :: mpA mb (kvl E) :: qdc 1 p (ivs .i64 P) :: ps)) (fun _=>0) 0 ⟨rfl,rfl,h⟩ ?_
    rintro u t2 t6 t7 t8 w I μ ⟨rfl,rfl,h⟩ hin
    unfold qbb.b1
    refine qkl ?_
    exact ex 0 0 w (by unfold bestL; rw [if_neg (by omega),e]) h
  · have eb:bestL xs a L=walkL xs a L i0 0 0:=by unfold bestL; rw [if_neg (by omega),e]
    have hi0:=(qzg e).1
    refine loop4 (fun (u:Nat × Nat × Nat × Nat) (t2 t6 t7 t8:Int) w'=>t2=u.1∧t6=u.2.1∧t7=u.2.2.1∧t8=u.2.2.2∧u.1≤4096∧u.2.2.2 < a∧u.2.1≤258∧walkL xs a u.1 u.2.2.2 u.2.1 u.2.2.1=walkL xs a L i0 0 0∧St F0 w0 w' (qxc fb [.slice s.a s.len s.cap,.map (some mb),.slice p.a p.len p.cap] :: mpA mb (kvl E) :: qdc 1 p (ivs .i64 P) :: ps)) (fun u=>u.1) (L,0,0,i0) ⟨rfl,rfl,rfl,rfl,hL,hi0,by simp,rfl,h⟩ ?_
    clear h
    rintro ⟨f,n,d,i⟩ t2 t6 t7 t8 wL I μ ⟨rfl,rfl,rfl,rfl,hf,hia,hn,hw,h⟩ hin
    simp only at hf hia hn hw h hin ⊢
    unfold qbb.b1
    refine qnm ?_
    refine qzc (fun g1=>?_) (fun g1=>?_)
    · obtain ⟨f',rfl⟩:∃ f',f=f'+1:=⟨f - 1,by omega⟩
      rw [walkL] at hw
      refine qy (qk (by omega) (by omega)) ?_
      refine qzc (fun g2=>?_) (fun g2=>?_)
      · rw [if_neg (by omega)] at hw
        simp only at hw
        unfold qbb.j4
        refine qec.c (xs:=xs) (i:=i) (k:=a) h hia ha hlen fun w h=>⟨_,rfl,?_⟩
        have hsl:=same_le xs i a
        have j6:∀ (n2 d2:Nat),n2=(if n < qqi xs i a then qqi xs i a else n)→d2=(if n < qqi xs i a then a - i else d)→qbb.j6 (some ⟨fb,0,none⟩) (a:Int) ((f'+1:Nat):Int) (n2:Int) (d2:Int) (i:Int) true (fun v w'=>K (.returned v) w') (fun d_0' i_1' t9' t2' t6' t7' t8' w'=>(d_0'=some ⟨fb,0,none⟩∧i_1'=(a:Int)∧t9'=true)∧I t2' t6' t7' t8' w'∧μ t2' t6' t7' t8' w' < μ ((f'+1:Nat):Int) (n:Int) (d:Int) (i:Int) wL) w:=by
         intro n2 d2 e1 e2
         rw [← e1,← e2] at hw
         have hn2:n2≤258:=by rw [e1]; split <;> omega
         unfold qbb.j6
         refine qrd (h.fL ?_)
         refine h.lx (s:=p) i rfl (by rw [hF.len]; exact hia) ?_
         have hrow:=hF.row i hia (by omega)
         unfold prI at hrow
         rw [hrow]
         cases hj:lastK xs (qhh xs i) i with
         | none =>
           rw [hj] at hw
           simp only at hw ⊢
           exact qzc (fun _=>ex n2 d2 w (eb.trans hw.symm) h) (fun g3=>absurd (by omega) g3)
         | some j =>
           rw [hj] at hw
           simp only at hw ⊢
           have hji:=(qzg hj).1
           refine qzc (fun g3=>by omega) (fun g3=>?_)
           refine qpf (fun g4=>?_) (fun g4=>?_)
           · have g4:(n2:Int)=258:=by simpa using g4
             rw [if_pos (by omega)] at hw
             exact ex n2 d2 w (eb.trans hw.symm) h
           · have g4:¬ (n2:Int)=258:=by simpa using g4
             rw [if_neg (by omega)] at hw
             unfold qbb.j5
             refine qy (qk (by omega) (by omega)) ?_
             exact ⟨⟨rfl,rfl,rfl⟩,hin (f',n2,d2,j) _ _ _ _ _ ⟨by simp only; omega,rfl,rfl,rfl,by simp only; omega,by simp only; omega,hn2,hw,h⟩ (by simp only; omega)⟩
        refine qzc (fun g3=>?_) (fun g3=>?_)
        · refine qy (show IntKind.i64.wrap ((a:Int) - i)=((a - i:Nat):Int) by rw [qk (by omega) (by omega)]; omega) ?_
          exact j6 _ _ (by rw [if_pos (by omega)]) (by rw [if_pos (by omega)])
        · exact j6 _ _ (by rw [if_neg (by omega)]) (by rw [if_neg (by omega)])
      · rw [if_pos (by omega)] at hw
        exact ex n d wL (eb.trans hw.symm) h
    · have:f=0:=by omega
      subst this
      exact ex n d wL (eb.trans hw.symm) h
 have lk:∀ (w:World),St F0 w0 w (qxc fb [.slice s.a s.len s.cap,.map (some mb),.slice p.a p.len p.cap] :: mpA mb (kvl E) :: qdc 1 p (ivs .i64 P) :: ps) →
  ∃ r20:Int,∃ r21:Bool,lkR Try.prog 176 (.map (some mb)) (.agg ⟨kyL (qhh xs a)⟩) true w (.tuple ⟨[.int .i64 r20,.bool r21]⟩)∧qbb.j2 (some ⟨fb,0,none⟩) (a:Int) (L:Int) 0 0 r20 r21 (fun v w'=>K (.returned v) w') w:=by
  intro w h
  refine h.klook hF.keys (key_b hb a) (fun hn=>j2 w 0 false (Or.inl ⟨rfl,?_⟩) h) (fun e he hek=>?_)
  · cases hj:lastK xs (qhh xs a) a with
    | none=>rfl
    | some i =>
      obtain ⟨j,e,h1,h2⟩:=hM.all _ _ hj
      exact absurd h2 (hn e (List.mem_of_getElem? h1))
  · obtain ⟨j,hj⟩:=List.mem_iff_getElem?.1 he
    obtain ⟨i,h1,h2⟩:=hM.val j e hj
    rw [hek] at h2
    exact j2 w _ true (Or.inr ⟨i,h1,rfl,h2⟩) h
 refine qrd ⟨?_,?_⟩
 · refine h.fM ?_
   exact qpd.c (xs:=xs) (i:=a) h hc (by omega) fun w h=>⟨_,rfl,lk w h⟩
 · refine qpd.c (xs:=xs) (i:=a) h hc (by omega) fun w h=>⟨_,rfl,?_⟩
   exact h.fM (lk w h)
theorem qcc.c {a:Nat} {K:Ending→World→Prop} (h:St F0 w0 w (finA fb mb s p E P :: ps)) [Rdb F0 w0 s ps 1 (u8s xs)] (hb:∀ x ∈ xs,0≤x∧x < 256) (hc:s.len≤s.cap) (hlen:xs.length≤1000000) (hF:FOK xs E P a) (ha:a < xs.length)
 (hk:∀ p' E' P' w',St F0 w0 w' (finA fb mb s p' E' P' :: ps)→FOK xs E' P' (a+1)→K (.returned (.tuple ⟨[]⟩)) w') :
 Calls Try.prog 122 ⟨[.pointer (some ⟨fb,0,none⟩),.int .i64 (a:Int)]⟩ w K:=by
 have hl:=(h.drop.rdb s).1
 rw [qx] at hl
 have hPl:=hF.len
 have h:=fin_o h
 refine qoc (qcc.ok _ _ _ _ ?_)
 unfold qcc
 refine qrd (h.fL ?_)
 refine h.pushI (s:=p) (k:=.i64) (zs:=P) (by omega) fun p2 w h=>?_
 refine qrd (h.fst trivial fun w h=>?_)
 have h:St F0 w0 w (qxc fb [.slice s.a s.len s.cap,.map (some mb),.slice p2.a p2.len p2.cap] :: mpA mb (kvl E) :: qdc 1 p2 (ivs .i64 (P ++ [-1])) :: ps):=h.sub
 refine qy (qk (by omega) (by omega)) ?_
 refine qrd (h.fL ?_)
 have old:∀ j,j < a→(P ++ [-1]).getD j 0=P.getD j 0:=by
  intro j hj
  rw [List.getD,List.getElem?_append_left (by omega)]
  rfl
 refine qzc (fun g=>?_) (fun g=>?_)
 · have g:(a:Int)+3 > (s.len:Int):=g
   refine hk p2 E (P ++ [-1]) w (fin_c h) ⟨by simp [hPl],hF.keys,fun hle=>by omega,fun j hj hj3=>?_⟩
   rw [old j (by omega)]
   exact hF.row j (by omega) hj3
 have g:¬ (a:Int)+3 > (s.len:Int):=g
 have hM:=hF.map (by omega)
 unfold qcc.j1
 refine h.drewK fun w h=>?_
 have set:∀ (P2:List Int) (w:World),P2.length=a+1→(∀ j,j < a+1→j+3≤xs.length→P2.getD j 0=prI xs j)→St F0 w0 w (qxc fb [.slice s.a s.len s.cap,.map (some mb),.slice p2.a p2.len p2.cap] :: mpA mb (kvl E) :: qdc 1 p2 (ivs .i64 P2) :: ps) →
  ∃ w7:World,muR Try.prog 176 (.map (some mb)) (.agg ⟨kyL (qhh xs a)⟩) (.int .i64 (a:Int)) w w7∧K (.returned (.tuple ⟨[]⟩)) w7:=by
  intro P2 w h1 h2 h
  refine h.kset hF.keys (key_b hb a) fun E' w h he=>?_
  refine hk p2 E' P2 w (fin_c h.sub) ⟨h1,?_,fun hle=>hM.next he,h2⟩
  rcases he with ⟨rfl,_⟩ | ⟨j,e,_,_,rfl⟩
  · intro e he
    rcases List.mem_append.1 he with he | he
    · exact hF.keys e he
    · have:e=(qhh xs a,(a:Int)):=by simpa using he
      subst this
      exact key_b hb a
  · intro e2 he
    rcases List.mem_or_eq_of_mem_set he with he | rfl
    · exact hF.keys e2 he
    · exact key_b hb a
 have j2:∀ (P2:List Int) (w:World),P2.length=a+1→(∀ j,j < a+1→j+3≤xs.length→P2.getD j 0=prI xs j)→St F0 w0 w (qxc fb [.slice s.a s.len s.cap,.map (some mb),.slice p2.a p2.len p2.cap] :: mpA mb (kvl E) :: qdc 1 p2 (ivs .i64 P2) :: ps) →
  qcc.j2 (some ⟨fb,0,none⟩) (a:Int) (fun v w'=>K (.returned v) w') w:=by
  intro P2 w h1 h2 h
  unfold qcc.j2
  refine h.drewK fun w h=>?_
  refine qrd ⟨?_,?_⟩
  · refine h.fM ?_
    exact qpd.c (xs:=xs) (i:=a) h hc (by omega) fun w h=>⟨_,rfl,set P2 w h1 h2 h⟩
  · refine qpd.c (xs:=xs) (i:=a) h hc (by omega) fun w h=>⟨_,rfl,?_⟩
    exact h.fM (set P2 w h1 h2 h)
 have j3:∀ (w:World) (r20:Int) (r21:Bool),((r21=false∧lastK xs (qhh xs a) a=none) ∨ ∃ i:Nat,r20=(i:Int)∧r21=true∧lastK xs (qhh xs a) a=some i) →
  St F0 w0 w (qxc fb [.slice s.a s.len s.cap,.map (some mb),.slice p2.a p2.len p2.cap] :: mpA mb (kvl E) :: qdc 1 p2 (ivs .i64 (P ++ [-1])) :: ps)→qcc.j3 (some ⟨fb,0,none⟩) (a:Int) r20 r21 (fun v w'=>K (.returned v) w') w:=by
  intro w r20 r21 hr h
  unfold qcc.j3
  rcases hr with ⟨rfl,e⟩ | ⟨i,rfl,rfl,e⟩
  · refine qkl (j2 _ w (by simp [hPl]) (fun j hj hj3=>?_) h)
    rcases Nat.lt_or_ge j a with h1 | h1
    · rw [old j h1]; exact hF.row j h1 hj3
    · have:j=a:=by omega
      subst this
      unfold prI
      rw [e,List.getD,List.getElem?_append_right (by omega),hPl]
      simp
  · refine qnm (qrd (h.fL ?_))
    refine h.sx (s:=p2) a rfl (by simp [hPl]) fun w h=>?_
    refine j2 ((P ++ [-1]).set a (i:Int)) w (by simp [hPl]) (fun j hj hj3=>?_) h.sub
    rcases Nat.lt_or_ge j a with h1 | h1
    · rw [List.getD,List.getElem?_set,if_neg (by omega)]
      have:=old j h1
      rw [List.getD] at this
      rw [this]; exact hF.row j h1 hj3
    · have:j=a:=by omega
      subst this
      unfold prI
      rw [e,List.getD,List.getElem?_set,if_pos rfl,if_pos (by simp [hPl])]
      rfl
 have lk:∀ (w:World),St F0 w0 w (qxc fb [.slice s.a s.len s.cap,.map (some mb),.slice p2.a p2.len p2.cap] :: mpA mb (kvl E) :: qdc 1 p2 (ivs .i64 (P ++ [-1])) :: ps) →
  ∃ r20:Int,∃ r21:Bool,lkR Try.prog 176 (.map (some mb)) (.agg ⟨kyL (qhh xs a)⟩) true w (.tuple ⟨[.int .i64 r20,.bool r21]⟩)∧qcc.j3 (some ⟨fb,0,none⟩) (a:Int) r20 r21 (fun v w'=>K (.returned v) w') w:=by
  intro w h
  refine h.klook hF.keys (key_b hb a) (fun hn=>j3 w 0 false (Or.inl ⟨rfl,?_⟩) h) (fun e he hek=>?_)
  · cases hj:lastK xs (qhh xs a) a with
    | none=>rfl
    | some i =>
      obtain ⟨j,e,h1,h2⟩:=hM.all _ _ hj
      exact absurd h2 (hn e (List.mem_of_getElem? h1))
  · obtain ⟨j,hj⟩:=List.mem_iff_getElem?.1 he
    obtain ⟨i,h1,h2⟩:=hM.val j e hj
    rw [hek] at h2
    exact j3 w _ true (Or.inr ⟨i,h1,rfl,h2⟩) h
 refine qrd ⟨?_,?_⟩
 · refine h.fM ?_
   exact qpd.c (xs:=xs) (i:=a) h hc (by omega) fun w h=>⟨_,rfl,lk w h⟩
 · refine qpd.c (xs:=xs) (i:=a) h hc (by omega) fun w h=>⟨_,rfl,?_⟩
   exact h.fM (lk w h)
end
end Go.Proofs.Ythdmmmfgjmmelaa
namespace Go.Proofs.Ythdmmmfgjmmelaa
open Go Go.Proofs
set_option linter.unusedVariables false
set_option linter.unusedSimpArgs false
attribute [local irreducible] apK cpK mkK br
class ElT (P:Program) (e:TypeId):Prop where
 info:∃ i,P.info? e=some i∧i.size=3∧i.bytes ≠ 0∧i.bytes≤48
 zc:(Go.Proofs.Ythdmmmfgjmmelaa.zc P e).size=3
instance elt_tok:ElT Try.prog 170:=⟨⟨Try.t170,by kernel_rfl,rfl,by decide,by decide⟩,by kernel_rfl⟩
theorem spl_tok (t:Tk):spl [.int .u8 0,.int .i64 0,.int .i64 0] 0 ⟨tkC t⟩=tkC t:=by kernel_rfl
section
variable {F0:List Nat} {w0 w:World} {ps rest:List As} {P:Program} {e:TypeId} {s:Sl} {L:List Tk} {xs:List Int}
theorem St.pushT {t:Tk} {K:Sl→World→Prop} [he:ElT P e] (h:St F0 w0 w ps) [PkO s ps 3 (tks L) rest] (hlen:L.length≤1000000000)
 (hk:∀ s' w',s'.len=s.len+1→St F0 w0 w' (qdc 3 s' (tks (L ++ [t])) :: rest)→K s' w') :
 lt (⟨World.heapSize w,0,none⟩:Addr) fun a=>lt (World.alloc w (.cells ⟨spl [.int .u8 0,.int .i64 0,.int .i64 0] 0 ⟨tkC t⟩⟩ e)) fun w1=>rdO w1 (some a) (1 * 3) fun c=>apK P e w1 s.a s.len s.cap 1 c K:=by
 rw [spl_tok]
 refine (h.toO s).new fun nb w h=>?_
 have h:St F0 w0 w (qxc nb (tkC t) :: qdc 3 s (tks L) :: rest):=h
 refine h.rdB rfl ?_
 have h:=h.drop
 have hl:=h.len
 rw [qgg] at hl
 obtain ⟨i,h1,h2,h3,h4⟩:=he.info
 refine St.append (i:=i) (sz:=3) (m:=1) h1 h2 (by decide) he.zc h3 ?_ h rfl (qjj t) fun s' w' h hl'=>hk s' w' hl' (by rw [tks_snoc]; exact h)
 refine Nat.le_trans (Nat.mul_le_mul_left _ h4) ?_
 omega
theorem qon.c {cs:List Value} {K:Ending→World→Prop} (h:St F0 w0 w (rdA 3 s cs :: ps)) (hc:s.len≤s.cap)
 (hk:∀ s':Sl,s'.len=s.len→s'.cap=s.len→St F0 w0 w (rdA 3 s' cs :: ps)→K (.returned (.slice s'.a s'.len s'.cap)) w):Calls Try.prog 123 ⟨[.slice s.a s.len s.cap]⟩ w K:=by
 refine qoc (qve.ok _ _ _ ?_)
 unfold qve
 refine ⟨⟨by omega,by omega⟩,⟨by omega,by omega⟩,qcj ?_⟩
 refine hk ⟨_,_,_⟩ (by simp) (by simp) (h.recap ?_ (by simp))
 show qzf s.a _ 0 3=s.a
 unfold qzf
 split
 · rfl
 · cases s.a with
   | none=>rfl
   | some a=>simp [Addr.add]
theorem findL_step {b:List Int} {looks at':Nat} (h:at' < b.length):findL b looks (b.length - at') at'=(stepL b looks at').1 :: findL b looks (b.length - (at'+(stepL b looks at').2)) (at'+(stepL b looks at').2):=by
 obtain ⟨f,hf⟩:∃ f,b.length - at'=f+1:=⟨b.length - at' - 1,by omega⟩
 rw [hf,findL,if_pos h]
 congr 1
 have:=qdh b looks at'
 exact findL_fuel _ _ _ _ _ (by omega) (by omega)
theorem findL_makes (b:List Int) (looks:Nat):∀ f at',b.length - at'≤f→at'≤b.length→que b at' (findL b looks f at') b.length:=by
 intro f
 induction f with
 | zero =>
   intro at' h1 h2
   have:at'=b.length:=by omega
   subst this; exact que.nil _
 | succ f ih =>
   intro at' h1 h2
   rw [findL]
   split
   · rename_i hlt
     have hp:=qdh b looks at'
     have hle:=stepL_le b looks at' hlt
     have hr:=ih (at'+(stepL b looks at').2) (by omega) hle
     revert hr
     unfold stepL
     simp only
     split
     · intro hr; exact que.lit hlt hr
     · rename_i h3
       intro hr
       rcases qpp b at' looks with h4 | ⟨h4,h5,h6,h7,h8,h9⟩
       · omega
       · exact que.copy (by omega) h4 h5 h6 h7 h8 h9 hr
   · have:at'=b.length:=by omega
     subst this; exact que.nil _
def looksOf (e:Int):Nat:=(if 4096 < e then 4096 else e).toNat
theorem looksOf_le (e:Int):looksOf e≤4096:=by unfold looksOf; split <;> omega
theorem looks_eq (e:Int):(if (4096:Int) < (if (0:Int) > e then 0 else e) then 4096 else (if (0:Int) > e then 0 else e))=(looksOf e:Int):=by
 unfold looksOf
 by_cases h1:(0:Int) > e
 · rw [if_pos h1,if_neg (by decide),if_neg (by omega)]; omega
 · rw [if_neg h1]
   by_cases h2:4096 < e
   · rw [if_pos h2]; rfl
   · rw [if_neg h2]; omega
theorem qgc.c {e:Int} {K:Ending→World→Prop} (h:St F0 w0 w ps) [Rdb F0 w0 s ps 1 (u8s xs)] (hb:∀ x ∈ xs,0≤x∧x < 256) (hc:s.len≤s.cap) (hlen:xs.length≤262144)
 (hk:∀ s' w',s'.len=(findL xs (looksOf e) xs.length 0).length→s'.cap=s'.len→St F0 w0 w' (rdA 3 s' (tks (findL xs (looksOf e) xs.length 0)) :: ps)→K (.returned (.slice s'.a s'.len s'.cap)) w') :
 Calls Try.prog 78 ⟨[.slice s.a s.len s.cap,.int .i64 e]⟩ w K:=by
 have hl:=(h.rdb s).1
 rw [qx] at hl
 refine qoc (qgc.ok _ _ _ _ ?_)
 unfold qgc qgc.j1
 refine qzc (fun g=>by omega) (fun _=>?_)
 refine h.mmake fun mb w h=>?_
 refine h.new fun fb w h=>?_
 have h:=(h.nil 1).at2.at2
 have h:St F0 w0 w (finA fb mb s ⟨none,0,0⟩ [] [] :: ps):=fin_c h
 unfold qgc.j2
 refine qcj (qy (looks_eq e) ?_)
 have hlk:=looksOf_le e
 generalize looksOf e=looks at hk hlk ⊢
 unfold qgc.j3 qgc.j5
 refine loop2 (fun (u:Nat × List Tk × Sl × List ((Int × Int × Int) × Int) × List Int) (o:Sl) (at':Int) w'=>at'=u.1∧u.1≤xs.length∧u.2.1.length≤u.1∧u.2.1 ++ findL xs looks (xs.length - u.1) u.1=findL xs looks xs.length 0∧FOK xs u.2.2.2.1 u.2.2.2.2 u.1∧St F0 w0 w' (qdc 3 o (tks u.2.1) :: finA fb mb s u.2.2.1 u.2.2.2.1 u.2.2.2.2 :: ps)) (fun u=>xs.length - u.1) (0,[],⟨none,0,0⟩,[],[])
  ⟨rfl,by simp,by simp,by simp,⟨rfl,by simp,fun _=>KM.nil xs,fun j hj _=>absurd hj (Nat.not_lt_zero j)⟩,h.nil 3⟩ ?_
 clear h
 rintro ⟨a,L,p,E,P⟩ o at' wL I μ ⟨rfl,ha,hLa,hf,hF,h⟩ hin
 simp only at ha hLa hf hF h hin ⊢
 unfold qgc.b1
 refine qzc (fun g=>?_) (fun g=>?_)
 · have hlt:a < xs.length:=by omega
   rw [findL_step hlt] at hf
   unfold qgc.j6
   have hle:=stepL_le xs looks a hlt
   have hp:=qdh xs looks a
   refine qbb.c (xs:=xs) h.at1 hb hc (by omega) hF ha hlk fun w h=>⟨_,_,rfl,?_⟩
   unfold qgc.j7
   refine h.tokN (t:=(0,((bestL xs a looks).1:Int),((bestL xs a looks).2:Int))) fun nb w h=>?_
   have fin:∀ (t:Tk) (n:Nat) (w:World),(t,n)=stepL xs looks a→St F0 w0 w (qxc nb (tkC t) :: finA fb mb s p E P :: qdc 3 o (tks L) :: ps)→qgc.j8 s (some ⟨fb,0,none⟩) (looks:Int) o (a:Int) (n:Int) ⟨nb,0,none⟩ (fun v w'=>K (.returned v) w') (fun b' f' l' o' at'' w'=>(b'=s∧f'=some ⟨fb,0,none⟩∧l'=(looks:Int))∧I o' at'' w'∧μ o' at'' w' < μ o (a:Int) wL) w:=by
    intro t n w e h
    rw [← e] at hf hle hp
    simp only at hf hle hp
    unfold qgc.j8
    refine h.lA rfl ⟨rfl,?_⟩
    refine h.pushT (s:=o) (L:=L) (t:=t) (by omega) fun o2 w hol h=>?_
    have h:St F0 w0 w (qdc 3 o2 (tks (L ++ [t])) :: finA fb mb s p E P :: ps):=h.sub
    unfold qgc.j9
    refine loop2 (fun (v:Nat × Sl × List ((Int × Int × Int) × Int) × List Int) (at' c':Int) w'=>c'=v.1∧at'=((a+v.1:Nat):Int)∧v.1≤n∧FOK xs v.2.2.1 v.2.2.2 (a+v.1)∧St F0 w0 w' (qdc 3 o2 (tks (L ++ [t])) :: finA fb mb s v.2.1 v.2.2.1 v.2.2.2 :: ps)) (fun v=>n - v.1) (0,p,E,P) ⟨rfl,rfl,by simp,hF,h⟩ ?_
    clear h
    rintro ⟨c,p2,E2,P2⟩ at2 c' w2 I2 μ2 ⟨rfl,rfl,hcn,hF2,h⟩ hin2
    simp only at hcn hF2 h hin2 ⊢
    unfold qgc.b2
    refine qzc (fun g2=>?_) (fun g2=>?_)
    · refine qcc.c (xs:=xs) h.at1 hb hc (by omega) hF2 (by omega) fun p3 E3 P3 w h hF3=>⟨rfl,?_⟩
      refine qy (qk (by omega) (by omega)) ?_
      refine qy (qk (by omega) (by omega)) ?_
      exact ⟨⟨rfl,rfl,rfl,rfl,rfl⟩,hin2 (c+1,p3,E3,P3) _ _ _ ⟨by simp,by simp only; omega,by simp only; omega,hF3,h.at1⟩ (by simp only; omega)⟩
    · have:c=n:=by omega
      subst this
      exact ⟨⟨rfl,rfl,rfl⟩,hin (a+c,L ++ [t],p2,E2,P2) _ _ _ ⟨rfl,hle,by simp; omega,by simpa using hf,hF2,h⟩ (by simp only; omega)⟩
   refine qzc (fun g2=>?_) (fun g2=>?_)
   · refine h.lx (s:=s) a rfl hlt ?_
     refine ⟨rfl,?_⟩
     refine h.sA (l:=tkC (0,((bestL xs a looks).1:Int),((bestL xs a looks).2:Int))) (l':=tkC (xs.getD a 0,0,0)) rfl rfl (qjj _) fun w h=>?_
     exact fin (xs.getD a 0,0,0) 1 w (by unfold stepL; simp only; rw [if_pos (by omega)]) h
   · exact fin _ _ w (by unfold stepL; simp only; rw [if_neg (by omega)]) h
 · have:a=xs.length:=by omega
   subst this
   rw [Nat.sub_self,show findL xs looks 0 xs.length=[] from rfl,List.append_nil] at hf
   unfold qgc.j4
   have hol:=h.len
   rw [qgg] at hol
   refine qon.c h.ro (h.cap (by decide)) fun s2 h1 h2 h=>⟨s2,rfl,?_⟩
   rw [← hf] at hk
   exact hk s2 wL (by omega) (by omega) (h.tail fun _ _ _ h=>h.drop)
theorem tkCopy_b (d:Int):∀ k (out:List Int),(∀ x ∈ out,0≤x∧x < 256)→∀ x ∈ tkCopy d k out,0≤x∧x < 256:=by
 intro k
 induction k with
 | zero=>intro out h; exact h
 | succ k ih =>
   intro out h
   rw [tkCopy]
   refine ih _ fun x hx=>?_
   rcases List.mem_append.1 hx with hx | hx
   · exact h x hx
   · have:x=out.getD (out.length - d.toNat) 0:=by simpa using hx
     subst this
     rcases Nat.lt_or_ge (out.length - d.toNat) out.length with h1 | h1
     · rw [List.getD,List.getElem?_eq_getElem h1]
       exact h _ (List.getElem_mem h1)
     · rw [List.getD,List.getElem?_eq_none h1]
       decide
end
end Go.Proofs.Ythdmmmfgjmmelaa
namespace Go.Proofs.Ythdmmmfgjmmelaa
open Go Go.Proofs
set_option linter.unusedVariables false
set_option linter.unusedSimpArgs false
attribute [local irreducible] apK cpK mkK
theorem Rd.ldA {sz n i:Nat} {w:World} {s:Sl} {cs:List Value} {a:Addr} {c:Array Value} {K:Array Value→Prop} (h:Rd w sz s cs) (ha:s.a=some a) (hi:i+n≤cs.length) (hs:c.size=n) (hv:∀ j,j < n→cs[i+j]?=c[j]?) (hk:K c):ldA w (a.add i) n K :=
 ⟨c,hs,fun j hj=>by rw [qwk,h.cell ha (by omega)]; exact hv j hj,hk⟩
section
variable {F0:List Nat} {w0 w:World} {ps:List As}
end
end Go.Proofs.Ythdmmmfgjmmelaa
namespace Go.Proofs.Ythdmmmfgjmmelaa
open Go Go.Proofs
set_option linter.unusedVariables false
set_option linter.unusedSimpArgs false
attribute [local irreducible] apK cpK mkK br
section
variable {F0:List Nat} {w0 w:World} {ps rest rest2:List As}
theorem qin {x:Int} (h0:0≤x) (h1:x < 18446744073709551616):IntKind.u64.wrap x=x:=by
 have e:IntKind.u64.wrap x=x % 18446744073709551616:=by simp [IntKind.wrap,IntKind.bits,IntKind.signed]
 rw [e]; omega
theorem qri {e x:Int} (h0:0≤x) (h1:x≤24):pb e x=qo e x.toNat:=by
 unfold pb
 rw [if_pos ⟨h0,h1⟩]
theorem symP_x {v:Int} {dist:Bool} {n e x:Int} (h:symP v dist n e x):0≤x∧x≤14:=by
 rcases h with ⟨_,_,_,b,hz,_,_,_,h0⟩ | ⟨_,_,_,b,hz,_,_,_,h0⟩
 · have:=zdis_x n
   rw [hz] at this
   exact ⟨h0,this⟩
 · have:=zlen_x n
   rw [hz] at this
   exact ⟨h0,by simp only at this; omega⟩
end
end Go.Proofs.Ythdmmmfgjmmelaa
