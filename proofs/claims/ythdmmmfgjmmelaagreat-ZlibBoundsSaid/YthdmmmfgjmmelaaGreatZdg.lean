/- Own texts as one, only what is reached (shake.py). -/
import Derived.Test.YthdmmmfgjmmelaaGreatZdf
import Derived.Test.YthdmmmfgjmmelaaGreatProg
namespace Go.Proofs.YthdmmmfgjmmelaaGreat
open Go Go.Proofs
set_option linter.unusedVariables false
set_option maxRecDepth 100000
def qzh (a_0:(Array Value)) (b_1:(Array Value)) (Q:VWP) (w:World):Prop :=
 lt (⟨World.heapSize w,0,none⟩:Addr) fun a1 =>
 lt (World.alloc w (.cells a_0 396)) fun w2 =>
 lt (⟨World.heapSize w2,0,none⟩:Addr) fun a3 =>
 lt (World.alloc w2 (.cells b_1 396)) fun w4 =>
 ldI .i64 w4 (Addr.add a1 0) fun x5 =>
 ldI .i64 w4 (Addr.add a3 0) fun x6 =>
 Calls Tryz.prog 286 ⟨[.int .i64 x5,.int .i64 x6]⟩ w4 fun e7 w8 =>
 ∃ r9:Int,e7=.returned (.int .i64 r9) ∧
 Q (.int .i64 r9) w8
theorem qzh.ok (a_0:(Array Value)) (b_1:(Array Value)) (Q:VWP) (w:World) (h:qzh a_0 b_1 Q w):Calls Tryz.prog 285 ⟨[.agg a_0,.agg b_1]⟩ w (Ret Q):=by
 refine qp [.tmp 4] Tryz.func285 rfl rfl rfl rfl ?_
 exact qg qpb _ (Eq.mp (by kernel_rfl) h)
def qwi (x_0:Int) (Q:VWP) (w:World):Prop :=
 Q (.bool ((x_0:Int) != x_0)) w
theorem qwi.ok (x_0:Int) (Q:VWP) (w:World) (h:qwi x_0 Q w):Calls Tryz.prog 324 ⟨[.int .i64 x_0]⟩ w (Ret Q):=by
 refine qp [.tmp 2] Tryz.func324 rfl rfl rfl rfl ?_
 exact qg qpb _ (Eq.mp (by kernel_rfl) h)
def qai (x_0 y_1:Int) (Q:VWP) (w:World):Prop :=
 Calls Tryz.prog 324 ⟨[.int .i64 x_0]⟩ w fun e1 w2 =>
 ∃ r3:Bool,e1=.returned (.bool r3) ∧
 Calls Tryz.prog 324 ⟨[.int .i64 y_1]⟩ w2 fun e4 w5 =>
 ∃ r6:Bool,e4=.returned (.bool r6) ∧
 br r3 (
 br r6 (
 Q (.int .i64 0) w5) (
 Q (.int .i64 (-1)) w5)) (
 br r6 (
 Q (.int .i64 1) w5) (
 br (decide ((x_0:Int) < y_1)) (
 Q (.int .i64 (-1)) w5) (
 br (decide ((x_0:Int) > y_1)) (
 Q (.int .i64 1) w5) (
 Q (.int .i64 0) w5))))
theorem qai.ok (x_0:Int) (y_1:Int) (Q:VWP) (w:World) (h:qai x_0 y_1 Q w):Calls Tryz.prog 286 ⟨[.int .i64 x_0,.int .i64 y_1]⟩ w (Ret Q):=by
 refine qp [.tmp 4] Tryz.func286 rfl rfl rfl rfl ?_
 exact qg qpb _ (Eq.mp (by kernel_rfl) h)
def qn.j3 (data_0:Sl) (a_1:Int) (b_2 i_8:Int) (Q:VWP) (nx1:Sl→Int→Int→Int→World→Prop) (w:World):Prop :=
 lt (IntKind.i64.wrap (i_8+1)) fun x1 =>
 nx1 data_0 a_1 b_2 x1 w
def qn.b2 (data_0:Sl) (a_1:Int) (b_2 i_8 j_9:Int) (Q:VWP) (nx1:Sl→Int→Int→Int→World→Prop) (nx2:Sl→Int→Int→Int→Int→World→Prop) (w:World):Prop :=
 lt (World.drew w) fun w2 =>
 br (decide ((j_9:Int) > a_1)) (
 ixS data_0.a data_0.len j_9 2 fun a3 =>
 ldA w2 a3 2 fun c4 =>
 lt (IntKind.i64.wrap (j_9 - 1)) fun x5 =>
 ixS data_0.a data_0.len x5 2 fun a6 =>
 ldA w2 a6 2 fun c7 =>
 Calls Tryz.prog 285 ⟨[.agg c4,.agg c7]⟩ w2 fun e8 w9 =>
 ∃ r10:Int,e8=.returned (.int .i64 r10) ∧
 br (decide ((r10:Int) < 0)) (
 lt (World.drew w9) fun w11 =>
 lt (IntKind.i64.wrap (j_9 - 1)) fun x12 =>
 lt (IntKind.i64.wrap (j_9 - 1)) fun x13 =>
 ixS data_0.a data_0.len x13 2 fun a14 =>
 ldA w11 a14 2 fun c15 =>
 ixS data_0.a data_0.len j_9 2 fun a16 =>
 ldA w11 a16 2 fun c17 =>
 ixS data_0.a data_0.len j_9 2 fun a18 =>
 (c15).size=2 ∧
 stA w11 a18 c15 fun w19 =>
 ixS data_0.a data_0.len x12 2 fun a20 =>
 (c17).size=2 ∧
 stA w19 a20 c17 fun w21 =>
 lt (IntKind.i64.wrap (j_9 - 1)) fun x22 =>
 nx2 data_0 a_1 b_2 i_8 x22 w21) (
 qn.j3 data_0 a_1 b_2 i_8 Q nx1 w9)) (
 qn.j3 data_0 a_1 b_2 i_8 Q nx1 w2)
def qn.l2 (data_0:Sl) (a_1:Int) (b_2 i_8 j_9:Int) (Q:VWP) (nx1:Sl→Int→Int→Int→World→Prop) (w:World):Prop :=
 ∃ (I:Int→World→Prop) (μ:Int→World→Nat),I j_9 w∧∀ j_9:Int,∀ w:World,I j_9 w→qn.b2 data_0 a_1 b_2 i_8 j_9 Q nx1 (fun data_0' a_1' b_2' i_8' j_9' w'=>(data_0'=data_0∧a_1'=a_1∧b_2'=b_2∧i_8'=i_8)∧I j_9' w'∧μ j_9' w' < μ j_9 w) w
def qn.j4 (data_0:Sl) (a_1:Int) (b_2 i_8 j_9:Int) (Q:VWP) (nx1:Sl→Int→Int→Int→World→Prop) (w:World):Prop :=
 qn.l2 data_0 a_1 b_2 i_8 j_9 Q nx1 w
def qn.j2 (data_0:Sl) (a_1:Int) (b_2 i_8:Int) (Q:VWP) (nx1:Sl→Int→Int→Int→World→Prop) (w:World):Prop :=
 qn.j4 data_0 a_1 b_2 i_8 i_8 Q nx1 w
def qn.b1 (data_0:Sl) (a_1:Int) (b_2 i_8:Int) (Q:VWP) (nx1:Sl→Int→Int→Int→World→Prop) (w:World):Prop :=
 br (decide ((i_8:Int) < b_2)) (
 qn.j2 data_0 a_1 b_2 i_8 Q nx1 w) (
 Q (.tuple ⟨[]⟩) w)
def qn.l1 (data_0:Sl) (a_1:Int) (b_2 i_8:Int) (Q:VWP) (w:World):Prop :=
 ∃ (I:Int→World→Prop) (μ:Int→World→Nat),I i_8 w∧∀ i_8:Int,∀ w:World,I i_8 w→qn.b1 data_0 a_1 b_2 i_8 Q (fun data_0' a_1' b_2' i_8' w'=>(data_0'=data_0∧a_1'=a_1∧b_2'=b_2)∧I i_8' w'∧μ i_8' w' < μ i_8 w) w
def qn.j1 (data_0:Sl) (a_1:Int) (b_2 i_8:Int) (Q:VWP) (w:World):Prop :=
 qn.l1 data_0 a_1 b_2 i_8 Q w
def qn (data_0:Sl) (a_1:Int) (b_2:Int) (Q:VWP) (w:World):Prop :=
 lt (IntKind.i64.wrap (a_1+1)) fun x23 =>
 qn.j1 data_0 a_1 b_2 x23 Q w
theorem qn.ok (data_0:Sl) (a_1:Int) (b_2:Int) (Q:VWP) (w:World) (h:qn data_0 a_1 b_2 Q w):Calls Tryz.prog 343 ⟨[.slice data_0.a data_0.len data_0.cap,.int .i64 a_1,.int .i64 b_2,.func (.func 285) ⟨[]⟩ ⟨[]⟩]⟩ w (Ret Q):=by
 refine qp [] Tryz.func343 rfl rfl rfl rfl ?_
 refine qu (fun ρ w=>asL (ρ 0) fun data_0=>asI .i64 (ρ 1) fun a_1=>asI .i64 (ρ 2) fun b_2=>qsj 285 (ρ 3) <| asI .i64 (ρ 8) fun i_8=>qn.j1 data_0 a_1 b_2 i_8 Q w) ?_ ?_
 · skip
   exact qg qpb _ (Eq.mp (by kernel_rfl) h)
 · intro ρ w h
   obtain ⟨data_0,e0,h⟩:=ql h
   obtain ⟨a_1,e1,h⟩:=qd h
   obtain ⟨b_2,e2,h⟩:=qd h
   obtain ⟨e3,h⟩:=qmd h
   obtain ⟨i_8,e8,h⟩:=qd h
   refine qb e0 (qb (qa e1 rfl) (qb (qa (qa e2 rfl) rfl) (qb (qa (qa (qa e3 rfl) rfl) rfl) (qb (qa (qa (qa (qa e8 rfl) rfl) rfl) rfl) ?_))))
   refine qcb ?_
   obtain ⟨I,μ,hI,hr⟩:=h
   refine qlb (α:=Int) (fun s ρ=>ρ 8=.int .i64 s∧ρ 0=.slice data_0.a data_0.len data_0.cap∧ρ 1=.int .i64 a_1∧ρ 2=.int .i64 b_2∧ρ 3=.func (.func 285) ⟨[]⟩ ⟨[]⟩) (fun s w=>I s w) (fun s w=>μ s w) i_8 ⟨rfl,rfl,rfl,rfl,rfl⟩ hI ?_
   rintro i_8 ρ w ⟨e8,e0,e1,e2,e3⟩ hI
   have h:=hr i_8 w hI
   clear hr
   obtain ⟨nx1,hnx⟩:∃ nx:Sl→Int→Int→Int→World→Prop,nx=(fun data_0' a_1' b_2' i_8' w'=>(data_0'=data_0∧a_1'=a_1∧b_2'=b_2)∧I i_8' w'∧μ i_8' w' < μ i_8 w):=⟨_,rfl⟩
   rw [← hnx] at h
   refine qsb (M:=fun ρ w=>asL (ρ 0) fun data_0=>asI .i64 (ρ 1) fun a_1=>asI .i64 (ρ 2) fun b_2=>qsj 285 (ρ 3) <| asI .i64 (ρ 8) fun i_8=>nx1 data_0 a_1 b_2 i_8 w) ?_ (fun ρ w h=>?_)
   · skip
     refine qb e0 (qb (qa e1 rfl) (qb (qa (qa e2 rfl) rfl) (qb (qa (qa (qa e3 rfl) rfl) rfl) (qb (qa (qa (qa (qa e8 rfl) rfl) rfl) rfl) ?_))))
     refine qu (fun ρ w=>asL (ρ 0) fun data_0=>asI .i64 (ρ 1) fun a_1=>asI .i64 (ρ 2) fun b_2=>qsj 285 (ρ 3) <| asI .i64 (ρ 8) fun i_8=>qn.j2 data_0 a_1 b_2 i_8 Q nx1 w) ?_ ?_
     · skip
       exact qg qpb _ (Eq.mp (by kernel_rfl) h)
     · intro ρ w h
       obtain ⟨data_0,e0,h⟩:=ql h
       obtain ⟨a_1,e1,h⟩:=qd h
       obtain ⟨b_2,e2,h⟩:=qd h
       obtain ⟨e3,h⟩:=qmd h
       obtain ⟨i_8,e8,h⟩:=qd h
       refine qb e0 (qb (qa e1 rfl) (qb (qa (qa e2 rfl) rfl) (qb (qa (qa (qa e3 rfl) rfl) rfl) (qb (qa (qa (qa (qa e8 rfl) rfl) rfl) rfl) ?_))))
       refine qu (fun ρ w=>asL (ρ 0) fun data_0=>asI .i64 (ρ 1) fun a_1=>asI .i64 (ρ 2) fun b_2=>qsj 285 (ρ 3) <| asI .i64 (ρ 8) fun i_8=>qn.j3 data_0 a_1 b_2 i_8 Q nx1 w) ?_ ?_
       · skip
         refine qcb ?_
         refine qu (fun ρ w=>asL (ρ 0) fun data_0=>asI .i64 (ρ 1) fun a_1=>asI .i64 (ρ 2) fun b_2=>qsj 285 (ρ 3) <| asI .i64 (ρ 8) fun i_8=>asI .i64 (ρ 9) fun j_9=>qn.j4 data_0 a_1 b_2 i_8 j_9 Q nx1 w) ?_ ?_
         · skip
           exact qg qpb _ (Eq.mp (by kernel_rfl) h)
         · intro ρ w h
           obtain ⟨data_0,e0,h⟩:=ql h
           obtain ⟨a_1,e1,h⟩:=qd h
           obtain ⟨b_2,e2,h⟩:=qd h
           obtain ⟨e3,h⟩:=qmd h
           obtain ⟨i_8,e8,h⟩:=qd h
           obtain ⟨j_9,e9,h⟩:=qd h
           refine qb e0 (qb (qa e1 rfl) (qb (qa (qa e2 rfl) rfl) (qb (qa (qa (qa e3 rfl) rfl) rfl) (qb (qa (qa (qa (qa e8 rfl) rfl) rfl) rfl) (qb (qa (qa (qa (qa (qa e9 rfl) rfl) rfl) rfl) rfl) ?_)))))
           refine qcb ?_
           obtain ⟨I,μ,hI,hr⟩:=h
           refine qlb (α:=Int) (fun s ρ=>ρ 9=.int .i64 s∧ρ 0=.slice data_0.a data_0.len data_0.cap∧ρ 1=.int .i64 a_1∧ρ 2=.int .i64 b_2∧ρ 3=.func (.func 285) ⟨[]⟩ ⟨[]⟩∧ρ 8=.int .i64 i_8) (fun s w=>I s w) (fun s w=>μ s w) j_9 ⟨rfl,rfl,rfl,rfl,rfl,rfl⟩ hI ?_
           rintro j_9 ρ w ⟨e9,e0,e1,e2,e3,e8⟩ hI
           have h:=hr j_9 w hI
           clear hr
           obtain ⟨nx2,hnx⟩:∃ nx:Sl→Int→Int→Int→Int→World→Prop,nx=(fun data_0' a_1' b_2' i_8' j_9' w'=>(data_0'=data_0∧a_1'=a_1∧b_2'=b_2∧i_8'=i_8)∧I j_9' w'∧μ j_9' w' < μ j_9 w):=⟨_,rfl⟩
           rw [← hnx] at h
           refine qsb (M:=fun ρ w=>asL (ρ 0) fun data_0=>asI .i64 (ρ 1) fun a_1=>asI .i64 (ρ 2) fun b_2=>qsj 285 (ρ 3) <| asI .i64 (ρ 8) fun i_8=>asI .i64 (ρ 9) fun j_9=>nx2 data_0 a_1 b_2 i_8 j_9 w) ?_ (fun ρ w h=>?_)
           · skip
             refine qb e0 (qb (qa e1 rfl) (qb (qa (qa e2 rfl) rfl) (qb (qa (qa (qa e3 rfl) rfl) rfl) (qb (qa (qa (qa (qa e8 rfl) rfl) rfl) rfl) (qb (qa (qa (qa (qa (qa e9 rfl) rfl) rfl) rfl) rfl) ?_)))))
             exact qg qpb _ (Eq.mp (by kernel_rfl) h)
           · skip
             obtain ⟨data_0',e0',h⟩:=ql h
             obtain ⟨a_1',e1',h⟩:=qd h
             obtain ⟨b_2',e2',h⟩:=qd h
             obtain ⟨e3',h⟩:=qmd h
             obtain ⟨i_8',e8',h⟩:=qd h
             obtain ⟨j_9',e9',h⟩:=qd h
             rw [hnx] at h
             obtain ⟨hu,hI2,hμ⟩:=h
             obtain ⟨rfl,rfl,rfl,rfl⟩:=hu
             exact ⟨j_9',⟨e9',e0',e1',e2',e3',e8'⟩,hI2,hμ⟩
       · intro ρ w h
         obtain ⟨data_0,e0,h⟩:=ql h
         obtain ⟨a_1,e1,h⟩:=qd h
         obtain ⟨b_2,e2,h⟩:=qd h
         obtain ⟨e3,h⟩:=qmd h
         obtain ⟨i_8,e8,h⟩:=qd h
         refine qb e0 (qb (qa e1 rfl) (qb (qa (qa e2 rfl) rfl) (qb (qa (qa (qa e3 rfl) rfl) rfl) (qb (qa (qa (qa (qa e8 rfl) rfl) rfl) rfl) ?_))))
         exact qg qpb _ (Eq.mp (by kernel_rfl) h)
   · skip
     obtain ⟨data_0',e0',h⟩:=ql h
     obtain ⟨a_1',e1',h⟩:=qd h
     obtain ⟨b_2',e2',h⟩:=qd h
     obtain ⟨e3',h⟩:=qmd h
     obtain ⟨i_8',e8',h⟩:=qd h
     rw [hnx] at h
     obtain ⟨hu,hI2,hμ⟩:=h
     obtain ⟨rfl,rfl,rfl⟩:=hu
     exact ⟨i_8',⟨e8',e0',e1',e2',e3'⟩,hI2,hμ⟩
def qqb.b1 (data_0:Sl) (a_1:Int) (b_2 n_3 i_10:Int) (Q:VWP) (nx1:Sl→Int→Int→Int→Int→World→Prop) (w:World):Prop :=
 br (decide ((i_10:Int) < n_3)) (
 lt (World.drew w) fun w1 =>
 lt (IntKind.i64.wrap (a_1+i_10)) fun x2 =>
 lt (IntKind.i64.wrap (b_2+i_10)) fun x3 =>
 lt (IntKind.i64.wrap (b_2+i_10)) fun x4 =>
 ixS data_0.a data_0.len x4 2 fun a5 =>
 ldA w1 a5 2 fun c6 =>
 lt (IntKind.i64.wrap (a_1+i_10)) fun x7 =>
 ixS data_0.a data_0.len x7 2 fun a8 =>
 ldA w1 a8 2 fun c9 =>
 ixS data_0.a data_0.len x2 2 fun a10 =>
 (c6).size=2 ∧
 stA w1 a10 c6 fun w11 =>
 ixS data_0.a data_0.len x3 2 fun a12 =>
 (c9).size=2 ∧
 stA w11 a12 c9 fun w13 =>
 lt (IntKind.i64.wrap (i_10+1)) fun x14 =>
 nx1 data_0 a_1 b_2 n_3 x14 w13) (
 Q (.tuple ⟨[]⟩) w)
def qqb.l1 (data_0:Sl) (a_1:Int) (b_2 n_3 i_10:Int) (Q:VWP) (w:World):Prop :=
 ∃ (I:Int→World→Prop) (μ:Int→World→Nat),I i_10 w∧∀ i_10:Int,∀ w:World,I i_10 w→qqb.b1 data_0 a_1 b_2 n_3 i_10 Q (fun data_0' a_1' b_2' n_3' i_10' w'=>(data_0'=data_0∧a_1'=a_1∧b_2'=b_2∧n_3'=n_3)∧I i_10' w'∧μ i_10' w' < μ i_10 w) w
def qqb.j1 (data_0:Sl) (a_1:Int) (b_2 n_3 i_10:Int) (Q:VWP) (w:World):Prop :=
 qqb.l1 data_0 a_1 b_2 n_3 i_10 Q w
def qqb (data_0:Sl) (a_1:Int) (b_2 n_3:Int) (Q:VWP) (w:World):Prop :=
 qqb.j1 data_0 a_1 b_2 n_3 0 Q w
theorem qqb.ok (data_0:Sl) (a_1:Int) (b_2:Int) (n_3:Int) (Q:VWP) (w:World) (h:qqb data_0 a_1 b_2 n_3 Q w):Calls Tryz.prog 350 ⟨[.slice data_0.a data_0.len data_0.cap,.int .i64 a_1,.int .i64 b_2,.int .i64 n_3,.func (.func 285) ⟨[]⟩ ⟨[]⟩]⟩ w (Ret Q):=by
 refine qp [] Tryz.func350 rfl rfl rfl rfl ?_
 refine qu (fun ρ w=>asL (ρ 0) fun data_0=>asI .i64 (ρ 1) fun a_1=>asI .i64 (ρ 2) fun b_2=>asI .i64 (ρ 3) fun n_3=>asI .i64 (ρ 10) fun i_10=>qqb.j1 data_0 a_1 b_2 n_3 i_10 Q w) ?_ ?_
 · skip
   exact qg qpb _ (Eq.mp (by kernel_rfl) h)
 · intro ρ w h
   obtain ⟨data_0,e0,h⟩:=ql h
   obtain ⟨a_1,e1,h⟩:=qd h
   obtain ⟨b_2,e2,h⟩:=qd h
   obtain ⟨n_3,e3,h⟩:=qd h
   obtain ⟨i_10,e10,h⟩:=qd h
   refine qb e0 (qb (qa e1 rfl) (qb (qa (qa e2 rfl) rfl) (qb (qa (qa (qa e3 rfl) rfl) rfl) (qb (qa (qa (qa (qa e10 rfl) rfl) rfl) rfl) ?_))))
   refine qcb ?_
   obtain ⟨I,μ,hI,hr⟩:=h
   refine qlb (α:=Int) (fun s ρ=>ρ 10=.int .i64 s∧ρ 0=.slice data_0.a data_0.len data_0.cap∧ρ 1=.int .i64 a_1∧ρ 2=.int .i64 b_2∧ρ 3=.int .i64 n_3) (fun s w=>I s w) (fun s w=>μ s w) i_10 ⟨rfl,rfl,rfl,rfl,rfl⟩ hI ?_
   rintro i_10 ρ w ⟨e10,e0,e1,e2,e3⟩ hI
   have h:=hr i_10 w hI
   clear hr
   obtain ⟨nx1,hnx⟩:∃ nx:Sl→Int→Int→Int→Int→World→Prop,nx=(fun data_0' a_1' b_2' n_3' i_10' w'=>(data_0'=data_0∧a_1'=a_1∧b_2'=b_2∧n_3'=n_3)∧I i_10' w'∧μ i_10' w' < μ i_10 w):=⟨_,rfl⟩
   rw [← hnx] at h
   refine qsb (M:=fun ρ w=>asL (ρ 0) fun data_0=>asI .i64 (ρ 1) fun a_1=>asI .i64 (ρ 2) fun b_2=>asI .i64 (ρ 3) fun n_3=>asI .i64 (ρ 10) fun i_10=>nx1 data_0 a_1 b_2 n_3 i_10 w) ?_ (fun ρ w h=>?_)
   · skip
     refine qb e0 (qb (qa e1 rfl) (qb (qa (qa e2 rfl) rfl) (qb (qa (qa (qa e3 rfl) rfl) rfl) (qb (qa (qa (qa (qa e10 rfl) rfl) rfl) rfl) ?_))))
     exact qg qpb _ (Eq.mp (by kernel_rfl) h)
   · skip
     obtain ⟨data_0',e0',h⟩:=ql h
     obtain ⟨a_1',e1',h⟩:=qd h
     obtain ⟨b_2',e2',h⟩:=qd h
     obtain ⟨n_3',e3',h⟩:=qd h
     obtain ⟨i_10',e10',h⟩:=qd h
     rw [hnx] at h
     obtain ⟨hu,hI2,hμ⟩:=h
     obtain ⟨rfl,rfl,rfl,rfl⟩:=hu
     exact ⟨i_10',⟨e10',e0',e1',e2',e3'⟩,hI2,hμ⟩
def qgb.j2 (data_0:Sl) (m_2:Int) (i_10:Int) (Q:VWP) (w:World):Prop :=
 lt (IntKind.i64.wrap (m_2 - i_10)) fun x1 =>
 Calls Tryz.prog 350 ⟨[.slice data_0.a data_0.len data_0.cap,.int .i64 x1,.int .i64 m_2,.int .i64 i_10,.func (.func 285) ⟨[]⟩ ⟨[]⟩]⟩ w fun e2 w3 =>
 e2=.returned (.tuple ⟨[]⟩) ∧
 Q (.tuple ⟨[]⟩) w3
def qgb.b1 (data_0:Sl) (m_2:Int) (i_10 j_11:Int) (Q:VWP) (nx1:Sl→Int→Int→Int→World→Prop) (w:World):Prop :=
 br ((i_10:Int) != j_11) (
 br (decide ((i_10:Int) > j_11)) (
 lt (IntKind.i64.wrap (m_2 - i_10)) fun x4 =>
 Calls Tryz.prog 350 ⟨[.slice data_0.a data_0.len data_0.cap,.int .i64 x4,.int .i64 m_2,.int .i64 j_11,.func (.func 285) ⟨[]⟩ ⟨[]⟩]⟩ w fun e5 w6 =>
 e5=.returned (.tuple ⟨[]⟩) ∧
 lt (IntKind.i64.wrap (i_10 - j_11)) fun x7 =>
 nx1 data_0 m_2 x7 j_11 w6) (
 lt (IntKind.i64.wrap (m_2 - i_10)) fun x8 =>
 lt (IntKind.i64.wrap (m_2+j_11)) fun x9 =>
 lt (IntKind.i64.wrap (x9 - i_10)) fun x10 =>
 Calls Tryz.prog 350 ⟨[.slice data_0.a data_0.len data_0.cap,.int .i64 x8,.int .i64 x10,.int .i64 i_10,.func (.func 285) ⟨[]⟩ ⟨[]⟩]⟩ w fun e11 w12 =>
 e11=.returned (.tuple ⟨[]⟩) ∧
 lt (IntKind.i64.wrap (j_11 - i_10)) fun x13 =>
 nx1 data_0 m_2 i_10 x13 w12)) (
 qgb.j2 data_0 m_2 i_10 Q w)
def qgb.l1 (data_0:Sl) (m_2:Int) (i_10 j_11:Int) (Q:VWP) (w:World):Prop :=
 ∃ (I:Int→Int→World→Prop) (μ:Int→Int→World→Nat),I i_10 j_11 w∧∀ i_10:Int,∀ j_11:Int,∀ w:World,I i_10 j_11 w→qgb.b1 data_0 m_2 i_10 j_11 Q (fun data_0' m_2' i_10' j_11' w'=>(data_0'=data_0∧m_2'=m_2)∧I i_10' j_11' w'∧μ i_10' j_11' w' < μ i_10 j_11 w) w
def qgb.j1 (data_0:Sl) (m_2:Int) (i_10 j_11:Int) (Q:VWP) (w:World):Prop :=
 qgb.l1 data_0 m_2 i_10 j_11 Q w
def qgb (data_0:Sl) (a_1:Int) (m_2 b_3:Int) (Q:VWP) (w:World):Prop :=
 lt (IntKind.i64.wrap (m_2 - a_1)) fun x14 =>
 lt (IntKind.i64.wrap (b_3 - m_2)) fun x15 =>
 qgb.j1 data_0 m_2 x14 x15 Q w
theorem qgb.ok (data_0:Sl) (a_1:Int) (m_2:Int) (b_3:Int) (Q:VWP) (w:World) (h:qgb data_0 a_1 m_2 b_3 Q w):Calls Tryz.prog 349 ⟨[.slice data_0.a data_0.len data_0.cap,.int .i64 a_1,.int .i64 m_2,.int .i64 b_3,.func (.func 285) ⟨[]⟩ ⟨[]⟩]⟩ w (Ret Q):=by
 refine qp [] Tryz.func349 rfl rfl rfl rfl ?_
 refine qfb qpb (fun ρ w=>asL (ρ 0) fun data_0=>asI .i64 (ρ 2) fun m_2=>qsj 285 (ρ 4) <| asI .i64 (ρ 10) fun i_10=>asI .i64 (ρ 11) fun j_11=>qgb.j1 data_0 m_2 i_10 j_11 Q w) (Eq.mp (by kernel_rfl) h) ?_
 intro ρ w h
 obtain ⟨data_0,e0,h⟩:=ql h
 obtain ⟨m_2,e2,h⟩:=qd h
 obtain ⟨e4,h⟩:=qmd h
 obtain ⟨i_10,e10,h⟩:=qd h
 obtain ⟨j_11,e11,h⟩:=qd h
 refine qb e0 (qb (qa e2 rfl) (qb (qa (qa e4 rfl) rfl) (qb (qa (qa (qa e10 rfl) rfl) rfl) (qb (qa (qa (qa (qa e11 rfl) rfl) rfl) rfl) ?_))))
 refine qu (fun ρ w=>asL (ρ 0) fun data_0=>asI .i64 (ρ 2) fun m_2=>qsj 285 (ρ 4) <| asI .i64 (ρ 10) fun i_10=>qgb.j2 data_0 m_2 i_10 Q w) ?_ ?_
 · skip
   refine qcb ?_
   obtain ⟨I,μ,hI,hr⟩:=h
   refine qlb (α:=Int × Int) (fun s ρ=>ρ 10=.int .i64 s.1∧ρ 11=.int .i64 s.2∧ρ 0=.slice data_0.a data_0.len data_0.cap∧ρ 2=.int .i64 m_2∧ρ 4=.func (.func 285) ⟨[]⟩ ⟨[]⟩) (fun s w=>I s.1 s.2 w) (fun s w=>μ s.1 s.2 w) (i_10,j_11) ⟨rfl,rfl,rfl,rfl,rfl⟩ hI ?_
   rintro ⟨i_10,j_11⟩ ρ w ⟨e10,e11,e0,e2,e4⟩ hI
   have h:=hr i_10 j_11 w hI
   clear hr
   obtain ⟨nx1,hnx⟩:∃ nx:Sl→Int→Int→Int→World→Prop,nx=(fun data_0' m_2' i_10' j_11' w'=>(data_0'=data_0∧m_2'=m_2)∧I i_10' j_11' w'∧μ i_10' j_11' w' < μ i_10 j_11 w):=⟨_,rfl⟩
   rw [← hnx] at h
   refine qsb (M:=fun ρ w=>asL (ρ 0) fun data_0=>asI .i64 (ρ 2) fun m_2=>qsj 285 (ρ 4) <| asI .i64 (ρ 10) fun i_10=>asI .i64 (ρ 11) fun j_11=>nx1 data_0 m_2 i_10 j_11 w) ?_ (fun ρ w h=>?_)
   · skip
     refine qb e0 (qb (qa e2 rfl) (qb (qa (qa e4 rfl) rfl) (qb (qa (qa (qa e10 rfl) rfl) rfl) (qb (qa (qa (qa (qa e11 rfl) rfl) rfl) rfl) ?_))))
     exact qg qpb _ (Eq.mp (by kernel_rfl) h)
   · skip
     obtain ⟨data_0',e0',h⟩:=ql h
     obtain ⟨m_2',e2',h⟩:=qd h
     obtain ⟨e4',h⟩:=qmd h
     obtain ⟨i_10',e10',h⟩:=qd h
     obtain ⟨j_11',e11',h⟩:=qd h
     rw [hnx] at h
     obtain ⟨hu,hI2,hμ⟩:=h
     obtain ⟨rfl,rfl⟩:=hu
     exact ⟨(i_10',j_11'),⟨e10',e11',e0',e2',e4'⟩,hI2,hμ⟩
 · intro ρ w h
   obtain ⟨data_0,e0,h⟩:=ql h
   obtain ⟨m_2,e2,h⟩:=qd h
   obtain ⟨e4,h⟩:=qmd h
   obtain ⟨i_10,e10,h⟩:=qd h
   refine qb e0 (qb (qa e2 rfl) (qb (qa (qa e4 rfl) rfl) (qb (qa (qa (qa e10 rfl) rfl) rfl) ?_)))
   exact qg qpb _ (Eq.mp (by kernel_rfl) h)
def qc.j8 (d_0:Sl) (t3:Int) (t18 t24:Int) (Q:VWP) (w:World):Prop :=
 br (decide ((t18:Int) < t24)) (
 br (decide ((t24:Int) < t3)) (
 Calls Tryz.prog 344 ⟨[.slice d_0.a d_0.len d_0.cap,.int .i64 t18,.int .i64 t24,.int .i64 t3,.func (.func 285) ⟨[]⟩ ⟨[]⟩]⟩ w fun e1 w2 =>
 e1=.returned (.tuple ⟨[]⟩) ∧
 Q (.tuple ⟨[]⟩) w2) (
 Q (.tuple ⟨[]⟩) w)) (
 Q (.tuple ⟨[]⟩) w)
def qc.j7 (d_0:Sl) (i_1:Int) (t3 t18 t20 t24:Int) (Q:VWP) (w:World):Prop :=
 br (decide ((i_1:Int) < t20)) (
 br (decide ((t20:Int) < t18)) (
 Calls Tryz.prog 344 ⟨[.slice d_0.a d_0.len d_0.cap,.int .i64 i_1,.int .i64 t20,.int .i64 t18,.func (.func 285) ⟨[]⟩ ⟨[]⟩]⟩ w fun e3 w4 =>
 e3=.returned (.tuple ⟨[]⟩) ∧
 qc.j8 d_0 t3 t18 t24 Q w4) (
 qc.j8 d_0 t3 t18 t24 Q w)) (
 qc.j8 d_0 t3 t18 t24 Q w)
def qc.j6 (d_0:Sl) (i_1:Int) (t2 t3 t18 t19 t20:Int) (Q:VWP) (w:World):Prop :=
 lt (IntKind.i64.wrap (t19 - t20)) fun x5 =>
 br (decide ((t20:Int) < t2)) (
 br (decide ((t2:Int) < x5)) (
 Calls Tryz.prog 349 ⟨[.slice d_0.a d_0.len d_0.cap,.int .i64 t20,.int .i64 t2,.int .i64 x5,.func (.func 285) ⟨[]⟩ ⟨[]⟩]⟩ w fun e6 w7 =>
 e6=.returned (.tuple ⟨[]⟩) ∧
 qc.j7 d_0 i_1 t3 t18 t20 x5 Q w7) (
 qc.j7 d_0 i_1 t3 t18 t20 x5 Q w)) (
 qc.j7 d_0 i_1 t3 t18 t20 x5 Q w)
def qc.b1 (d_0:Sl) (i_1:Int) (t2 t3 t18 t19 t22 t20 t21:Int) (Q:VWP) (nx1:Sl→Int→Int→Int→Int→Int→Int→Int→Int→World→Prop) (w:World):Prop :=
 br (decide ((t20:Int) < t21)) (
 lt (IntKind.i64.wrap (t20+t21)) fun x8 =>
 lt (IntKind.u64.wrap x8) fun x9 =>
 (0:Int)≤1 ∧
 lt (shrV .u64 x9 1) fun x10 =>
 lt (IntKind.i64.wrap x10) fun x11 =>
 lt (World.drew w) fun w12 =>
 lt (IntKind.i64.wrap (t22 - x11)) fun x13 =>
 ixS d_0.a d_0.len x13 2 fun a14 =>
 ldA w12 a14 2 fun c15 =>
 ixS d_0.a d_0.len x11 2 fun a16 =>
 ldA w12 a16 2 fun c17 =>
 Calls Tryz.prog 285 ⟨[.agg c15,.agg c17]⟩ w12 fun e18 w19 =>
 ∃ r20:Int,e18=.returned (.int .i64 r20) ∧
 br (!(decide ((r20:Int) < 0))) (
 lt (IntKind.i64.wrap (x11+1)) fun x21 =>
 nx1 d_0 i_1 t2 t3 t18 t19 t22 x21 t21 w19) (
 nx1 d_0 i_1 t2 t3 t18 t19 t22 t20 x11 w19)) (
 qc.j6 d_0 i_1 t2 t3 t18 t19 t20 Q w)
def qc.l1 (d_0:Sl) (i_1:Int) (t2 t3 t18 t19 t22 t20 t21:Int) (Q:VWP) (w:World):Prop :=
 ∃ (I:Int→Int→World→Prop) (μ:Int→Int→World→Nat),I t20 t21 w∧∀ t20:Int,∀ t21:Int,∀ w:World,I t20 t21 w→qc.b1 d_0 i_1 t2 t3 t18 t19 t22 t20 t21 Q (fun d_0' i_1' t2' t3' t18' t19' t22' t20' t21' w'=>(d_0'=d_0∧i_1'=i_1∧t2'=t2∧t3'=t3∧t18'=t18∧t19'=t19∧t22'=t22)∧I t20' t21' w'∧μ t20' t21' w' < μ t20 t21 w) w
def qc.j5 (d_0:Sl) (i_1:Int) (t2 t3 t18 t19 t20 t21 t22:Int) (Q:VWP) (w:World):Prop :=
 qc.l1 d_0 i_1 t2 t3 t18 t19 t22 t20 t21 Q w
def qc.j4 (d_0:Sl) (i_1:Int) (t2 t3 t18 t19 t20 t21:Int) (Q:VWP) (w:World):Prop :=
 lt (IntKind.i64.wrap (t19 - 1)) fun x22 =>
 qc.j5 d_0 i_1 t2 t3 t18 t19 t20 t21 x22 Q w
def qc.j3 (d_0:Sl) (i_1:Int) (t2 t3 t18 t19:Int) (Q:VWP) (w:World):Prop :=
 br (decide ((t2:Int) > t18)) (
 lt (IntKind.i64.wrap (t19 - t3)) fun x23 =>
 qc.j4 d_0 i_1 t2 t3 t18 t19 x23 t18 Q w) (
 qc.j4 d_0 i_1 t2 t3 t18 t19 i_1 t2 Q w)
def qc.j2 (d_0:Sl) (i_1:Int) (t2 t3:Int) (Q:VWP) (w:World):Prop :=
 lt (IntKind.i64.wrap (i_1+t3)) fun x24 =>
 lt (IntKind.u64.wrap x24) fun x25 =>
 (0:Int)≤1 ∧
 lt (shrV .u64 x25 1) fun x26 =>
 lt (IntKind.i64.wrap x26) fun x27 =>
 lt (IntKind.i64.wrap (x27+t2)) fun x28 =>
 qc.j3 d_0 i_1 t2 t3 x27 x28 Q w
def qc.j12  (Q:VWP) (w:World):Prop :=
 Q (.tuple ⟨[]⟩) w
def qc.b2 (d_0:Sl) (t14:Int) (t17:Int) (Q:VWP) (nx2:Sl→Int→Int→World→Prop) (w:World):Prop :=
 br (decide ((t17:Int) > t14)) (
 lt (World.drew w) fun w29 =>
 lt (IntKind.i64.wrap (t17 - 1)) fun x30 =>
 lt (IntKind.i64.wrap (t17 - 1)) fun x31 =>
 ixS d_0.a d_0.len x31 2 fun a32 =>
 ldA w29 a32 2 fun c33 =>
 ixS d_0.a d_0.len t17 2 fun a34 =>
 ldA w29 a34 2 fun c35 =>
 ixS d_0.a d_0.len t17 2 fun a36 =>
 (c33).size=2 ∧
 stA w29 a36 c33 fun w37 =>
 ixS d_0.a d_0.len x30 2 fun a38 =>
 (c35).size=2 ∧
 stA w37 a38 c35 fun w39 =>
 lt (IntKind.i64.wrap (t17 - 1)) fun x40 =>
 nx2 d_0 t14 x40 w39) (
 qc.j12 Q w)
def qc.l2 (d_0:Sl) (t14:Int) (t17:Int) (Q:VWP) (w:World):Prop :=
 ∃ (I:Int→World→Prop) (μ:Int→World→Nat),I t17 w∧∀ t17:Int,∀ w:World,I t17 w→qc.b2 d_0 t14 t17 Q (fun d_0' t14' t17' w'=>(d_0'=d_0∧t14'=t14)∧I t17' w'∧μ t17' w' < μ t17 w) w
def qc.j13 (d_0:Sl) (t14:Int) (t17:Int) (Q:VWP) (w:World):Prop :=
 qc.l2 d_0 t14 t17 Q w
def qc.j11 (d_0:Sl) (t2:Int) (t14:Int) (Q:VWP) (w:World):Prop :=
 qc.j13 d_0 t14 t2 Q w
def qc.b3 (d_0:Sl) (t2:Int) (t14 t15:Int) (Q:VWP) (nx3:Sl→Int→Int→Int→World→Prop) (w:World):Prop :=
 br (decide ((t14:Int) < t15)) (
 lt (IntKind.i64.wrap (t14+t15)) fun x41 =>
 lt (IntKind.u64.wrap x41) fun x42 =>
 (0:Int)≤1 ∧
 lt (shrV .u64 x42 1) fun x43 =>
 lt (IntKind.i64.wrap x43) fun x44 =>
 lt (World.drew w) fun w45 =>
 ixS d_0.a d_0.len t2 2 fun a46 =>
 ldA w45 a46 2 fun c47 =>
 ixS d_0.a d_0.len x44 2 fun a48 =>
 ldA w45 a48 2 fun c49 =>
 Calls Tryz.prog 285 ⟨[.agg c47,.agg c49]⟩ w45 fun e50 w51 =>
 ∃ r52:Int,e50=.returned (.int .i64 r52) ∧
 br (!(decide ((r52:Int) < 0))) (
 lt (IntKind.i64.wrap (x44+1)) fun x53 =>
 nx3 d_0 t2 x53 t15 w51) (
 nx3 d_0 t2 t14 x44 w51)) (
 qc.j11 d_0 t2 t14 Q w)
def qc.l3 (d_0:Sl) (t2:Int) (t14 t15:Int) (Q:VWP) (w:World):Prop :=
 ∃ (I:Int→Int→World→Prop) (μ:Int→Int→World→Nat),I t14 t15 w∧∀ t14:Int,∀ t15:Int,∀ w:World,I t14 t15 w→qc.b3 d_0 t2 t14 t15 Q (fun d_0' t2' t14' t15' w'=>(d_0'=d_0∧t2'=t2)∧I t14' t15' w'∧μ t14' t15' w' < μ t14 t15 w) w
def qc.j10 (d_0:Sl) (t2:Int) (t14 t15:Int) (Q:VWP) (w:World):Prop :=
 qc.l3 d_0 t2 t14 t15 Q w
def qc.j9 (d_0:Sl) (i_1:Int) (t2 t3:Int) (t80:Bool) (Q:VWP) (w:World):Prop :=
 br t80 (
 qc.j10 d_0 t2 i_1 t2 Q w) (
 qc.j2 d_0 i_1 t2 t3 Q w)
def qc.j1 (d_0:Sl) (i_1:Int) (t2 t3:Int) (Q:VWP) (w:World):Prop :=
 lt (IntKind.i64.wrap (t3 - t2)) fun x54 =>
 qc.j9 d_0 i_1 t2 t3 ((x54:Int) == 1) Q w
def qc.j17  (Q:VWP) (w:World):Prop :=
 Q (.tuple ⟨[]⟩) w
def qc.b4 (d_0:Sl) (t10:Int) (t13:Int) (Q:VWP) (nx4:Sl→Int→Int→World→Prop) (w:World):Prop :=
 lt (IntKind.i64.wrap (t10 - 1)) fun x55 =>
 br (decide ((t13:Int) < x55)) (
 lt (World.drew w) fun w56 =>
 lt (IntKind.i64.wrap (t13+1)) fun x57 =>
 lt (IntKind.i64.wrap (t13+1)) fun x58 =>
 ixS d_0.a d_0.len x58 2 fun a59 =>
 ldA w56 a59 2 fun c60 =>
 ixS d_0.a d_0.len t13 2 fun a61 =>
 ldA w56 a61 2 fun c62 =>
 ixS d_0.a d_0.len t13 2 fun a63 =>
 (c60).size=2 ∧
 stA w56 a63 c60 fun w64 =>
 ixS d_0.a d_0.len x57 2 fun a65 =>
 (c62).size=2 ∧
 stA w64 a65 c62 fun w66 =>
 lt (IntKind.i64.wrap (t13+1)) fun x67 =>
 nx4 d_0 t10 x67 w66) (
 qc.j17 Q w)
def qc.l4 (d_0:Sl) (t10:Int) (t13:Int) (Q:VWP) (w:World):Prop :=
 ∃ (I:Int→World→Prop) (μ:Int→World→Nat),I t13 w∧∀ t13:Int,∀ w:World,I t13 w→qc.b4 d_0 t10 t13 Q (fun d_0' t10' t13' w'=>(d_0'=d_0∧t10'=t10)∧I t13' w'∧μ t13' w' < μ t13 w) w
def qc.j18 (d_0:Sl) (t10:Int) (t13:Int) (Q:VWP) (w:World):Prop :=
 qc.l4 d_0 t10 t13 Q w
def qc.j16 (d_0:Sl) (i_1:Int) (t10:Int) (Q:VWP) (w:World):Prop :=
 qc.j18 d_0 t10 i_1 Q w
def qc.b5 (d_0:Sl) (i_1:Int) (t10 t11:Int) (Q:VWP) (nx5:Sl→Int→Int→Int→World→Prop) (w:World):Prop :=
 br (decide ((t10:Int) < t11)) (
 lt (IntKind.i64.wrap (t10+t11)) fun x68 =>
 lt (IntKind.u64.wrap x68) fun x69 =>
 (0:Int)≤1 ∧
 lt (shrV .u64 x69 1) fun x70 =>
 lt (IntKind.i64.wrap x70) fun x71 =>
 lt (World.drew w) fun w72 =>
 ixS d_0.a d_0.len x71 2 fun a73 =>
 ldA w72 a73 2 fun c74 =>
 ixS d_0.a d_0.len i_1 2 fun a75 =>
 ldA w72 a75 2 fun c76 =>
 Calls Tryz.prog 285 ⟨[.agg c74,.agg c76]⟩ w72 fun e77 w78 =>
 ∃ r79:Int,e77=.returned (.int .i64 r79) ∧
 br (decide ((r79:Int) < 0)) (
 lt (IntKind.i64.wrap (x71+1)) fun x80 =>
 nx5 d_0 i_1 x80 t11 w78) (
 nx5 d_0 i_1 t10 x71 w78)) (
 qc.j16 d_0 i_1 t10 Q w)
def qc.l5 (d_0:Sl) (i_1:Int) (t10 t11:Int) (Q:VWP) (w:World):Prop :=
 ∃ (I:Int→Int→World→Prop) (μ:Int→Int→World→Nat),I t10 t11 w∧∀ t10:Int,∀ t11:Int,∀ w:World,I t10 t11 w→qc.b5 d_0 i_1 t10 t11 Q (fun d_0' i_1' t10' t11' w'=>(d_0'=d_0∧i_1'=i_1)∧I t10' t11' w'∧μ t10' t11' w' < μ t10 t11 w) w
def qc.j15 (d_0:Sl) (i_1:Int) (t10 t11:Int) (Q:VWP) (w:World):Prop :=
 qc.l5 d_0 i_1 t10 t11 Q w
def qc.j14 (d_0:Sl) (i_1:Int) (t2 t3:Int) (t28:Bool) (Q:VWP) (w:World):Prop :=
 br t28 (
 qc.j15 d_0 i_1 t2 t3 Q w) (
 qc.j1 d_0 i_1 t2 t3 Q w)
def qc (d_0:Sl) (i_1:Int) (t2 t3:Int) (Q:VWP) (w:World):Prop :=
 lt (IntKind.i64.wrap (t2 - i_1)) fun x81 =>
 qc.j14 d_0 i_1 t2 t3 ((x81:Int) == 1) Q w
theorem qc.ok (d_0:Sl) (i_1:Int) (t2:Int) (t3:Int) (Q:VWP) (w:World) (h:qc d_0 i_1 t2 t3 Q w):Calls Tryz.prog 344 ⟨[.slice d_0.a d_0.len d_0.cap,.int .i64 i_1,.int .i64 t2,.int .i64 t3,.func (.func 285) ⟨[]⟩ ⟨[]⟩]⟩ w (Ret Q):=by
 refine qp [] Tryz.func344 rfl rfl rfl rfl ?_
 refine qu (fun ρ w=>asL (ρ 0) fun d_0=>asI .i64 (ρ 1) fun i_1=>asI .i64 (ρ 2) fun t2=>asI .i64 (ρ 3) fun t3=>qsj 285 (ρ 4) <| qc.j1 d_0 i_1 t2 t3 Q w) ?_ ?_
 · skip
   refine qu (fun ρ w=>asL (ρ 0) fun d_0=>asI .i64 (ρ 1) fun i_1=>asI .i64 (ρ 2) fun t2=>asI .i64 (ρ 3) fun t3=>qsj 285 (ρ 4) <| asB (ρ 28) fun t28=>qc.j14 d_0 i_1 t2 t3 t28 Q w) ?_ ?_
   · skip
     exact qg qpb _ (Eq.mp (by kernel_rfl) h)
   · intro ρ w h
     obtain ⟨d_0,e0,h⟩:=ql h
     obtain ⟨i_1,e1,h⟩:=qd h
     obtain ⟨t2,e2,h⟩:=qd h
     obtain ⟨t3,e3,h⟩:=qd h
     obtain ⟨e4,h⟩:=qmd h
     obtain ⟨t28,e28,h⟩:=qcd h
     refine qb e0 (qb (qa e1 rfl) (qb (qa (qa e2 rfl) rfl) (qb (qa (qa (qa e3 rfl) rfl) rfl) (qb (qa (qa (qa (qa e4 rfl) rfl) rfl) rfl) (qb (qa (qa (qa (qa (qa e28 rfl) rfl) rfl) rfl) rfl) ?_)))))
     refine qul (b:=t28) rfl (fun hb=>?_) (fun hb=>?_)
     · have h:=br_t h hb
       refine qfb qpb (fun ρ w=>asL (ρ 0) fun d_0=>asI .i64 (ρ 1) fun i_1=>qsj 285 (ρ 4) <| asI .i64 (ρ 10) fun t10=>asI .i64 (ρ 11) fun t11=>qc.j15 d_0 i_1 t10 t11 Q w) (Eq.mp (by kernel_rfl) h) ?_
       intro ρ w h
       obtain ⟨d_0,e0,h⟩:=ql h
       obtain ⟨i_1,e1,h⟩:=qd h
       obtain ⟨e4,h⟩:=qmd h
       obtain ⟨t10,e10,h⟩:=qd h
       obtain ⟨t11,e11,h⟩:=qd h
       refine qb e0 (qb (qa e1 rfl) (qb (qa (qa e4 rfl) rfl) (qb (qa (qa (qa e10 rfl) rfl) rfl) (qb (qa (qa (qa (qa e11 rfl) rfl) rfl) rfl) ?_))))
       refine qu (fun ρ w=>asL (ρ 0) fun d_0=>asI .i64 (ρ 1) fun i_1=>asI .i64 (ρ 10) fun t10=>qc.j16 d_0 i_1 t10 Q w) ?_ ?_
       · skip
         refine qcb ?_
         obtain ⟨I,μ,hI,hr⟩:=h
         refine qlb (α:=Int × Int) (fun s ρ=>ρ 10=.int .i64 s.1∧ρ 11=.int .i64 s.2∧ρ 0=.slice d_0.a d_0.len d_0.cap∧ρ 1=.int .i64 i_1∧ρ 4=.func (.func 285) ⟨[]⟩ ⟨[]⟩) (fun s w=>I s.1 s.2 w) (fun s w=>μ s.1 s.2 w) (t10,t11) ⟨rfl,rfl,rfl,rfl,rfl⟩ hI ?_
         rintro ⟨t10,t11⟩ ρ w ⟨e10,e11,e0,e1,e4⟩ hI
         have h:=hr t10 t11 w hI
         clear hr
         obtain ⟨nx5,hnx⟩:∃ nx:Sl→Int→Int→Int→World→Prop,nx=(fun d_0' i_1' t10' t11' w'=>(d_0'=d_0∧i_1'=i_1)∧I t10' t11' w'∧μ t10' t11' w' < μ t10 t11 w):=⟨_,rfl⟩
         rw [← hnx] at h
         refine qsb (M:=fun ρ w=>asL (ρ 0) fun d_0=>asI .i64 (ρ 1) fun i_1=>qsj 285 (ρ 4) <| asI .i64 (ρ 10) fun t10=>asI .i64 (ρ 11) fun t11=>nx5 d_0 i_1 t10 t11 w) ?_ (fun ρ w h=>?_)
         · skip
           refine qb e0 (qb (qa e1 rfl) (qb (qa (qa e4 rfl) rfl) (qb (qa (qa (qa e10 rfl) rfl) rfl) (qb (qa (qa (qa (qa e11 rfl) rfl) rfl) rfl) ?_))))
           exact qg qpb _ (Eq.mp (by kernel_rfl) h)
         · skip
           obtain ⟨d_0',e0',h⟩:=ql h
           obtain ⟨i_1',e1',h⟩:=qd h
           obtain ⟨e4',h⟩:=qmd h
           obtain ⟨t10',e10',h⟩:=qd h
           obtain ⟨t11',e11',h⟩:=qd h
           rw [hnx] at h
           obtain ⟨hu,hI2,hμ⟩:=h
           obtain ⟨rfl,rfl⟩:=hu
           exact ⟨(t10',t11'),⟨e10',e11',e0',e1',e4'⟩,hI2,hμ⟩
       · intro ρ w h
         obtain ⟨d_0,e0,h⟩:=ql h
         obtain ⟨i_1,e1,h⟩:=qd h
         obtain ⟨t10,e10,h⟩:=qd h
         refine qb e0 (qb (qa e1 rfl) (qb (qa (qa e10 rfl) rfl) ?_))
         refine qu (fun ρ w=> qc.j17  Q w) ?_ ?_
         · skip
           refine qu (fun ρ w=>asL (ρ 0) fun d_0=>asI .i64 (ρ 10) fun t10=>asI .i64 (ρ 13) fun t13=>qc.j18 d_0 t10 t13 Q w) ?_ ?_
           · skip
             exact qg qpb _ (Eq.mp (by kernel_rfl) h)
           · intro ρ w h
             obtain ⟨d_0,e0,h⟩:=ql h
             obtain ⟨t10,e10,h⟩:=qd h
             obtain ⟨t13,e13,h⟩:=qd h
             refine qb e0 (qb (qa e10 rfl) (qb (qa (qa e13 rfl) rfl) ?_))
             refine qcb ?_
             obtain ⟨I,μ,hI,hr⟩:=h
             refine qlb (α:=Int) (fun s ρ=>ρ 13=.int .i64 s∧ρ 0=.slice d_0.a d_0.len d_0.cap∧ρ 10=.int .i64 t10) (fun s w=>I s w) (fun s w=>μ s w) t13 ⟨rfl,rfl,rfl⟩ hI ?_
             rintro t13 ρ w ⟨e13,e0,e10⟩ hI
             have h:=hr t13 w hI
             clear hr
             obtain ⟨nx4,hnx⟩:∃ nx:Sl→Int→Int→World→Prop,nx=(fun d_0' t10' t13' w'=>(d_0'=d_0∧t10'=t10)∧I t13' w'∧μ t13' w' < μ t13 w):=⟨_,rfl⟩
             rw [← hnx] at h
             refine qsb (M:=fun ρ w=>asL (ρ 0) fun d_0=>asI .i64 (ρ 10) fun t10=>asI .i64 (ρ 13) fun t13=>nx4 d_0 t10 t13 w) ?_ (fun ρ w h=>?_)
             · skip
               refine qb e0 (qb (qa e10 rfl) (qb (qa (qa e13 rfl) rfl) ?_))
               exact qg qpb _ (Eq.mp (by kernel_rfl) h)
             · skip
               obtain ⟨d_0',e0',h⟩:=ql h
               obtain ⟨t10',e10',h⟩:=qd h
               obtain ⟨t13',e13',h⟩:=qd h
               rw [hnx] at h
               obtain ⟨hu,hI2,hμ⟩:=h
               obtain ⟨rfl,rfl⟩:=hu
               exact ⟨t13',⟨e13',e0',e10'⟩,hI2,hμ⟩
         · intro ρ w h
           exact qg qpb _ (Eq.mp (by kernel_rfl) h)
     · have h:=br_f h hb
       exact qg qpb _ (Eq.mp (by kernel_rfl) h)
 · intro ρ w h
   obtain ⟨d_0,e0,h⟩:=ql h
   obtain ⟨i_1,e1,h⟩:=qd h
   obtain ⟨t2,e2,h⟩:=qd h
   obtain ⟨t3,e3,h⟩:=qd h
   obtain ⟨e4,h⟩:=qmd h
   refine qb e0 (qb (qa e1 rfl) (qb (qa (qa e2 rfl) rfl) (qb (qa (qa (qa e3 rfl) rfl) rfl) (qb (qa (qa (qa (qa e4 rfl) rfl) rfl) rfl) ?_))))
   refine qu (fun ρ w=>asL (ρ 0) fun d_0=>asI .i64 (ρ 1) fun i_1=>asI .i64 (ρ 2) fun t2=>asI .i64 (ρ 3) fun t3=>qsj 285 (ρ 4) <| qc.j2 d_0 i_1 t2 t3 Q w) ?_ ?_
   · skip
     refine qu (fun ρ w=>asL (ρ 0) fun d_0=>asI .i64 (ρ 1) fun i_1=>asI .i64 (ρ 2) fun t2=>asI .i64 (ρ 3) fun t3=>qsj 285 (ρ 4) <| asB (ρ 80) fun t80=>qc.j9 d_0 i_1 t2 t3 t80 Q w) ?_ ?_
     · skip
       exact qg qpb _ (Eq.mp (by kernel_rfl) h)
     · intro ρ w h
       obtain ⟨d_0,e0,h⟩:=ql h
       obtain ⟨i_1,e1,h⟩:=qd h
       obtain ⟨t2,e2,h⟩:=qd h
       obtain ⟨t3,e3,h⟩:=qd h
       obtain ⟨e4,h⟩:=qmd h
       obtain ⟨t80,e80,h⟩:=qcd h
       refine qb e0 (qb (qa e1 rfl) (qb (qa (qa e2 rfl) rfl) (qb (qa (qa (qa e3 rfl) rfl) rfl) (qb (qa (qa (qa (qa e4 rfl) rfl) rfl) rfl) (qb (qa (qa (qa (qa (qa e80 rfl) rfl) rfl) rfl) rfl) ?_)))))
       refine qul (b:=t80) rfl (fun hb=>?_) (fun hb=>?_)
       · have h:=br_t h hb
         refine qfb qpb (fun ρ w=>asL (ρ 0) fun d_0=>asI .i64 (ρ 2) fun t2=>qsj 285 (ρ 4) <| asI .i64 (ρ 14) fun t14=>asI .i64 (ρ 15) fun t15=>qc.j10 d_0 t2 t14 t15 Q w) (Eq.mp (by kernel_rfl) h) ?_
         intro ρ w h
         obtain ⟨d_0,e0,h⟩:=ql h
         obtain ⟨t2,e2,h⟩:=qd h
         obtain ⟨e4,h⟩:=qmd h
         obtain ⟨t14,e14,h⟩:=qd h
         obtain ⟨t15,e15,h⟩:=qd h
         refine qb e0 (qb (qa e2 rfl) (qb (qa (qa e4 rfl) rfl) (qb (qa (qa (qa e14 rfl) rfl) rfl) (qb (qa (qa (qa (qa e15 rfl) rfl) rfl) rfl) ?_))))
         refine qu (fun ρ w=>asL (ρ 0) fun d_0=>asI .i64 (ρ 2) fun t2=>asI .i64 (ρ 14) fun t14=>qc.j11 d_0 t2 t14 Q w) ?_ ?_
         · skip
           refine qcb ?_
           obtain ⟨I,μ,hI,hr⟩:=h
           refine qlb (α:=Int × Int) (fun s ρ=>ρ 14=.int .i64 s.1∧ρ 15=.int .i64 s.2∧ρ 0=.slice d_0.a d_0.len d_0.cap∧ρ 2=.int .i64 t2∧ρ 4=.func (.func 285) ⟨[]⟩ ⟨[]⟩) (fun s w=>I s.1 s.2 w) (fun s w=>μ s.1 s.2 w) (t14,t15) ⟨rfl,rfl,rfl,rfl,rfl⟩ hI ?_
           rintro ⟨t14,t15⟩ ρ w ⟨e14,e15,e0,e2,e4⟩ hI
           have h:=hr t14 t15 w hI
           clear hr
           obtain ⟨nx3,hnx⟩:∃ nx:Sl→Int→Int→Int→World→Prop,nx=(fun d_0' t2' t14' t15' w'=>(d_0'=d_0∧t2'=t2)∧I t14' t15' w'∧μ t14' t15' w' < μ t14 t15 w):=⟨_,rfl⟩
           rw [← hnx] at h
           refine qsb (M:=fun ρ w=>asL (ρ 0) fun d_0=>asI .i64 (ρ 2) fun t2=>qsj 285 (ρ 4) <| asI .i64 (ρ 14) fun t14=>asI .i64 (ρ 15) fun t15=>nx3 d_0 t2 t14 t15 w) ?_ (fun ρ w h=>?_)
           · skip
             refine qb e0 (qb (qa e2 rfl) (qb (qa (qa e4 rfl) rfl) (qb (qa (qa (qa e14 rfl) rfl) rfl) (qb (qa (qa (qa (qa e15 rfl) rfl) rfl) rfl) ?_))))
             exact qg qpb _ (Eq.mp (by kernel_rfl) h)
           · skip
             obtain ⟨d_0',e0',h⟩:=ql h
             obtain ⟨t2',e2',h⟩:=qd h
             obtain ⟨e4',h⟩:=qmd h
             obtain ⟨t14',e14',h⟩:=qd h
             obtain ⟨t15',e15',h⟩:=qd h
             rw [hnx] at h
             obtain ⟨hu,hI2,hμ⟩:=h
             obtain ⟨rfl,rfl⟩:=hu
             exact ⟨(t14',t15'),⟨e14',e15',e0',e2',e4'⟩,hI2,hμ⟩
         · intro ρ w h
           obtain ⟨d_0,e0,h⟩:=ql h
           obtain ⟨t2,e2,h⟩:=qd h
           obtain ⟨t14,e14,h⟩:=qd h
           refine qb e0 (qb (qa e2 rfl) (qb (qa (qa e14 rfl) rfl) ?_))
           refine qu (fun ρ w=> qc.j12  Q w) ?_ ?_
           · skip
             refine qu (fun ρ w=>asL (ρ 0) fun d_0=>asI .i64 (ρ 14) fun t14=>asI .i64 (ρ 17) fun t17=>qc.j13 d_0 t14 t17 Q w) ?_ ?_
             · skip
               exact qg qpb _ (Eq.mp (by kernel_rfl) h)
             · intro ρ w h
               obtain ⟨d_0,e0,h⟩:=ql h
               obtain ⟨t14,e14,h⟩:=qd h
               obtain ⟨t17,e17,h⟩:=qd h
               refine qb e0 (qb (qa e14 rfl) (qb (qa (qa e17 rfl) rfl) ?_))
               refine qcb ?_
               obtain ⟨I,μ,hI,hr⟩:=h
               refine qlb (α:=Int) (fun s ρ=>ρ 17=.int .i64 s∧ρ 0=.slice d_0.a d_0.len d_0.cap∧ρ 14=.int .i64 t14) (fun s w=>I s w) (fun s w=>μ s w) t17 ⟨rfl,rfl,rfl⟩ hI ?_
               rintro t17 ρ w ⟨e17,e0,e14⟩ hI
               have h:=hr t17 w hI
               clear hr
               obtain ⟨nx2,hnx⟩:∃ nx:Sl→Int→Int→World→Prop,nx=(fun d_0' t14' t17' w'=>(d_0'=d_0∧t14'=t14)∧I t17' w'∧μ t17' w' < μ t17 w):=⟨_,rfl⟩
               rw [← hnx] at h
               refine qsb (M:=fun ρ w=>asL (ρ 0) fun d_0=>asI .i64 (ρ 14) fun t14=>asI .i64 (ρ 17) fun t17=>nx2 d_0 t14 t17 w) ?_ (fun ρ w h=>?_)
               · skip
                 refine qb e0 (qb (qa e14 rfl) (qb (qa (qa e17 rfl) rfl) ?_))
                 exact qg qpb _ (Eq.mp (by kernel_rfl) h)
               · skip
                 obtain ⟨d_0',e0',h⟩:=ql h
                 obtain ⟨t14',e14',h⟩:=qd h
                 obtain ⟨t17',e17',h⟩:=qd h
                 rw [hnx] at h
                 obtain ⟨hu,hI2,hμ⟩:=h
                 obtain ⟨rfl,rfl⟩:=hu
                 exact ⟨t17',⟨e17',e0',e14'⟩,hI2,hμ⟩
           · intro ρ w h
             exact qg qpb _ (Eq.mp (by kernel_rfl) h)
       · have h:=br_f h hb
         exact qg qpb _ (Eq.mp (by kernel_rfl) h)
   · intro ρ w h
     obtain ⟨d_0,e0,h⟩:=ql h
     obtain ⟨i_1,e1,h⟩:=qd h
     obtain ⟨t2,e2,h⟩:=qd h
     obtain ⟨t3,e3,h⟩:=qd h
     obtain ⟨e4,h⟩:=qmd h
     refine qb e0 (qb (qa e1 rfl) (qb (qa (qa e2 rfl) rfl) (qb (qa (qa (qa e3 rfl) rfl) rfl) (qb (qa (qa (qa (qa e4 rfl) rfl) rfl) rfl) ?_))))
     refine qfb qpb (fun ρ w=>asL (ρ 0) fun d_0=>asI .i64 (ρ 1) fun i_1=>asI .i64 (ρ 2) fun t2=>asI .i64 (ρ 3) fun t3=>qsj 285 (ρ 4) <| asI .i64 (ρ 18) fun t18=>asI .i64 (ρ 19) fun t19=>qc.j3 d_0 i_1 t2 t3 t18 t19 Q w) (Eq.mp (by kernel_rfl) h) ?_
     intro ρ w h
     obtain ⟨d_0,e0,h⟩:=ql h
     obtain ⟨i_1,e1,h⟩:=qd h
     obtain ⟨t2,e2,h⟩:=qd h
     obtain ⟨t3,e3,h⟩:=qd h
     obtain ⟨e4,h⟩:=qmd h
     obtain ⟨t18,e18,h⟩:=qd h
     obtain ⟨t19,e19,h⟩:=qd h
     refine qb e0 (qb (qa e1 rfl) (qb (qa (qa e2 rfl) rfl) (qb (qa (qa (qa e3 rfl) rfl) rfl) (qb (qa (qa (qa (qa e4 rfl) rfl) rfl) rfl) (qb (qa (qa (qa (qa (qa e18 rfl) rfl) rfl) rfl) rfl) (qb (qa (qa (qa (qa (qa (qa e19 rfl) rfl) rfl) rfl) rfl) rfl) ?_))))))
     refine qfb qpb (fun ρ w=>asL (ρ 0) fun d_0=>asI .i64 (ρ 1) fun i_1=>asI .i64 (ρ 2) fun t2=>asI .i64 (ρ 3) fun t3=>qsj 285 (ρ 4) <| asI .i64 (ρ 18) fun t18=>asI .i64 (ρ 19) fun t19=>asI .i64 (ρ 20) fun t20=>asI .i64 (ρ 21) fun t21=>qc.j4 d_0 i_1 t2 t3 t18 t19 t20 t21 Q w) (Eq.mp (by kernel_rfl) h) ?_
     intro ρ w h
     obtain ⟨d_0,e0,h⟩:=ql h
     obtain ⟨i_1,e1,h⟩:=qd h
     obtain ⟨t2,e2,h⟩:=qd h
     obtain ⟨t3,e3,h⟩:=qd h
     obtain ⟨e4,h⟩:=qmd h
     obtain ⟨t18,e18,h⟩:=qd h
     obtain ⟨t19,e19,h⟩:=qd h
     obtain ⟨t20,e20,h⟩:=qd h
     obtain ⟨t21,e21,h⟩:=qd h
     refine qb e0 (qb (qa e1 rfl) (qb (qa (qa e2 rfl) rfl) (qb (qa (qa (qa e3 rfl) rfl) rfl) (qb (qa (qa (qa (qa e4 rfl) rfl) rfl) rfl) (qb (qa (qa (qa (qa (qa e18 rfl) rfl) rfl) rfl) rfl) (qb (qa (qa (qa (qa (qa (qa e19 rfl) rfl) rfl) rfl) rfl) rfl) (qb (qa (qa (qa (qa (qa (qa (qa e20 rfl) rfl) rfl) rfl) rfl) rfl) rfl) (qb (qa (qa (qa (qa (qa (qa (qa (qa e21 rfl) rfl) rfl) rfl) rfl) rfl) rfl) rfl) ?_))))))))
     refine qu (fun ρ w=>asL (ρ 0) fun d_0=>asI .i64 (ρ 1) fun i_1=>asI .i64 (ρ 2) fun t2=>asI .i64 (ρ 3) fun t3=>qsj 285 (ρ 4) <| asI .i64 (ρ 18) fun t18=>asI .i64 (ρ 19) fun t19=>asI .i64 (ρ 20) fun t20=>asI .i64 (ρ 21) fun t21=>asI .i64 (ρ 22) fun t22=>qc.j5 d_0 i_1 t2 t3 t18 t19 t20 t21 t22 Q w) ?_ ?_
     · skip
       exact qg qpb _ (Eq.mp (by kernel_rfl) h)
     · intro ρ w h
       obtain ⟨d_0,e0,h⟩:=ql h
       obtain ⟨i_1,e1,h⟩:=qd h
       obtain ⟨t2,e2,h⟩:=qd h
       obtain ⟨t3,e3,h⟩:=qd h
       obtain ⟨e4,h⟩:=qmd h
       obtain ⟨t18,e18,h⟩:=qd h
       obtain ⟨t19,e19,h⟩:=qd h
       obtain ⟨t20,e20,h⟩:=qd h
       obtain ⟨t21,e21,h⟩:=qd h
       obtain ⟨t22,e22,h⟩:=qd h
       refine qb e0 (qb (qa e1 rfl) (qb (qa (qa e2 rfl) rfl) (qb (qa (qa (qa e3 rfl) rfl) rfl) (qb (qa (qa (qa (qa e4 rfl) rfl) rfl) rfl) (qb (qa (qa (qa (qa (qa e18 rfl) rfl) rfl) rfl) rfl) (qb (qa (qa (qa (qa (qa (qa e19 rfl) rfl) rfl) rfl) rfl) rfl) (qb (qa (qa (qa (qa (qa (qa (qa e20 rfl) rfl) rfl) rfl) rfl) rfl) rfl) (qb (qa (qa (qa (qa (qa (qa (qa (qa e21 rfl) rfl) rfl) rfl) rfl) rfl) rfl) rfl) (qb (qa (qa (qa (qa (qa (qa (qa (qa (qa e22 rfl) rfl) rfl) rfl) rfl) rfl) rfl) rfl) rfl) ?_)))))))))
       refine qu (fun ρ w=>asL (ρ 0) fun d_0=>asI .i64 (ρ 1) fun i_1=>asI .i64 (ρ 2) fun t2=>asI .i64 (ρ 3) fun t3=>qsj 285 (ρ 4) <| asI .i64 (ρ 18) fun t18=>asI .i64 (ρ 19) fun t19=>asI .i64 (ρ 20) fun t20=>qc.j6 d_0 i_1 t2 t3 t18 t19 t20 Q w) ?_ ?_
       · skip
         refine qcb ?_
         obtain ⟨I,μ,hI,hr⟩:=h
         refine qlb (α:=Int × Int) (fun s ρ=>ρ 20=.int .i64 s.1∧ρ 21=.int .i64 s.2∧ρ 0=.slice d_0.a d_0.len d_0.cap∧ρ 1=.int .i64 i_1∧ρ 2=.int .i64 t2∧ρ 3=.int .i64 t3∧ρ 4=.func (.func 285) ⟨[]⟩ ⟨[]⟩∧ρ 18=.int .i64 t18∧ρ 19=.int .i64 t19∧ρ 22=.int .i64 t22) (fun s w=>I s.1 s.2 w) (fun s w=>μ s.1 s.2 w) (t20,t21) ⟨rfl,rfl,rfl,rfl,rfl,rfl,rfl,rfl,rfl,rfl⟩ hI ?_
         rintro ⟨t20,t21⟩ ρ w ⟨e20,e21,e0,e1,e2,e3,e4,e18,e19,e22⟩ hI
         have h:=hr t20 t21 w hI
         clear hr
         obtain ⟨nx1,hnx⟩:∃ nx:Sl→Int→Int→Int→Int→Int→Int→Int→Int→World→Prop,nx=(fun d_0' i_1' t2' t3' t18' t19' t22' t20' t21' w'=>(d_0'=d_0∧i_1'=i_1∧t2'=t2∧t3'=t3∧t18'=t18∧t19'=t19∧t22'=t22)∧I t20' t21' w'∧μ t20' t21' w' < μ t20 t21 w):=⟨_,rfl⟩
         rw [← hnx] at h
         refine qsb (M:=fun ρ w=>asL (ρ 0) fun d_0=>asI .i64 (ρ 1) fun i_1=>asI .i64 (ρ 2) fun t2=>asI .i64 (ρ 3) fun t3=>qsj 285 (ρ 4) <| asI .i64 (ρ 18) fun t18=>asI .i64 (ρ 19) fun t19=>asI .i64 (ρ 22) fun t22=>asI .i64 (ρ 20) fun t20=>asI .i64 (ρ 21) fun t21=>nx1 d_0 i_1 t2 t3 t18 t19 t22 t20 t21 w) ?_ (fun ρ w h=>?_)
         · skip
           refine qb e0 (qb (qa e1 rfl) (qb (qa (qa e2 rfl) rfl) (qb (qa (qa (qa e3 rfl) rfl) rfl) (qb (qa (qa (qa (qa e4 rfl) rfl) rfl) rfl) (qb (qa (qa (qa (qa (qa e18 rfl) rfl) rfl) rfl) rfl) (qb (qa (qa (qa (qa (qa (qa e19 rfl) rfl) rfl) rfl) rfl) rfl) (qb (qa (qa (qa (qa (qa (qa (qa e20 rfl) rfl) rfl) rfl) rfl) rfl) rfl) (qb (qa (qa (qa (qa (qa (qa (qa (qa e21 rfl) rfl) rfl) rfl) rfl) rfl) rfl) rfl) (qb (qa (qa (qa (qa (qa (qa (qa (qa (qa e22 rfl) rfl) rfl) rfl) rfl) rfl) rfl) rfl) rfl) ?_)))))))))
           exact qg qpb _ (Eq.mp (by kernel_rfl) h)
         · skip
           obtain ⟨d_0',e0',h⟩:=ql h
           obtain ⟨i_1',e1',h⟩:=qd h
           obtain ⟨t2',e2',h⟩:=qd h
           obtain ⟨t3',e3',h⟩:=qd h
           obtain ⟨e4',h⟩:=qmd h
           obtain ⟨t18',e18',h⟩:=qd h
           obtain ⟨t19',e19',h⟩:=qd h
           obtain ⟨t22',e22',h⟩:=qd h
           obtain ⟨t20',e20',h⟩:=qd h
           obtain ⟨t21',e21',h⟩:=qd h
           rw [hnx] at h
           obtain ⟨hu,hI2,hμ⟩:=h
           obtain ⟨rfl,rfl,rfl,rfl,rfl,rfl,rfl⟩:=hu
           exact ⟨(t20',t21'),⟨e20',e21',e0',e1',e2',e3',e4',e18',e19',e22'⟩,hI2,hμ⟩
       · intro ρ w h
         obtain ⟨d_0,e0,h⟩:=ql h
         obtain ⟨i_1,e1,h⟩:=qd h
         obtain ⟨t2,e2,h⟩:=qd h
         obtain ⟨t3,e3,h⟩:=qd h
         obtain ⟨e4,h⟩:=qmd h
         obtain ⟨t18,e18,h⟩:=qd h
         obtain ⟨t19,e19,h⟩:=qd h
         obtain ⟨t20,e20,h⟩:=qd h
         refine qb e0 (qb (qa e1 rfl) (qb (qa (qa e2 rfl) rfl) (qb (qa (qa (qa e3 rfl) rfl) rfl) (qb (qa (qa (qa (qa e4 rfl) rfl) rfl) rfl) (qb (qa (qa (qa (qa (qa e18 rfl) rfl) rfl) rfl) rfl) (qb (qa (qa (qa (qa (qa (qa e19 rfl) rfl) rfl) rfl) rfl) rfl) (qb (qa (qa (qa (qa (qa (qa (qa e20 rfl) rfl) rfl) rfl) rfl) rfl) rfl) ?_)))))))
         refine qfb qpb (fun ρ w=>asL (ρ 0) fun d_0=>asI .i64 (ρ 1) fun i_1=>asI .i64 (ρ 3) fun t3=>qsj 285 (ρ 4) <| asI .i64 (ρ 18) fun t18=>asI .i64 (ρ 20) fun t20=>asI .i64 (ρ 24) fun t24=>qc.j7 d_0 i_1 t3 t18 t20 t24 Q w) (Eq.mp (by kernel_rfl) h) ?_
         intro ρ w h
         obtain ⟨d_0,e0,h⟩:=ql h
         obtain ⟨i_1,e1,h⟩:=qd h
         obtain ⟨t3,e3,h⟩:=qd h
         obtain ⟨e4,h⟩:=qmd h
         obtain ⟨t18,e18,h⟩:=qd h
         obtain ⟨t20,e20,h⟩:=qd h
         obtain ⟨t24,e24,h⟩:=qd h
         refine qb e0 (qb (qa e1 rfl) (qb (qa (qa e3 rfl) rfl) (qb (qa (qa (qa e4 rfl) rfl) rfl) (qb (qa (qa (qa (qa e18 rfl) rfl) rfl) rfl) (qb (qa (qa (qa (qa (qa e20 rfl) rfl) rfl) rfl) rfl) (qb (qa (qa (qa (qa (qa (qa e24 rfl) rfl) rfl) rfl) rfl) rfl) ?_))))))
         refine qu (fun ρ w=>asL (ρ 0) fun d_0=>asI .i64 (ρ 3) fun t3=>qsj 285 (ρ 4) <| asI .i64 (ρ 18) fun t18=>asI .i64 (ρ 24) fun t24=>qc.j8 d_0 t3 t18 t24 Q w) ?_ ?_
         · skip
           exact qg qpb _ (Eq.mp (by kernel_rfl) h)
         · intro ρ w h
           obtain ⟨d_0,e0,h⟩:=ql h
           obtain ⟨t3,e3,h⟩:=qd h
           obtain ⟨e4,h⟩:=qmd h
           obtain ⟨t18,e18,h⟩:=qd h
           obtain ⟨t24,e24,h⟩:=qd h
           refine qb e0 (qb (qa e3 rfl) (qb (qa (qa e4 rfl) rfl) (qb (qa (qa (qa e18 rfl) rfl) rfl) (qb (qa (qa (qa (qa e24 rfl) rfl) rfl) rfl) ?_))))
           exact qg qpb _ (Eq.mp (by kernel_rfl) h)
def qj.j6 (data_0:Sl) (n_1:Int) (blockSize_6 a_7:Int) (Q:VWP) (nx1:Sl→Int→Int→World→Prop) (w:World):Prop :=
 lt (IntKind.i64.wrap (a_7+blockSize_6)) fun x1 =>
 br (decide ((x1:Int) < n_1)) (
 Calls Tryz.prog 344 ⟨[.slice data_0.a data_0.len data_0.cap,.int .i64 a_7,.int .i64 x1,.int .i64 n_1,.func (.func 285) ⟨[]⟩ ⟨[]⟩]⟩ w fun e2 w3 =>
 e2=.returned (.tuple ⟨[]⟩) ∧
 lt (IntKind.i64.wrap (blockSize_6 * 2)) fun x4 =>
 nx1 data_0 n_1 x4 w3) (
 lt (IntKind.i64.wrap (blockSize_6 * 2)) fun x5 =>
 nx1 data_0 n_1 x5 w)
def qj.b2 (data_0:Sl) (n_1:Int) (blockSize_6 a_7 b_8:Int) (Q:VWP) (nx1:Sl→Int→Int→World→Prop) (nx2:Sl→Int→Int→Int→Int→World→Prop) (w:World):Prop :=
 br (decide ((b_8:Int)≤n_1)) (
 lt (IntKind.i64.wrap (a_7+blockSize_6)) fun x6 =>
 Calls Tryz.prog 344 ⟨[.slice data_0.a data_0.len data_0.cap,.int .i64 a_7,.int .i64 x6,.int .i64 b_8,.func (.func 285) ⟨[]⟩ ⟨[]⟩]⟩ w fun e7 w8 =>
 e7=.returned (.tuple ⟨[]⟩) ∧
 lt (IntKind.i64.wrap (2 * blockSize_6)) fun x9 =>
 lt (IntKind.i64.wrap (b_8+x9)) fun x10 =>
 nx2 data_0 n_1 blockSize_6 b_8 x10 w8) (
 qj.j6 data_0 n_1 blockSize_6 a_7 Q nx1 w)
def qj.l2 (data_0:Sl) (n_1:Int) (blockSize_6 a_7 b_8:Int) (Q:VWP) (nx1:Sl→Int→Int→World→Prop) (w:World):Prop :=
 ∃ (I:Int→Int→World→Prop) (μ:Int→Int→World→Nat),I a_7 b_8 w∧∀ a_7:Int,∀ b_8:Int,∀ w:World,I a_7 b_8 w→qj.b2 data_0 n_1 blockSize_6 a_7 b_8 Q nx1 (fun data_0' n_1' blockSize_6' a_7' b_8' w'=>(data_0'=data_0∧n_1'=n_1∧blockSize_6'=blockSize_6)∧I a_7' b_8' w'∧μ a_7' b_8' w' < μ a_7 b_8 w) w
def qj.j5 (data_0:Sl) (n_1:Int) (blockSize_6 a_7 b_8:Int) (Q:VWP) (nx1:Sl→Int→Int→World→Prop) (w:World):Prop :=
 qj.l2 data_0 n_1 blockSize_6 a_7 b_8 Q nx1 w
def qj.j4 (data_0:Sl) (n_1:Int) (blockSize_6:Int) (Q:VWP) (nx1:Sl→Int→Int→World→Prop) (w:World):Prop :=
 lt (IntKind.i64.wrap (2 * blockSize_6)) fun x11 =>
 qj.j5 data_0 n_1 blockSize_6 0 x11 Q nx1 w
def qj.b1 (data_0:Sl) (n_1:Int) (blockSize_6:Int) (Q:VWP) (nx1:Sl→Int→Int→World→Prop) (w:World):Prop :=
 br (decide ((blockSize_6:Int) < n_1)) (
 qj.j4 data_0 n_1 blockSize_6 Q nx1 w) (
 Q (.tuple ⟨[]⟩) w)
def qj.l1 (data_0:Sl) (n_1:Int) (blockSize_6:Int) (Q:VWP) (w:World):Prop :=
 ∃ (I:Int→World→Prop) (μ:Int→World→Nat),I blockSize_6 w∧∀ blockSize_6:Int,∀ w:World,I blockSize_6 w→qj.b1 data_0 n_1 blockSize_6 Q (fun data_0' n_1' blockSize_6' w'=>(data_0'=data_0∧n_1'=n_1)∧I blockSize_6' w'∧μ blockSize_6' w' < μ blockSize_6 w) w
def qj.j3 (data_0:Sl) (n_1:Int) (blockSize_6:Int) (Q:VWP) (w:World):Prop :=
 qj.l1 data_0 n_1 blockSize_6 Q w
def qj.j2 (data_0:Sl) (n_1:Int) (blockSize_6 a_7:Int) (Q:VWP) (w:World):Prop :=
 Calls Tryz.prog 343 ⟨[.slice data_0.a data_0.len data_0.cap,.int .i64 a_7,.int .i64 n_1,.func (.func 285) ⟨[]⟩ ⟨[]⟩]⟩ w fun e12 w13 =>
 e12=.returned (.tuple ⟨[]⟩) ∧
 qj.j3 data_0 n_1 blockSize_6 Q w13
def qj.b3 (data_0:Sl) (n_1:Int) (blockSize_6 a_7 b_8:Int) (Q:VWP) (nx3:Sl→Int→Int→Int→Int→World→Prop) (w:World):Prop :=
 br (decide ((b_8:Int)≤n_1)) (
 Calls Tryz.prog 343 ⟨[.slice data_0.a data_0.len data_0.cap,.int .i64 a_7,.int .i64 b_8,.func (.func 285) ⟨[]⟩ ⟨[]⟩]⟩ w fun e14 w15 =>
 e14=.returned (.tuple ⟨[]⟩) ∧
 lt (IntKind.i64.wrap (b_8+blockSize_6)) fun x16 =>
 nx3 data_0 n_1 blockSize_6 b_8 x16 w15) (
 qj.j2 data_0 n_1 blockSize_6 a_7 Q w)
def qj.l3 (data_0:Sl) (n_1:Int) (blockSize_6 a_7 b_8:Int) (Q:VWP) (w:World):Prop :=
 ∃ (I:Int→Int→World→Prop) (μ:Int→Int→World→Nat),I a_7 b_8 w∧∀ a_7:Int,∀ b_8:Int,∀ w:World,I a_7 b_8 w→qj.b3 data_0 n_1 blockSize_6 a_7 b_8 Q (fun data_0' n_1' blockSize_6' a_7' b_8' w'=>(data_0'=data_0∧n_1'=n_1∧blockSize_6'=blockSize_6)∧I a_7' b_8' w'∧μ a_7' b_8' w' < μ a_7 b_8 w) w
def qj.j1 (data_0:Sl) (n_1:Int) (blockSize_6 a_7 b_8:Int) (Q:VWP) (w:World):Prop :=
 qj.l3 data_0 n_1 blockSize_6 a_7 b_8 Q w
def qj (data_0:Sl) (n_1:Int) (Q:VWP) (w:World):Prop :=
 qj.j1 data_0 n_1 20 0 20 Q w
theorem qj.ok (data_0:Sl) (n_1:Int) (Q:VWP) (w:World) (h:qj data_0 n_1 Q w):Calls Tryz.prog 323 ⟨[.slice data_0.a data_0.len data_0.cap,.int .i64 n_1,.func (.func 285) ⟨[]⟩ ⟨[]⟩]⟩ w (Ret Q):=by
 refine qp [] Tryz.func323 rfl rfl rfl rfl ?_
 refine qfb qpb (fun ρ w=>asL (ρ 0) fun data_0=>asI .i64 (ρ 1) fun n_1=>qsj 285 (ρ 2) <| asI .i64 (ρ 6) fun blockSize_6=>asI .i64 (ρ 7) fun a_7=>asI .i64 (ρ 8) fun b_8=>qj.j1 data_0 n_1 blockSize_6 a_7 b_8 Q w) (Eq.mp (by kernel_rfl) h) ?_
 intro ρ w h
 obtain ⟨data_0,e0,h⟩:=ql h
 obtain ⟨n_1,e1,h⟩:=qd h
 obtain ⟨e2,h⟩:=qmd h
 obtain ⟨blockSize_6,e6,h⟩:=qd h
 obtain ⟨a_7,e7,h⟩:=qd h
 obtain ⟨b_8,e8,h⟩:=qd h
 refine qb e0 (qb (qa e1 rfl) (qb (qa (qa e2 rfl) rfl) (qb (qa (qa (qa e6 rfl) rfl) rfl) (qb (qa (qa (qa (qa e7 rfl) rfl) rfl) rfl) (qb (qa (qa (qa (qa (qa e8 rfl) rfl) rfl) rfl) rfl) ?_)))))
 refine qu (fun ρ w=>asL (ρ 0) fun data_0=>asI .i64 (ρ 1) fun n_1=>qsj 285 (ρ 2) <| asI .i64 (ρ 6) fun blockSize_6=>asI .i64 (ρ 7) fun a_7=>qj.j2 data_0 n_1 blockSize_6 a_7 Q w) ?_ ?_
 · skip
   refine qcb ?_
   obtain ⟨I,μ,hI,hr⟩:=h
   refine qlb (α:=Int × Int) (fun s ρ=>ρ 7=.int .i64 s.1∧ρ 8=.int .i64 s.2∧ρ 0=.slice data_0.a data_0.len data_0.cap∧ρ 1=.int .i64 n_1∧ρ 2=.func (.func 285) ⟨[]⟩ ⟨[]⟩∧ρ 6=.int .i64 blockSize_6) (fun s w=>I s.1 s.2 w) (fun s w=>μ s.1 s.2 w) (a_7,b_8) ⟨rfl,rfl,rfl,rfl,rfl,rfl⟩ hI ?_
   rintro ⟨a_7,b_8⟩ ρ w ⟨e7,e8,e0,e1,e2,e6⟩ hI
   have h:=hr a_7 b_8 w hI
   clear hr
   obtain ⟨nx3,hnx⟩:∃ nx:Sl→Int→Int→Int→Int→World→Prop,nx=(fun data_0' n_1' blockSize_6' a_7' b_8' w'=>(data_0'=data_0∧n_1'=n_1∧blockSize_6'=blockSize_6)∧I a_7' b_8' w'∧μ a_7' b_8' w' < μ a_7 b_8 w):=⟨_,rfl⟩
   rw [← hnx] at h
   refine qsb (M:=fun ρ w=>asL (ρ 0) fun data_0=>asI .i64 (ρ 1) fun n_1=>qsj 285 (ρ 2) <| asI .i64 (ρ 6) fun blockSize_6=>asI .i64 (ρ 7) fun a_7=>asI .i64 (ρ 8) fun b_8=>nx3 data_0 n_1 blockSize_6 a_7 b_8 w) ?_ (fun ρ w h=>?_)
   · skip
     refine qb e0 (qb (qa e1 rfl) (qb (qa (qa e2 rfl) rfl) (qb (qa (qa (qa e6 rfl) rfl) rfl) (qb (qa (qa (qa (qa e7 rfl) rfl) rfl) rfl) (qb (qa (qa (qa (qa (qa e8 rfl) rfl) rfl) rfl) rfl) ?_)))))
     exact qg qpb _ (Eq.mp (by kernel_rfl) h)
   · skip
     obtain ⟨data_0',e0',h⟩:=ql h
     obtain ⟨n_1',e1',h⟩:=qd h
     obtain ⟨e2',h⟩:=qmd h
     obtain ⟨blockSize_6',e6',h⟩:=qd h
     obtain ⟨a_7',e7',h⟩:=qd h
     obtain ⟨b_8',e8',h⟩:=qd h
     rw [hnx] at h
     obtain ⟨hu,hI2,hμ⟩:=h
     obtain ⟨rfl,rfl,rfl⟩:=hu
     exact ⟨(a_7',b_8'),⟨e7',e8',e0',e1',e2',e6'⟩,hI2,hμ⟩
 · intro ρ w h
   obtain ⟨data_0,e0,h⟩:=ql h
   obtain ⟨n_1,e1,h⟩:=qd h
   obtain ⟨e2,h⟩:=qmd h
   obtain ⟨blockSize_6,e6,h⟩:=qd h
   obtain ⟨a_7,e7,h⟩:=qd h
   refine qb e0 (qb (qa e1 rfl) (qb (qa (qa e2 rfl) rfl) (qb (qa (qa (qa e6 rfl) rfl) rfl) (qb (qa (qa (qa (qa e7 rfl) rfl) rfl) rfl) ?_))))
   refine qu (fun ρ w=>asL (ρ 0) fun data_0=>asI .i64 (ρ 1) fun n_1=>qsj 285 (ρ 2) <| asI .i64 (ρ 6) fun blockSize_6=>qj.j3 data_0 n_1 blockSize_6 Q w) ?_ ?_
   · skip
     exact qg qpb _ (Eq.mp (by kernel_rfl) h)
   · intro ρ w h
     obtain ⟨data_0,e0,h⟩:=ql h
     obtain ⟨n_1,e1,h⟩:=qd h
     obtain ⟨e2,h⟩:=qmd h
     obtain ⟨blockSize_6,e6,h⟩:=qd h
     refine qb e0 (qb (qa e1 rfl) (qb (qa (qa e2 rfl) rfl) (qb (qa (qa (qa e6 rfl) rfl) rfl) ?_)))
     refine qcb ?_
     obtain ⟨I,μ,hI,hr⟩:=h
     refine qlb (α:=Int) (fun s ρ=>ρ 6=.int .i64 s∧ρ 0=.slice data_0.a data_0.len data_0.cap∧ρ 1=.int .i64 n_1∧ρ 2=.func (.func 285) ⟨[]⟩ ⟨[]⟩) (fun s w=>I s w) (fun s w=>μ s w) blockSize_6 ⟨rfl,rfl,rfl,rfl⟩ hI ?_
     rintro blockSize_6 ρ w ⟨e6,e0,e1,e2⟩ hI
     have h:=hr blockSize_6 w hI
     clear hr
     obtain ⟨nx1,hnx⟩:∃ nx:Sl→Int→Int→World→Prop,nx=(fun data_0' n_1' blockSize_6' w'=>(data_0'=data_0∧n_1'=n_1)∧I blockSize_6' w'∧μ blockSize_6' w' < μ blockSize_6 w):=⟨_,rfl⟩
     rw [← hnx] at h
     refine qsb (M:=fun ρ w=>asL (ρ 0) fun data_0=>asI .i64 (ρ 1) fun n_1=>qsj 285 (ρ 2) <| asI .i64 (ρ 6) fun blockSize_6=>nx1 data_0 n_1 blockSize_6 w) ?_ (fun ρ w h=>?_)
     · skip
       refine qb e0 (qb (qa e1 rfl) (qb (qa (qa e2 rfl) rfl) (qb (qa (qa (qa e6 rfl) rfl) rfl) ?_)))
       refine qu (fun ρ w=>asL (ρ 0) fun data_0=>asI .i64 (ρ 1) fun n_1=>qsj 285 (ρ 2) <| asI .i64 (ρ 6) fun blockSize_6=>qj.j4 data_0 n_1 blockSize_6 Q nx1 w) ?_ ?_
       · skip
         exact qg qpb _ (Eq.mp (by kernel_rfl) h)
       · intro ρ w h
         obtain ⟨data_0,e0,h⟩:=ql h
         obtain ⟨n_1,e1,h⟩:=qd h
         obtain ⟨e2,h⟩:=qmd h
         obtain ⟨blockSize_6,e6,h⟩:=qd h
         refine qb e0 (qb (qa e1 rfl) (qb (qa (qa e2 rfl) rfl) (qb (qa (qa (qa e6 rfl) rfl) rfl) ?_)))
         refine qcb ?_
         refine qu (fun ρ w=>asL (ρ 0) fun data_0=>asI .i64 (ρ 1) fun n_1=>qsj 285 (ρ 2) <| asI .i64 (ρ 6) fun blockSize_6=>asI .i64 (ρ 7) fun a_7=>asI .i64 (ρ 8) fun b_8=>qj.j5 data_0 n_1 blockSize_6 a_7 b_8 Q nx1 w) ?_ ?_
         · skip
           exact qg qpb _ (Eq.mp (by kernel_rfl) h)
         · intro ρ w h
           obtain ⟨data_0,e0,h⟩:=ql h
           obtain ⟨n_1,e1,h⟩:=qd h
           obtain ⟨e2,h⟩:=qmd h
           obtain ⟨blockSize_6,e6,h⟩:=qd h
           obtain ⟨a_7,e7,h⟩:=qd h
           obtain ⟨b_8,e8,h⟩:=qd h
           refine qb e0 (qb (qa e1 rfl) (qb (qa (qa e2 rfl) rfl) (qb (qa (qa (qa e6 rfl) rfl) rfl) (qb (qa (qa (qa (qa e7 rfl) rfl) rfl) rfl) (qb (qa (qa (qa (qa (qa e8 rfl) rfl) rfl) rfl) rfl) ?_)))))
           refine qu (fun ρ w=>asL (ρ 0) fun data_0=>asI .i64 (ρ 1) fun n_1=>qsj 285 (ρ 2) <| asI .i64 (ρ 6) fun blockSize_6=>asI .i64 (ρ 7) fun a_7=>qj.j6 data_0 n_1 blockSize_6 a_7 Q nx1 w) ?_ ?_
           · skip
             refine qcb ?_
             obtain ⟨I,μ,hI,hr⟩:=h
             refine qlb (α:=Int × Int) (fun s ρ=>ρ 7=.int .i64 s.1∧ρ 8=.int .i64 s.2∧ρ 0=.slice data_0.a data_0.len data_0.cap∧ρ 1=.int .i64 n_1∧ρ 2=.func (.func 285) ⟨[]⟩ ⟨[]⟩∧ρ 6=.int .i64 blockSize_6) (fun s w=>I s.1 s.2 w) (fun s w=>μ s.1 s.2 w) (a_7,b_8) ⟨rfl,rfl,rfl,rfl,rfl,rfl⟩ hI ?_
             rintro ⟨a_7,b_8⟩ ρ w ⟨e7,e8,e0,e1,e2,e6⟩ hI
             have h:=hr a_7 b_8 w hI
             clear hr
             obtain ⟨nx2,hnx⟩:∃ nx:Sl→Int→Int→Int→Int→World→Prop,nx=(fun data_0' n_1' blockSize_6' a_7' b_8' w'=>(data_0'=data_0∧n_1'=n_1∧blockSize_6'=blockSize_6)∧I a_7' b_8' w'∧μ a_7' b_8' w' < μ a_7 b_8 w):=⟨_,rfl⟩
             rw [← hnx] at h
             refine qsb (M:=fun ρ w=>asL (ρ 0) fun data_0=>asI .i64 (ρ 1) fun n_1=>qsj 285 (ρ 2) <| asI .i64 (ρ 6) fun blockSize_6=>asI .i64 (ρ 7) fun a_7=>asI .i64 (ρ 8) fun b_8=>nx2 data_0 n_1 blockSize_6 a_7 b_8 w) ?_ (fun ρ w h=>?_)
             · skip
               refine qb e0 (qb (qa e1 rfl) (qb (qa (qa e2 rfl) rfl) (qb (qa (qa (qa e6 rfl) rfl) rfl) (qb (qa (qa (qa (qa e7 rfl) rfl) rfl) rfl) (qb (qa (qa (qa (qa (qa e8 rfl) rfl) rfl) rfl) rfl) ?_)))))
               exact qg qpb _ (Eq.mp (by kernel_rfl) h)
             · skip
               obtain ⟨data_0',e0',h⟩:=ql h
               obtain ⟨n_1',e1',h⟩:=qd h
               obtain ⟨e2',h⟩:=qmd h
               obtain ⟨blockSize_6',e6',h⟩:=qd h
               obtain ⟨a_7',e7',h⟩:=qd h
               obtain ⟨b_8',e8',h⟩:=qd h
               rw [hnx] at h
               obtain ⟨hu,hI2,hμ⟩:=h
               obtain ⟨rfl,rfl,rfl⟩:=hu
               exact ⟨(a_7',b_8'),⟨e7',e8',e0',e1',e2',e6'⟩,hI2,hμ⟩
           · intro ρ w h
             obtain ⟨data_0,e0,h⟩:=ql h
             obtain ⟨n_1,e1,h⟩:=qd h
             obtain ⟨e2,h⟩:=qmd h
             obtain ⟨blockSize_6,e6,h⟩:=qd h
             obtain ⟨a_7,e7,h⟩:=qd h
             refine qb e0 (qb (qa e1 rfl) (qb (qa (qa e2 rfl) rfl) (qb (qa (qa (qa e6 rfl) rfl) rfl) (qb (qa (qa (qa (qa e7 rfl) rfl) rfl) rfl) ?_))))
             exact qg qpb _ (Eq.mp (by kernel_rfl) h)
     · skip
       obtain ⟨data_0',e0',h⟩:=ql h
       obtain ⟨n_1',e1',h⟩:=qd h
       obtain ⟨e2',h⟩:=qmd h
       obtain ⟨blockSize_6',e6',h⟩:=qd h
       rw [hnx] at h
       obtain ⟨hu,hI2,hμ⟩:=h
       obtain ⟨rfl,rfl⟩:=hu
       exact ⟨blockSize_6',⟨e6',e0',e1',e2'⟩,hI2,hμ⟩
def qtd (x_0:Sl) (Q:VWP) (w:World):Prop :=
 Calls Tryz.prog 323 ⟨[.slice x_0.a x_0.len x_0.cap,.int .i64 ((x_0.len:Nat):Int),.func (.func 285) ⟨[]⟩ ⟨[]⟩]⟩ w fun e1 w2 =>
 e1=.returned (.tuple ⟨[]⟩) ∧
 Q (.tuple ⟨[]⟩) w2
theorem qtd.ok (x_0:Sl) (Q:VWP) (w:World) (h:qtd x_0 Q w):Calls Tryz.prog 284 ⟨[.slice x_0.a x_0.len x_0.cap,.func (.func 285) ⟨[]⟩ ⟨[]⟩]⟩ w (Ret Q):=by
 refine qp [] Tryz.func284 rfl rfl rfl rfl ?_
 exact qg qpb _ (Eq.mp (by kernel_rfl) h)
end Go.Proofs.YthdmmmfgjmmelaaGreat
namespace Go.Proofs.YthdmmmfgjmmelaaGreat
open Go Go.Proofs
set_option linter.unusedVariables false
set_option linter.unusedSimpArgs false
attribute [local irreducible] apK cpK mkK br
abbrev Pk:=Int × Sl
def pkC (x:Pk):List Value:=[.int .i64 x.1,.slice x.2.a x.2.len x.2.cap]
def pks (L:List Pk):List Value:=L.flatMap pkC
theorem qoo (x:Pk) (L:List Pk):pks (x :: L)=pkC x ++ pks L:=rfl
theorem qsn (A B:List Pk):pks (A ++ B)=pks A ++ pks B:=by simp [pks]
theorem qtg (L:List Pk):(pks L).length=L.length * 2:=by
 induction L with
 | nil=>rfl
 | cons x L ih=>rw [qoo,List.length_append,ih,List.length_cons]; simp [pkC]; omega
theorem pkC_storable (x:Pk):∀ v ∈ (⟨pkC x⟩:Array Value),storable v:=by
 intro v hv
 have hv:v ∈ pkC x:=by simpa using hv
 simp [pkC] at hv
 rcases hv with rfl | rfl <;> trivial
section
variable {F0:List Nat} {w0 w:World} {ps rest:List As} {D A B:List Pk} {x y:Pk} {s:Sl}
theorem St.lpk {i:Int} {K:Array Value→Prop} (h:St F0 w0 w ps) [Rdb F0 w0 s ps 2 (pks D)] (A:List Pk) (x:Pk) (B:List Pk) (hD:D=A ++ x :: B) (hi:i=A.length) (hk:K ⟨pkC x⟩):ixS s.a s.len i 2 fun a=>ldA w a 2 K:=by
 have hr:=h.rdb s
 have hl:=hr.1
 rw [qtg,hD,List.length_append,List.length_cons] at hl
 subst hi
 refine hr.ix (by decide) (by omega) (by omega) fun a ha=>?_
 refine ⟨⟨pkC x⟩,rfl,fun j hj=>?_,hk⟩
 rw [qvm,hr.cell ha (by rw [qtg,hD,List.length_append,List.length_cons]; omega),hD,qsn,qoo,List.getElem?_append_right (by rw [qtg]; omega),qtg,List.getElem?_append_left (by simp [pkC]; omega)]
 rw [show ((A.length:Nat):Int).toNat * 2+j - A.length * 2=j by omega]
 simp
theorem St.spk {i:Int} {K:World→Prop} (h:St F0 w0 w (qmc 2 s (pks D) :: ps)) (A:List Pk) (x:Pk) (B:List Pk) (y:Pk) (hD:D=A ++ x :: B) (hi:i=A.length) (hk:∀ w',St F0 w0 w' (qmc 2 s (pks (A ++ y :: B)) :: ps)→K w') :
 ixS s.a s.len i 2 fun a=>(⟨pkC y⟩:Array Value).size=2∧Go.Proofs.YthdmmmfgjmmelaaGreat.stA w a ⟨pkC y⟩ K:=by
 subst hi
 subst hD
 have hl:=h.len
 rw [qtg,List.length_append,List.length_cons] at hl
 obtain ⟨f,ho,hst⟩:=h.step
 rcases ho with ⟨rfl,hnil,_⟩ | ⟨ob,rs,h1,hb,h2,h3,rfl⟩
 · simp only at hl; omega
 · unfold ixS
   rw [h1]
   refine ⟨⟨by omega,by omega⟩,rfl,?_⟩
   rw [qnf,Nat.zero_add,Int.toNat_natCast]
   have e:pks (A ++ x :: B) ++ rs=pks A ++ (pkC x ++ (pks B ++ rs)):=by rw [qsn,qoo]; simp
   rw [e] at hb
   refine qop hb ?_ (pkC_storable y) fun w' hm hb'=>hk w' (hst w' [ob] _ hm (Gr.refl _ _) (Or.inr ⟨ob,rs,h1,?_,?_,?_,rfl⟩))
   · simp only [List.length_append,qtg,pkC,List.length_cons,List.length_nil]
     show A.length * 2+2≤_
     omega
   · rw [show A.length * 2=(pks A).length from (qtg A).symm,List.take_left' rfl,← List.drop_drop,List.drop_left' rfl] at hb'
     rw [show (⟨pkC y⟩:Array Value).size=(pkC x).length from rfl,List.drop_left' rfl] at hb'
     rw [qsn,qoo]
     simpa using hb'
   · rw [qtg]; simp only [List.length_append,List.length_cons]; omega
   · rw [← h3]; simp only [List.length_append,qtg,List.length_cons]
theorem cmp_isNaN.c {n:Int} {K:Ending→World→Prop} (hk:K (.returned (.bool false)) w):Calls Tryz.prog 324 ⟨[.int .i64 n]⟩ w K:=by
 refine qnc (qwi.ok _ _ _ ?_)
 unfold qwi
 rw [show (n != n)=false by simp]
 exact hk
theorem qzl.c {K:Ending→World→Prop} (h:St F0 w0 w ps) (hk:∀ (r:Int) w',(r < 0 ↔ x.1 < y.1)→St F0 w0 w' ps→K (.returned (.int .i64 r)) w'):Calls Tryz.prog 285 ⟨[.agg ⟨pkC x⟩,.agg ⟨pkC y⟩]⟩ w K:=by
 refine qnc (qzh.ok _ _ _ _ ?_)
 unfold qzh
 refine h.new fun na w h=>?_
 refine h.new fun nb w h=>?_
 have h:St F0 w0 w (qjd nb (pkC y) :: qjd na (pkC x) :: ps):=h
 refine (h.blk1).ldI (o:=0) rfl ?_
 refine (h.blk).ldI (o:=0) rfl ?_
 refine qnc (qai.ok _ _ _ _ ?_)
 unfold qai
 refine cmp_isNaN.c ⟨_,rfl,?_⟩
 refine cmp_isNaN.c ⟨_,rfl,?_⟩
 refine qik (qik ?_)
 refine qxc (fun g=>?_) (fun g=>?_)
 · exact ⟨_,rfl,hk _ w (by omega) h.drop.drop⟩
 · refine qxc (fun g2=>?_) (fun g2=>?_)
   · exact ⟨_,rfl,hk _ w (by omega) h.drop.drop⟩
   · exact ⟨_,rfl,hk _ w (by omega) h.drop.drop⟩
theorem swapRange.c {P X M Y S:List Pk} {n:Nat} {K:Ending→World→Prop} (h:St F0 w0 w (qmc 2 s (pks (P ++ X ++ M ++ Y ++ S)) :: ps)) (hX:X.length=n) (hY:Y.length=n) (hlen:(P ++ X ++ M ++ Y ++ S).length≤1000000)
 (hk:∀ w',St F0 w0 w' (qmc 2 s (pks (P ++ Y ++ M ++ X ++ S)) :: ps)→K (.returned (.tuple ⟨[]⟩)) w') :
 Calls Tryz.prog 350 ⟨[.slice s.a s.len s.cap,.int .i64 (P.length:Int),.int .i64 ((P.length+X.length+M.length:Nat):Int),.int .i64 (n:Int),.func (.func 285) ⟨[]⟩ ⟨[]⟩]⟩ w K:=by
 refine qnc (qqb.ok _ _ _ _ _ _ ?_)
 unfold qqb qqb.j1
 simp only [List.length_append] at hlen
 refine qpg (fun (i:Nat) (i':Int) w'=>i'=i∧i≤n∧St F0 w0 w' (qmc 2 s (pks (P ++ (Y.take i ++ X.drop i) ++ M ++ (X.take i ++ Y.drop i) ++ S)) :: ps)) (fun i=>n - i) 0 ⟨rfl,by omega,by simpa using h⟩ ?_
 clear h
 rintro i i' wL I μ ⟨rfl,hi,h⟩ hin
 unfold qqb.b1
 refine qxc (fun g=>?_) (fun g=>?_)
 · have hiX:i < X.length:=by omega
   have hiY:i < Y.length:=by omega
   have eX:X.drop i=X[i] :: X.drop (i+1):=List.drop_eq_getElem_cons hiX
   have eY:Y.drop i=Y[i] :: Y.drop (i+1):=List.drop_eq_getElem_cons hiY
   have l1:(Y.take i).length=i:=by rw [List.length_take]; omega
   have l2:(X.take i).length=i:=by rw [List.length_take]; omega
   have l3:(X.drop (i+1)).length=X.length - (i+1):=List.length_drop
   refine h.drewK fun w h=>?_
   refine qw (qi (by omega) (by omega)) (qw (qi (by omega) (by omega)) (qw (qi (by omega) (by omega)) ?_))
   refine h.lpk (s:=s) (P ++ (Y.take i ++ X.drop i) ++ M ++ X.take i) Y[i] (Y.drop (i+1) ++ S) (by rw [eY]; simp only [List.append_assoc,List.cons_append]) (by simp only [List.length_append,l1,l2,List.length_drop]; omega) ?_
   refine qw (qi (by omega) (by omega)) ?_
   refine h.lpk (s:=s) (P ++ Y.take i) X[i] (X.drop (i+1) ++ M ++ (X.take i ++ Y.drop i) ++ S) (by rw [eX]; simp only [List.append_assoc,List.cons_append]) (by simp only [List.length_append,l1]; omega) ?_
   refine h.spk (P ++ Y.take i) X[i] (X.drop (i+1) ++ M ++ (X.take i ++ Y.drop i) ++ S) Y[i] (by rw [eX]; simp only [List.append_assoc,List.cons_append]) (by simp only [List.length_append,l1]; omega) fun w h=>?_
   refine h.spk (P ++ Y.take i ++ Y[i] :: (X.drop (i+1) ++ M ++ X.take i)) Y[i] (Y.drop (i+1) ++ S) X[i] (by rw [eY]; simp only [List.append_assoc,List.cons_append]) (by simp only [List.length_append,List.length_cons,l1,l2,l3]; omega) fun w h=>?_
   refine qw (qi (by omega) (by omega)) ?_
   refine ⟨⟨rfl,rfl,rfl,rfl⟩,hin (i+1) _ _ ⟨by omega,by omega,?_⟩ (by omega)⟩
   rw [List.take_succ_eq_append_getElem hiY,List.take_succ_eq_append_getElem hiX]
   simp only [List.append_assoc,List.cons_append,List.nil_append] at h ⊢
   exact h
 · have:i=n:=by omega
   subst this
   rw [List.take_of_length_le (by omega),List.drop_of_length_le (by omega),List.take_of_length_le (by omega),List.drop_of_length_le (by omega),List.append_nil,List.append_nil] at h
   exact hk wL h
end
end Go.Proofs.YthdmmmfgjmmelaaGreat
namespace Go.Proofs.YthdmmmfgjmmelaaGreat
open Go Go.Proofs
set_option linter.unusedVariables false
set_option linter.unusedSimpArgs false
attribute [local irreducible] apK cpK mkK br
def wt (x:Pk):Int:=x.1
theorem insR_at {α:Type} {k:α→Int} {x:α}:∀ {T1 T2:List α},(∀ y ∈ T1,¬ k x < k y)→(∀ y ∈ T2,k x < k y)→insR k x (T1 ++ T2)=T1 ++ x :: T2:=by
 intro T1
 induction T1 with
 | nil =>
   intro T2 _ h2
   cases T2 with
   | nil=>rfl
   | cons y T2 =>
     show insR k x (y :: T2)=_
     rw [insR,if_pos (h2 y (by simp))]; rfl
 | cons y T1 ih =>
   intro T2 h1 h2
   rw [List.cons_append,insR,if_neg (h1 y (by simp)),ih (fun z hz=>h1 z (by simp [hz])) h2]; rfl
section
variable {F0:List Nat} {w0 w:World} {ps rest:List As} {s:Sl}
theorem rotate.c {P A B S:List Pk} {K:Ending→World→Prop} (h:St F0 w0 w (qmc 2 s (pks (P ++ A ++ B ++ S)) :: ps)) (hA:0 < A.length) (hB:0 < B.length) (hlen:(P ++ A ++ B ++ S).length≤1000000)
 (hk:∀ w',St F0 w0 w' (qmc 2 s (pks (P ++ B ++ A ++ S)) :: ps)→K (.returned (.tuple ⟨[]⟩)) w') :
 Calls Tryz.prog 349 ⟨[.slice s.a s.len s.cap,.int .i64 (P.length:Int),.int .i64 ((P.length+A.length:Nat):Int),.int .i64 ((P.length+A.length+B.length:Nat):Int),.func (.func 285) ⟨[]⟩ ⟨[]⟩]⟩ w K:=by
 simp only [List.length_append] at hlen
 refine qnc (qgb.ok _ _ _ _ _ _ ?_)
 unfold qgb qgb.j1
 refine qw (show IntKind.i64.wrap (((P.length+A.length:Nat):Int) - (P.length:Int))=(A.length:Int) by rw [qi (by omega) (by omega)]; omega) ?_
 refine qw (show IntKind.i64.wrap (((P.length+A.length+B.length:Nat):Int) - ((P.length+A.length:Nat):Int))=(B.length:Int) by rw [qi (by omega) (by omega)]; omega) ?_
 generalize hT:P ++ B ++ A ++ S=T at hk
 generalize hM:P.length+A.length=M
 refine qkh (fun (a:List Pk × List Pk × List Pk × List Pk) (i j:Int) w'=>i=(a.2.1.length:Int)∧j=(a.2.2.1.length:Int)∧a.1.length+a.2.1.length=M∧0 < a.2.1.length∧0 < a.2.2.1.length∧a.1.length+a.2.1.length+a.2.2.1.length+a.2.2.2.length≤1000000 ∧
  a.1 ++ a.2.2.1 ++ a.2.1 ++ a.2.2.2=T∧St F0 w0 w' (qmc 2 s (pks (a.1 ++ a.2.1 ++ a.2.2.1 ++ a.2.2.2)) :: ps)) (fun a=>a.2.1.length+a.2.2.1.length) (P,A,B,S) ⟨rfl,rfl,hM,hA,hB,by simp only; omega,hT,h⟩ ?_
 clear h hA hB hT hM hlen
 rintro ⟨P,A,B,S⟩ i j wL I μ ⟨rfl,rfl,hM,hA,hB,hlen,hT,h⟩ hin
 simp only at hM hA hB hlen hT h hin ⊢
 unfold qgb.b1
 refine qqe (fun g=>?_) (fun g=>?_)
 · have g:¬ (A.length:Int)=(B.length:Int):=by simpa using g
   refine qxc (fun g2=>?_) (fun g2=>?_)
   · refine qw (show IntKind.i64.wrap ((M:Int) - (A.length:Int))=(P.length:Int) by rw [qi (by omega) (by omega)]; omega) ?_
     have l1:(A.take B.length).length=B.length:=by rw [List.length_take]; omega
     have l2:(A.drop B.length).length=A.length - B.length:=List.length_drop
     have h':St F0 w0 wL (qmc 2 s (pks (P ++ A.take B.length ++ A.drop B.length ++ B ++ S)) :: ps):=by rw [List.append_assoc P,List.take_append_drop]; exact h
     have hc:=swapRange.c (n:=B.length) (K:=fun e w'=>e=.returned (.tuple ⟨[]⟩)∧lt (IntKind.i64.wrap ((A.length:Int) - (B.length:Int))) fun x7=>((s=s∧(M:Int)=(M:Int))∧I x7 (B.length:Int) w'∧μ x7 (B.length:Int) w' < μ (A.length:Int) (B.length:Int) wL)) h' l1 rfl (by simp only [List.length_append,l1,l2]; omega) fun w h=>⟨rfl,?_⟩
     · rw [l1,l2,show P.length+B.length+(A.length - B.length)=M by omega] at hc
       exact hc
     · refine qw (show IntKind.i64.wrap ((A.length:Int) - (B.length:Int))=((A.drop B.length).length:Int) by rw [qi (by omega) (by omega),l2]; omega) ?_
       refine ⟨⟨rfl,rfl⟩,hin (P ++ B,A.drop B.length,A.take B.length,S) _ _ _ ⟨rfl,by rw [l1],by simp only [List.length_append]; omega,by simp only; omega,by simp only; omega,by simp only [List.length_append]; omega,?_,h⟩ (by simp only; omega)⟩
       simp only
       rw [← hT,List.append_assoc (P ++ B) (A.take _),List.take_append_drop]
   · refine qw (show IntKind.i64.wrap ((M:Int) - (A.length:Int))=(P.length:Int) by rw [qi (by omega) (by omega)]; omega) ?_
     refine qw (qi (by omega) (by omega)) ?_
     refine qw (show IntKind.i64.wrap ((M:Int)+(B.length:Int) - (A.length:Int))=((P.length+A.length+(B.length - A.length):Nat):Int) by rw [qi (by omega) (by omega)]; omega) ?_
     have l1:(B.take (B.length - A.length)).length=B.length - A.length:=by rw [List.length_take]; omega
     have l2:(B.drop (B.length - A.length)).length=A.length:=by rw [List.length_drop]; omega
     have h':St F0 w0 wL (qmc 2 s (pks (P ++ A ++ B.take (B.length - A.length) ++ B.drop (B.length - A.length) ++ S)) :: ps):=by rw [List.append_assoc (P ++ A),List.take_append_drop]; exact h
     have hc:=swapRange.c (n:=A.length) (K:=fun e w'=>e=.returned (.tuple ⟨[]⟩)∧lt (IntKind.i64.wrap ((B.length:Int) - (A.length:Int))) fun x7=>((s=s∧(M:Int)=(M:Int))∧I (A.length:Int) x7 w'∧μ (A.length:Int) x7 w' < μ (A.length:Int) (B.length:Int) wL)) h' rfl l2 (by simp only [List.length_append,l1,l2]; omega) fun w h=>⟨rfl,?_⟩
     · rw [l1] at hc
       exact hc
     · refine qw (show IntKind.i64.wrap ((B.length:Int) - (A.length:Int))=((B.take (B.length - A.length)).length:Int) by rw [qi (by omega) (by omega),l1]; omega) ?_
       refine ⟨⟨rfl,rfl⟩,hin (P,B.drop (B.length - A.length),B.take (B.length - A.length),A ++ S) _ _ _ ⟨by rw [l2],rfl,by simp only; omega,by simp only; omega,by simp only; omega,by simp only [List.length_append]; omega,?_,by simpa using h⟩ (by simp only; omega)⟩
       simp only
       rw [← hT,List.append_assoc P (B.take _),List.take_append_drop]
       simp only [List.append_assoc]
 · have g:(A.length:Int)=(B.length:Int):=by simpa using g
   unfold qgb.j2
   refine qw (show IntKind.i64.wrap ((M:Int) - (A.length:Int))=(P.length:Int) by rw [qi (by omega) (by omega)]; omega) ?_
   have h':St F0 w0 wL (qmc 2 s (pks (P ++ A ++ [] ++ B ++ S)) :: ps):=by rw [List.append_nil]; exact h
   have hc:=swapRange.c (n:=A.length) (K:=fun e w'=>e=.returned (.tuple ⟨[]⟩)∧K (.returned (.tuple ⟨[]⟩)) w') h' rfl (by omega) (by simp only [List.length_append,List.length_nil]; omega) fun w h=>⟨rfl,hk w (by rw [← hT]; simpa using h)⟩
   rw [List.length_nil,Nat.add_zero,hM] at hc
   exact hc
theorem insertion.c {P X S:List Pk} {K:Ending→World→Prop} (h:St F0 w0 w (qmc 2 s (pks (P ++ X ++ S)) :: ps)) (hlen:(P ++ X ++ S).length≤1000000)
 (hk:∀ w',St F0 w0 w' (qmc 2 s (pks (P ++ qhd wt X ++ S)) :: ps)→K (.returned (.tuple ⟨[]⟩)) w') :
 Calls Tryz.prog 343 ⟨[.slice s.a s.len s.cap,.int .i64 (P.length:Int),.int .i64 ((P.length+X.length:Nat):Int),.func (.func 285) ⟨[]⟩ ⟨[]⟩]⟩ w K:=by
 simp only [List.length_append] at hlen
 refine qnc (qn.ok _ _ _ _ _ ?_)
 unfold qn qn.j1
 refine qw (show IntKind.i64.wrap ((P.length:Int)+1)=((P.length+1:Nat):Int) by rw [qi (by omega) (by omega)]; omega) ?_
 have e1:qhd wt (X.take 1) ++ X.drop 1=X:=by
  cases X with
  | nil=>rfl
  | cons x X=>rfl
 refine qpg (fun (c:Nat) (i':Int) w'=>i'=((P.length+c:Nat):Int)∧1≤c∧c≤X.length+1∧St F0 w0 w' (qmc 2 s (pks (P ++ (qhd wt (X.take c) ++ X.drop c) ++ S)) :: ps)) (fun c=>X.length+1 - c) 1 ⟨rfl,by omega,by omega,by rw [e1]; exact h⟩ ?_
 clear h e1
 rintro c i' wL I μ ⟨rfl,hc1,hc2,h⟩ hin
 unfold qn.b1
 refine qxc (fun g=>?_) (fun g=>?_)
 · have hcX:c < X.length:=by omega
   have eX:X.drop c=X[c] :: X.drop (c+1):=List.drop_eq_getElem_cons hcX
   have lS:(qhd wt (X.take c)).length=c:=by rw [qzc,List.length_take]; omega
   have hS:=qxh (k:=wt) (X.take c)
   have hnx:qhd wt (X.take (c+1))=insR wt X[c] (qhd wt (X.take c)):=by rw [List.take_succ_eq_append_getElem hcX,qsh]
   rw [eX] at h
   generalize X[c]=x at h hnx
   generalize qhd wt (X.take c)=T at h hnx lS hS
   unfold qn.j2 qn.j4
   have h0:St F0 w0 wL (qmc 2 s (pks (P ++ T ++ x :: ([] ++ (X.drop (c+1) ++ S)))) :: ps):=by
    simp only [List.append_assoc,List.cons_append,List.nil_append] at h ⊢
    exact h
   have done:∀ (T1 T2:List Pk) (w:World),T1 ++ T2=T→(∀ y ∈ T1,¬ wt x < wt y)→(∀ y ∈ T2,wt x < wt y)→St F0 w0 w (qmc 2 s (pks (P ++ T1 ++ x :: (T2 ++ (X.drop (c+1) ++ S)))) :: ps) →
    qn.j3 s (P.length:Int) ((P.length+X.length:Nat):Int) ((P.length+c:Nat):Int) (fun v w'=>K (.returned v) w') (fun d' a' b' i' w'=>(d'=s∧a'=(P.length:Int)∧b'=((P.length+X.length:Nat):Int))∧I i' w'∧μ i' w' < μ ((P.length+c:Nat):Int) wL) w:=by
    intro T1 T2 w hT h1 h2 h
    unfold qn.j3
    refine qw (show IntKind.i64.wrap (((P.length+c:Nat):Int)+1)=((P.length+(c+1):Nat):Int) by rw [qi (by omega) (by omega)]; omega) ?_
    refine ⟨⟨rfl,rfl,rfl⟩,hin (c+1) _ _ ⟨rfl,by omega,by omega,?_⟩ (by omega)⟩
    rw [hnx,← hT,insR_at h1 h2]
    simp only [List.append_assoc,List.cons_append] at h ⊢
    exact h
   refine qpg (fun (a:List Pk × List Pk) (j':Int) w'=>j'=((P.length+a.1.length:Nat):Int)∧a.1 ++ a.2=T∧(∀ y ∈ a.2,wt x < wt y)∧St F0 w0 w' (qmc 2 s (pks (P ++ a.1 ++ x :: (a.2 ++ (X.drop (c+1) ++ S)))) :: ps)) (fun a=>a.1.length) (T,[]) ⟨by rw [lS],List.append_nil _,by simp,h0⟩ ?_
   clear h h0
   rintro ⟨T1,T2⟩ j' w2 I2 μ2 ⟨rfl,hT,h2,h⟩ hin2
   simp only at hT h2 h hin2 ⊢
   have lT:T1.length+T2.length=c:=by rw [← lS,← hT,List.length_append]
   unfold qn.b2
   refine h.drewK fun w h=>?_
   refine qxc (fun g1=>?_) (fun g1=>?_)
   · have hne:T1 ≠ []:=by intro e; subst e; simp at g1
     obtain ⟨T0,y,rfl⟩:∃ T0 y,T1=T0 ++ [y]:=⟨T1.dropLast,T1.getLast hne,(List.dropLast_concat_getLast hne).symm⟩
     rw [List.length_append,List.length_singleton] at lT
     have eD:P ++ (T0 ++ [y]) ++ x :: (T2 ++ (X.drop (c+1) ++ S))=(P ++ T0) ++ y :: x :: (T2 ++ (X.drop (c+1) ++ S)):=by simp only [List.append_assoc,List.cons_append,List.nil_append]
     have ejy:IntKind.i64.wrap (((P.length+(T0 ++ [y]).length:Nat):Int) - 1)=((P ++ T0).length:Int):=by rw [List.length_append,List.length_append,List.length_singleton,qi (by omega) (by omega)]; omega
     have ejx:((P.length+(T0 ++ [y]).length:Nat):Int)=((P ++ (T0 ++ [y])).length:Int):=by rw [@List.length_append _ P]
     refine h.lpk (s:=s) (P ++ (T0 ++ [y])) x (T2 ++ (X.drop (c+1) ++ S)) rfl ejx ?_
     refine qw ejy ?_
     refine h.lpk (s:=s) (P ++ T0) y (x :: (T2 ++ (X.drop (c+1) ++ S))) eD rfl ?_
     refine qzl.c (x:=x) (y:=y) h fun r w hr h=>⟨_,rfl,?_⟩
     refine qxc (fun g2=>?_) (fun g2=>?_)
     · refine h.drewK fun w h=>?_
       refine qw ejy (qw ejy ?_)
       refine h.lpk (s:=s) (P ++ T0) y (x :: (T2 ++ (X.drop (c+1) ++ S))) eD rfl ?_
       refine h.lpk (s:=s) (P ++ (T0 ++ [y])) x (T2 ++ (X.drop (c+1) ++ S)) rfl ejx ?_
       refine h.spk (P ++ (T0 ++ [y])) x (T2 ++ (X.drop (c+1) ++ S)) y rfl ejx fun w h=>?_
       refine h.spk (P ++ T0) y (y :: (T2 ++ (X.drop (c+1) ++ S))) x (by simp only [List.append_assoc,List.cons_append,List.nil_append]) rfl fun w h=>?_
       refine qw (ejy.trans (show ((P ++ T0).length:Int)=((P.length+T0.length:Nat):Int) by rw [List.length_append])) ?_
       refine ⟨⟨rfl,rfl,rfl,rfl⟩,hin2 (T0,y :: T2) _ _ ⟨rfl,by rw [← hT]; simp,?_,?_⟩ (by simp)⟩
       · intro z hz
         rcases List.mem_cons.1 hz with rfl | hz
         · exact hr.1 g2
         · exact h2 z hz
       · simp only [List.append_assoc,List.cons_append] at h ⊢
         exact h
     · refine done (T0 ++ [y]) T2 w hT ?_ h2 h
       intro z hz
       have hxy:¬ wt x < wt y:=fun e=>g2 (hr.2 e)
       rw [← hT] at hS
       have hS:=(List.pairwise_append.1 (List.pairwise_append.1 hS).1).2.2
       rcases List.mem_append.1 hz with hz | hz
       · have:=hS z hz y (by simp)
         omega
       · rw [List.mem_singleton.1 hz]; exact hxy
   · have hne:T1=[]:=by
      cases T1 with
      | nil=>rfl
      | cons y T1=>exfalso; simp only [List.length_cons] at g1; omega
     subst hne
     exact done [] T2 w hT (by simp) h2 h
 · refine hk wL ?_
   rw [List.take_of_length_le (by omega),List.drop_of_length_le (by omega),List.append_nil] at h
   exact h
end
end Go.Proofs.YthdmmmfgjmmelaaGreat
namespace Go.Proofs.YthdmmmfgjmmelaaGreat
open Go Go.Proofs
set_option linter.unusedVariables false
set_option linter.unusedSimpArgs false
attribute [local irreducible] apK cpK mkK br
theorem srt_take {α:Type} {k:α→Int} {l:List α} (h:srt k l) (n:Nat):srt k (l.take n):=List.Pairwise.sublist (List.take_sublist n l) h
theorem srt_drop {α:Type} {k:α→Int} {l:List α} (h:srt k l) (n:Nat):srt k (l.drop n):=List.Pairwise.sublist (List.drop_sublist n l) h
theorem qdo {α:Type} {k:α→Int} {l:List α} (h:srt k l) {i j:Nat} (hij:i≤j) (hj:j < l.length):k (l[i]'(by omega))≤k l[j]:=by
 rcases Nat.eq_or_lt_of_le hij with e | e
 · subst e; exact Int.le_refl _
 · exact List.pairwise_iff_getElem.1 h i j (by omega) hj e
theorem qrk {α:Type} {l:List α} {n:Nat} {x:α} (h:x ∈ l.take n):∃ i,∃ (hi:i < l.length),i < n∧l[i]=x:=by
 obtain ⟨i,hi,e⟩:=List.mem_iff_getElem.1 h
 rw [List.length_take] at hi
 exact ⟨i,by omega,by omega,by rw [← e,List.getElem_take]⟩
theorem qsk {α:Type} {l:List α} {n:Nat} {x:α} (h:x ∈ l.drop n):∃ i,∃ (hi:i < l.length),n≤i∧l[i]=x:=by
 obtain ⟨i,hi,e⟩:=List.mem_iff_getElem.1 h
 rw [List.length_drop] at hi
 exact ⟨n+i,by omega,by omega,by rw [← e,List.getElem_drop]⟩
theorem half_i {lo hi:Nat} {K:Int→Prop} (h:lo+hi < 4611686018427387904) (hk:K (((lo+hi) / 2:Nat):Int)) :
 lt (IntKind.i64.wrap ((lo:Int)+(hi:Int))) fun x8=>lt (IntKind.u64.wrap x8) fun x9=>(0:Int)≤1∧lt (shrV .u64 x9 1) fun x10=>lt (IntKind.i64.wrap x10) fun x11=>K x11:=by
 refine qw (qi (by omega) (by omega)) ?_
 have e1:IntKind.u64.wrap ((lo:Int)+hi)=(lo:Int)+hi:=by
  have e:∀ x,IntKind.u64.wrap x=x % 18446744073709551616:=fun x=>by simp [IntKind.wrap,IntKind.bits,IntKind.signed]
  rw [e]; omega
 refine qw e1 ⟨by decide,?_⟩
 have e2:shrV .u64 ((lo:Int)+hi) 1=(((lo+hi) / 2:Nat):Int):=by
  unfold shrV
  have:((lo:Int)+(hi:Int))=((lo+hi:Nat):Int):=by omega
  rw [this]
  show Int.fdiv ((lo+hi:Nat):Int) 2=_
  rw [Int.fdiv_eq_ediv_of_nonneg _ (by decide)]
  omega
 refine qw e2 ?_
 exact qw (qi (by omega) (by omega)) hk
section
variable {F0:List Nat} {w0 w:World} {ps rest:List As} {s:Sl}
theorem ix_split {D:List Pk} {i:Nat} (h:i < D.length):D=D.take i ++ D[i] :: D.drop (i+1):=by
 rw [← List.drop_eq_getElem_cons h,List.take_append_drop]
theorem St.lpi {D:List Pk} {i:Int} {K:Array Value→Prop} (h:St F0 w0 w ps) [Rdb F0 w0 s ps 2 (pks D)] (j:Nat) (hi:i=j) (hj:j < D.length) (hk:K ⟨pkC D[j]⟩):ixS s.a s.len i 2 fun a=>ldA w a 2 K :=
 h.lpk (D.take j) D[j] (D.drop (j+1)) (ix_split hj) (by rw [List.length_take]; omega) hk
theorem getA {P A B S:List Pk} {i:Nat} (h:i < A.length) (h2:P.length+i < (P ++ A ++ B ++ S).length):(P ++ A ++ B ++ S)[P.length+i]=A[i]:=by
 simp only [List.append_assoc]
 rw [List.getElem_append_right (by omega)]
 simp [List.getElem_append_left,h]
theorem getB {P A B S:List Pk} {i:Nat} (h:i < B.length) (h2:P.length+A.length+i < (P ++ A ++ B ++ S).length):(P ++ A ++ B ++ S)[P.length+A.length+i]=B[i]:=by
 have e:P ++ A ++ B ++ S=(P ++ A) ++ B ++ [] ++ S:=by simp
 have h3:(P ++ A).length+i < ((P ++ A) ++ B ++ [] ++ S).length:=by simp only [List.length_append] at h2 ⊢; simp; omega
 have:=getA (P:=P ++ A) (A:=B) (B:=[]) (S:=S) h h3
 rw [← this]
 congr 1
 simp
theorem up.c {P B1 R:List Pk} {x:Pk} {K:Ending→World→Prop} (h:St F0 w0 w (qmc 2 s (pks (P ++ x :: (B1 ++ R))) :: ps)) (hlen:(P ++ x :: (B1 ++ R)).length≤1000000)
 (hk:∀ w',St F0 w0 w' (qmc 2 s (pks (P ++ B1 ++ x :: R)) :: ps)→K (.returned (.tuple ⟨[]⟩)) w') :
 qc.j16 s (P.length:Int) ((P.length+1+B1.length:Nat):Int) (fun v w'=>K (.returned v) w') w:=by
 simp only [List.length_append,List.length_cons] at hlen
 unfold qc.j16 qc.j18
 refine qpg (fun (c:Nat) (k':Int) w'=>k'=((P.length+c:Nat):Int)∧c≤B1.length∧St F0 w0 w' (qmc 2 s (pks (P ++ B1.take c ++ x :: (B1.drop c ++ R))) :: ps)) (fun c=>B1.length - c) 0 ⟨by simp,by omega,by simpa using h⟩ ?_
 clear h
 rintro c k' wL I μ ⟨rfl,hc,h⟩ hin
 unfold qc.b4
 refine qw (qi (by omega) (by omega)) ?_
 refine qxc (fun g=>?_) (fun g=>?_)
 · have hcB:c < B1.length:=by omega
   have eB:B1.drop c=B1[c] :: B1.drop (c+1):=List.drop_eq_getElem_cons hcB
   have lT:(B1.take c).length=c:=by rw [List.length_take]; omega
   rw [eB] at h
   refine h.drewK fun w h=>?_
   have e1:IntKind.i64.wrap (((P.length+c:Nat):Int)+1)=((P ++ B1.take c ++ [x]).length:Int):=by simp only [List.length_append,List.length_singleton,lT]; rw [qi (by omega) (by omega)]; omega
   have e2:((P.length+c:Nat):Int)=((P ++ B1.take c).length:Int):=by rw [@List.length_append _ P,lT]
   refine qw e1 (qw e1 ?_)
   refine h.lpk (s:=s) (P ++ B1.take c ++ [x]) B1[c] (B1.drop (c+1) ++ R) (by simp only [List.append_assoc,List.cons_append,List.nil_append]) rfl ?_
   refine h.lpk (s:=s) (P ++ B1.take c) x (B1[c] :: B1.drop (c+1) ++ R) rfl e2 ?_
   refine h.spk (P ++ B1.take c) x (B1[c] :: B1.drop (c+1) ++ R) B1[c] rfl e2 fun w h=>?_
   refine h.spk (P ++ B1.take c ++ [B1[c]]) B1[c] (B1.drop (c+1) ++ R) x (by simp only [List.append_assoc,List.cons_append,List.nil_append]) (by simp only [List.length_append,List.length_singleton]) fun w h=>?_
   refine qw (show IntKind.i64.wrap (((P.length+c:Nat):Int)+1)=((P.length+(c+1):Nat):Int) by rw [qi (by omega) (by omega)]; omega) ?_
   refine ⟨⟨rfl,rfl⟩,hin (c+1) _ _ ⟨rfl,by omega,?_⟩ (by omega)⟩
   rw [List.take_succ_eq_append_getElem hcB]
   simp only [List.append_assoc,List.cons_append,List.nil_append] at h ⊢
   exact h
 · have:c=B1.length:=by omega
   subst this
   rw [List.take_length,List.drop_length,List.nil_append] at h
   unfold qc.j17
   exact hk wL h
theorem down.c {P A2 R:List Pk} {y:Pk} {K:Ending→World→Prop} (h:St F0 w0 w (qmc 2 s (pks (P ++ A2 ++ y :: R)) :: ps)) (hlen:(P ++ A2 ++ y :: R).length≤1000000)
 (hk:∀ w',St F0 w0 w' (qmc 2 s (pks (P ++ y :: (A2 ++ R))) :: ps)→K (.returned (.tuple ⟨[]⟩)) w') :
 qc.j11 s ((P.length+A2.length:Nat):Int) (P.length:Int) (fun v w'=>K (.returned v) w') w:=by
 simp only [List.length_append,List.length_cons] at hlen
 unfold qc.j11 qc.j13
 refine qpg (fun (a:List Pk × List Pk) (k':Int) w'=>k'=((P.length+a.1.length:Nat):Int)∧a.1 ++ a.2=A2∧St F0 w0 w' (qmc 2 s (pks (P ++ a.1 ++ y :: (a.2 ++ R))) :: ps)) (fun a=>a.1.length) (A2,[]) ⟨rfl,by simp,by simpa using h⟩ ?_
 clear h
 rintro ⟨T1,T2⟩ k' wL I μ ⟨rfl,hT,h⟩ hin
 simp only at hT h hin ⊢
 have lT:T1.length+T2.length=A2.length:=by rw [← hT,List.length_append]
 unfold qc.b2
 refine qxc (fun g=>?_) (fun g=>?_)
 · have hne:T1 ≠ []:=by intro e; subst e; simp at g
   obtain ⟨T0,z,rfl⟩:∃ T0 z,T1=T0 ++ [z]:=⟨T1.dropLast,T1.getLast hne,(List.dropLast_concat_getLast hne).symm⟩
   rw [List.length_append,List.length_singleton] at lT
   refine h.drewK fun w h=>?_
   have e1:IntKind.i64.wrap (((P.length+(T0 ++ [z]).length:Nat):Int) - 1)=((P ++ T0).length:Int):=by rw [List.length_append,List.length_append,List.length_singleton,qi (by omega) (by omega)]; omega
   have e2:((P.length+(T0 ++ [z]).length:Nat):Int)=((P ++ (T0 ++ [z])).length:Int):=by rw [@List.length_append _ P]
   refine qw e1 (qw e1 ?_)
   refine h.lpk (s:=s) (P ++ T0) z (y :: (T2 ++ R)) (by simp only [List.append_assoc,List.cons_append,List.nil_append]) rfl ?_
   refine h.lpk (s:=s) (P ++ (T0 ++ [z])) y (T2 ++ R) rfl e2 ?_
   refine h.spk (P ++ (T0 ++ [z])) y (T2 ++ R) z rfl e2 fun w h=>?_
   refine h.spk (P ++ T0) z (z :: (T2 ++ R)) y (by simp only [List.append_assoc,List.cons_append,List.nil_append]) rfl fun w h=>?_
   refine qw (e1.trans (show ((P ++ T0).length:Int)=((P.length+T0.length:Nat):Int) by rw [List.length_append])) ?_
   refine ⟨⟨rfl,rfl⟩,hin (T0,z :: T2) _ _ ⟨rfl,by rw [← hT]; simp,?_⟩ (by simp)⟩
   simp only [List.append_assoc,List.cons_append] at h ⊢
   exact h
 · have hne:T1=[]:=by
    cases T1 with
    | nil=>rfl
    | cons z T1=>exfalso; simp only [List.length_cons] at g; omega
   subst hne
   rw [List.nil_append] at hT
   subst hT
   rw [List.append_nil] at h
   unfold qc.j12
   exact hk wL h
end
end Go.Proofs.YthdmmmfgjmmelaaGreat
namespace Go.Proofs.YthdmmmfgjmmelaaGreat
open Go Go.Proofs
set_option linter.unusedVariables false
set_option linter.unusedSimpArgs false
attribute [local irreducible] apK cpK mkK br
section
variable {F0:List Nat} {w0 w:World} {ps rest:List As} {s:Sl}
theorem symMerge.one {P B S:List Pk} {x:Pk} {K:Ending→World→Prop} (h:St F0 w0 w (qmc 2 s (pks (P ++ [x] ++ B ++ S)) :: ps)) (hB:srt wt B) (hlen:(P ++ [x] ++ B ++ S).length≤1000000)
 (hk:∀ w',St F0 w0 w' (qmc 2 s (pks (P ++ mrg wt [x] B ++ S)) :: ps)→K (.returned (.tuple ⟨[]⟩)) w') :
 qc.j15 s (P.length:Int) ((P.length+1:Nat):Int) ((P.length+1+B.length:Nat):Int) (fun v w'=>K (.returned v) w') w:=by
 have hlen2:=hlen
 simp only [List.length_append,List.length_singleton] at hlen
 unfold qc.j15
 refine qkh (fun (a:Nat × Nat) (i j:Int) w'=>i=((P.length+1+a.1:Nat):Int)∧j=((P.length+1+a.2:Nat):Int)∧a.1≤a.2∧a.2≤B.length∧(∀ y ∈ B.take a.1,wt y < wt x)∧(∀ y ∈ B.drop a.2,¬ wt y < wt x)∧St F0 w0 w' (qmc 2 s (pks (P ++ [x] ++ B ++ S)) :: ps)) (fun a=>a.2 - a.1) (0,B.length) ⟨rfl,rfl,by simp,by simp,by simp,by simp,h⟩ ?_
 clear h
 rintro ⟨lo,hi⟩ i j wL I μ ⟨rfl,rfl,hlh,hhB,h1,h2,h⟩ hin
 simp only at hlh hhB h1 h2 h hin ⊢
 unfold qc.b5
 refine qxc (fun g=>?_) (fun g=>?_)
 · refine half_i (by omega) ?_
   obtain ⟨q,hq⟩:∃ q,(P.length+1+lo+(P.length+1+hi)) / 2=P.length+1+q:=⟨(lo+hi) / 2,by omega⟩
   rw [hq]
   have hqB:q < B.length:=by omega
   refine h.drewK fun w h=>?_
   refine h.lpi (s:=s) (P.length+1+q) rfl (by simp only [List.length_append,List.length_singleton]; omega) ?_
   have eg:=getB (P:=P) (A:=[x]) (B:=B) (S:=S) hqB (by simp only [List.length_append,List.length_singleton]; omega)
   simp only [List.length_singleton] at eg
   rw [eg]
   refine h.lpi (s:=s) P.length rfl (by simp only [List.length_append,List.length_singleton]; omega) ?_
   have eg2:=getA (P:=P) (A:=[x]) (B:=B) (S:=S) (i:=0) (by simp) (by simp only [List.length_append,List.length_singleton]; omega)
   simp only [Nat.add_zero,List.getElem_cons_zero] at eg2
   rw [eg2]
   refine qzl.c (x:=B[q]) (y:=x) h fun r w hr h=>⟨_,rfl,?_⟩
   refine qxc (fun g2=>?_) (fun g2=>?_)
   · refine qw (show IntKind.i64.wrap (((P.length+1+q:Nat):Int)+1)=((P.length+1+(q+1):Nat):Int) by rw [qi (by omega) (by omega)]; omega) ?_
     refine ⟨⟨rfl,rfl⟩,hin (q+1,hi) _ _ _ ⟨rfl,rfl,by simp only; omega,hhB,?_,h2,h⟩ (by simp only; omega)⟩
     intro y hy
     obtain ⟨i,hi1,hi2,rfl⟩:=qrk hy
     have:=qdo hB (show i≤q by omega) hqB
     have h3:wt B[q] < wt x:=hr.1 g2
     omega
   · refine ⟨⟨rfl,rfl⟩,hin (lo,q) _ _ _ ⟨rfl,rfl,by simp only; omega,by simp only; omega,h1,?_,h⟩ (by simp only; omega)⟩
     intro y hy
     obtain ⟨i,hi1,hi2,rfl⟩:=qsk hy
     have:=qdo hB (show q≤i by omega) hi1
     have h3:¬ wt B[q] < wt x:=fun e=>g2 (hr.2 e)
     omega
 · have:lo=hi:=by omega
   subst this
   have lT:(B.take lo).length=lo:=by rw [List.length_take]; omega
   have hu:=up.c (P:=P) (B1:=B.take lo) (R:=B.drop lo ++ S) (x:=x) (K:=K) (s:=s) (F0:=F0) (w0:=w0) (ps:=ps) (w:=wL) (by
    rw [← List.append_assoc (B.take lo),List.take_append_drop]
    simpa using h) (by rw [← List.append_assoc (B.take lo),List.take_append_drop]; simpa using hlen2) fun w h=>hk w (by
     have e:=mrg_cut (k:=wt) _ [] [x] (B.take lo) (B.drop lo) rfl (by intro a ha b hb; rw [List.mem_singleton.1 ha]; exact h1 b hb) (by simp)
     rw [List.nil_append,List.take_append_drop,qah,mrg_left [x] (B.drop lo) (by intro a ha b hb; rw [List.mem_singleton.1 ha]; have:=h2 b hb; omega)] at e
     rw [e]
     simpa using h)
   rw [lT] at hu
   exact hu
theorem symMerge.last {P A S:List Pk} {y:Pk} {K:Ending→World→Prop} (h:St F0 w0 w (qmc 2 s (pks (P ++ A ++ [y] ++ S)) :: ps)) (hA:srt wt A) (hlen:(P ++ A ++ [y] ++ S).length≤1000000)
 (hk:∀ w',St F0 w0 w' (qmc 2 s (pks (P ++ mrg wt A [y] ++ S)) :: ps)→K (.returned (.tuple ⟨[]⟩)) w') :
 qc.j10 s ((P.length+A.length:Nat):Int) (P.length:Int) ((P.length+A.length:Nat):Int) (fun v w'=>K (.returned v) w') w:=by
 have hlen2:=hlen
 simp only [List.length_append,List.length_singleton] at hlen
 unfold qc.j10
 refine qkh (fun (a:Nat × Nat) (i j:Int) w'=>i=((P.length+a.1:Nat):Int)∧j=((P.length+a.2:Nat):Int)∧a.1≤a.2∧a.2≤A.length∧(∀ z ∈ A.take a.1,¬ wt y < wt z)∧(∀ z ∈ A.drop a.2,wt y < wt z)∧St F0 w0 w' (qmc 2 s (pks (P ++ A ++ [y] ++ S)) :: ps)) (fun a=>a.2 - a.1) (0,A.length) ⟨by simp,rfl,by simp,by simp,by simp,by simp,h⟩ ?_
 clear h
 rintro ⟨lo,hi⟩ i j wL I μ ⟨rfl,rfl,hlh,hhA,h1,h2,h⟩ hin
 simp only at hlh hhA h1 h2 h hin ⊢
 unfold qc.b3
 refine qxc (fun g=>?_) (fun g=>?_)
 · refine half_i (by omega) ?_
   obtain ⟨q,hq⟩:∃ q,(P.length+lo+(P.length+hi)) / 2=P.length+q:=⟨(lo+hi) / 2,by omega⟩
   rw [hq]
   have hqA:q < A.length:=by omega
   refine h.drewK fun w h=>?_
   refine h.lpi (s:=s) (P.length+A.length) rfl (by simp only [List.length_append,List.length_singleton]; omega) ?_
   have eg:=getB (P:=P) (A:=A) (B:=[y]) (S:=S) (i:=0) (by simp) (by simp only [List.length_append,List.length_singleton]; omega)
   simp only [Nat.add_zero,List.getElem_cons_zero] at eg
   rw [eg]
   refine h.lpi (s:=s) (P.length+q) rfl (by simp only [List.length_append,List.length_singleton]; omega) ?_
   rw [getA (P:=P) (A:=A) (B:=[y]) (S:=S) hqA]
   refine qzl.c (x:=y) (y:=A[q]) h fun r w hr h=>⟨_,rfl,?_⟩
   refine qqe (fun g2=>?_) (fun g2=>?_)
   · have g2:¬ r < 0:=by simpa using g2
     refine qw (show IntKind.i64.wrap (((P.length+q:Nat):Int)+1)=((P.length+(q+1):Nat):Int) by rw [qi (by omega) (by omega)]; omega) ?_
     refine ⟨⟨rfl,rfl⟩,hin (q+1,hi) _ _ _ ⟨rfl,rfl,by simp only; omega,hhA,?_,h2,h⟩ (by simp only; omega)⟩
     intro z hz
     obtain ⟨i,hi1,hi2,rfl⟩:=qrk hz
     have:=qdo hA (show i≤q by omega) hqA
     have h3:¬ wt y < wt A[q]:=fun e=>g2 (hr.2 e)
     omega
   · have g2:r < 0:=by simpa using g2
     refine ⟨⟨rfl,rfl⟩,hin (lo,q) _ _ _ ⟨rfl,rfl,by simp only; omega,by simp only; omega,h1,?_,h⟩ (by simp only; omega)⟩
     intro z hz
     obtain ⟨i,hi1,hi2,rfl⟩:=qsk hz
     have:=qdo hA (show q≤i by omega) hi1
     have h3:wt y < wt A[q]:=hr.1 g2
     omega
 · have:lo=hi:=by omega
   subst this
   have lT:(A.take lo).length=lo:=by rw [List.length_take]; omega
   have lD:(A.drop lo).length=A.length - lo:=List.length_drop
   have hu:=down.c (P:=P ++ A.take lo) (A2:=A.drop lo) (R:=S) (y:=y) (K:=K) (s:=s) (F0:=F0) (w0:=w0) (ps:=ps) (w:=wL) (by
    rw [List.append_assoc P,List.take_append_drop]
    simpa using h) (by rw [List.append_assoc P,List.take_append_drop]; simpa using hlen2) fun w h=>hk w (by
     have e:=mrg_cut (k:=wt) _ (A.take lo) (A.drop lo) [y] [] rfl (by intro a ha b hb; rw [List.mem_singleton.1 hb]; exact h2 a ha) (by simp)
     rw [List.append_nil,List.take_append_drop,qyg,mrg_left (A.take lo) [y] (by intro a ha b hb; rw [List.mem_singleton.1 hb]; have:=h1 a ha; omega)] at e
     rw [e]
     simpa using h)
   rw [List.length_append,lT,lD,show P.length+lo+(A.length - lo)=P.length+A.length by omega] at hu
   exact hu
end
end Go.Proofs.YthdmmmfgjmmelaaGreat
namespace Go.Proofs.YthdmmmfgjmmelaaGreat
open Go Go.Proofs
set_option linter.unusedVariables false
set_option linter.unusedSimpArgs false
attribute [local irreducible] apK cpK mkK br
theorem symMerge.c:∀ (n:Nat) {F0:List Nat} {w0 w:World} {ps:List As} {s:Sl} {P A B S:List Pk} {K:Ending→World→Prop},A.length+B.length≤n→St F0 w0 w (qmc 2 s (pks (P ++ A ++ B ++ S)) :: ps)→srt wt A→srt wt B→0 < A.length→0 < B.length→(P ++ A ++ B ++ S).length≤1000000 →
 (∀ w',St F0 w0 w' (qmc 2 s (pks (P ++ mrg wt A B ++ S)) :: ps)→K (.returned (.tuple ⟨[]⟩)) w') →
 Calls Tryz.prog 344 ⟨[.slice s.a s.len s.cap,.int .i64 (P.length:Int),.int .i64 ((P.length+A.length:Nat):Int),.int .i64 ((P.length+A.length+B.length:Nat):Int),.func (.func 285) ⟨[]⟩ ⟨[]⟩]⟩ w K:=by
 intro n
 induction n with
 | zero=>intro F0 w0 w ps s P A B S K hn _ _ _ hA0 _ _ _; omega
 | succ n ih =>
   intro F0 w0 w ps s P A B S K hn h hA hB hA0 hB0 hlen2 hk
   have hlen:=hlen2
   simp only [List.length_append] at hlen
   refine qnc (qc.ok _ _ _ _ _ _ ?_)
   unfold qc qc.j14
   refine qw (show IntKind.i64.wrap (((P.length+A.length:Nat):Int) - (P.length:Int))=(A.length:Int) by rw [qi (by omega) (by omega)]; omega) ?_
   refine qqe (fun g=>?_) (fun g=>?_)
   · have g:(A.length:Int)=1:=by simpa using g
     obtain ⟨x,rfl⟩:∃ x,A=[x]:=List.length_eq_one_iff.1 (by omega)
     exact symMerge.one h hB hlen2 hk
   have gA:¬ (A.length:Int)=1:=by simpa using g
   unfold qc.j1 qc.j9
   refine qw (show IntKind.i64.wrap (((P.length+A.length+B.length:Nat):Int) - ((P.length+A.length:Nat):Int))=(B.length:Int) by rw [qi (by omega) (by omega)]; omega) ?_
   refine qqe (fun g=>?_) (fun g=>?_)
   · have g:(B.length:Int)=1:=by simpa using g
     obtain ⟨y,rfl⟩:∃ y,B=[y]:=List.length_eq_one_iff.1 (by omega)
     exact symMerge.last h hA hlen2 hk
   have gB:¬ (B.length:Int)=1:=by simpa using g
   unfold qc.j2
   refine half_i (by omega) ?_
   obtain ⟨md,hmd⟩:∃ md,(A.length+B.length) / 2=md:=⟨_,rfl⟩
   rw [show (P.length+(P.length+A.length+B.length)) / 2=P.length+md by omega]
   refine qw (show IntKind.i64.wrap (((P.length+md:Nat):Int)+((P.length+A.length:Nat):Int))=((P.length+md+(P.length+A.length):Nat):Int) by rw [qi (by omega) (by omega)]; omega) ?_
   have j6:∀ (t:Nat) (w:World),t≤A.length→t≤md→md - t≤B.length→(∀ (h1:t < A.length) (h2:0 < md - t) (h3:md - t - 1 < B.length),wt B[md - t - 1] < wt A[t])→(∀ (h1:0 < t) (h2:md - t < B.length) (h3:t - 1 < A.length),¬ wt B[md - t] < wt A[t - 1])→St F0 w0 w (qmc 2 s (pks (P ++ A ++ B ++ S)) :: ps) →
    qc.j6 s (P.length:Int) ((P.length+A.length:Nat):Int) ((P.length+A.length+B.length:Nat):Int) ((P.length+md:Nat):Int) ((P.length+md+(P.length+A.length):Nat):Int) ((P.length+t:Nat):Int) (fun v w'=>K (.returned v) w') w:=by
    intro t w ht1 ht2 ht3 hlt hge h
    have lA1:(A.take t).length=t:=by rw [List.length_take]; omega
    have lA2:(A.drop t).length=A.length - t:=List.length_drop
    have lB1:(B.take (md - t)).length=md - t:=by rw [List.length_take]; omega
    have lB2:(B.drop (md - t)).length=B.length - (md - t):=List.length_drop
    have c1:∀ a ∈ A.drop t,∀ b ∈ B.take (md - t),wt b < wt a:=by
     intro a ha b hb
     obtain ⟨i,hi1,hi2,rfl⟩:=qsk ha
     obtain ⟨j,hj1,hj2,rfl⟩:=qrk hb
     have h1:=hlt (by omega) (by omega) (by omega)
     have h2:=qdo hA (show t≤i by omega) hi1
     have h3:=qdo hB (show j≤md - t - 1 by omega) (by omega)
     omega
    have c2:∀ a ∈ A.take t,∀ b ∈ B.drop (md - t),wt a≤wt b:=by
     intro a ha b hb
     obtain ⟨i,hi1,hi2,rfl⟩:=qrk ha
     obtain ⟨j,hj1,hj2,rfl⟩:=qsk hb
     have h1:=hge (by omega) (by omega) (by omega)
     have h2:=qdo hA (show i≤t - 1 by omega) (by omega)
     have h3:=qdo hB (show md - t≤j by omega) hj1
     omega
    have hm:=mrg_cut (k:=wt) _ (A.take t) (A.drop t) (B.take (md - t)) (B.drop (md - t)) rfl c1 c2
    rw [List.take_append_drop,List.take_append_drop] at hm
    rw [hm] at hk
    have hA1:=srt_take hA t
    have hA2:=srt_drop hA t
    have hB1:=srt_take hB (md - t)
    have hB2:=srt_drop hB (md - t)
    have hsA:A=A.take t ++ A.drop t:=(List.take_append_drop t A).symm
    have hsB:B=B.take (md - t) ++ B.drop (md - t):=(List.take_append_drop (md - t) B).symm
    have hAl:A.length=(A.take t).length+(A.drop t).length:=by rw [lA1,lA2]; omega
    have hBl:B.length=(B.take (md - t)).length+(B.drop (md - t)).length:=by rw [lB1,lB2]; omega
    have h:St F0 w0 w (qmc 2 s (pks (P ++ (A.take t ++ A.drop t) ++ (B.take (md - t) ++ B.drop (md - t)) ++ S)) :: ps):=by rw [List.take_append_drop,List.take_append_drop]; exact h
    clear hm c1 c2 hlt hge hsA hsB hA hB
    generalize A.take t=A1 at *
    generalize A.drop t=A2 at *
    generalize B.take (md - t)=B1 at *
    generalize B.drop (md - t)=B2 at *
    have j8:∀ (C:List Pk) (w:World),C.length=A1.length+B1.length→C=mrg wt A1 B1→St F0 w0 w (qmc 2 s (pks (P ++ C ++ A2 ++ B2 ++ S)) :: ps)→qc.j8 s ((P.length+A.length+B.length:Nat):Int) ((P.length+md:Nat):Int) ((P.length+A.length+(md - t):Nat):Int) (fun v w'=>K (.returned v) w') w:=by
     intro C w hC hCe h
     subst hCe
     have fin:(A2=[] ∨ B2=[])→K (.returned (.tuple ⟨[]⟩)) w:=by
      intro e
      refine hk w ?_
      have:mrg wt A2 B2=A2 ++ B2:=by
       rcases e with e | e
       · subst e; rw [qah]; rfl
       · subst e; rw [qyg,List.append_nil]
      rw [this]
      simp only [List.append_assoc] at h ⊢
      exact h
     unfold qc.j8
     refine qxc (fun g1=>?_) (fun g1=>fin (Or.inl (List.length_eq_zero_iff.1 (by omega))))
     refine qxc (fun g2=>?_) (fun g2=>fin (Or.inr (List.length_eq_zero_iff.1 (by omega))))
     have hc:=ih (P:=P ++ mrg wt A1 B1) (A:=A2) (B:=B2) (S:=S) (K:=fun e w'=>e=.returned (.tuple ⟨[]⟩)∧K (.returned (.tuple ⟨[]⟩)) w') (by omega) h hA2 hB2 (by omega) (by omega) (by simp only [List.length_append,hC]; omega) fun w h=>⟨rfl,hk w (by simp only [List.append_assoc] at h ⊢; exact h)⟩
     rw [List.length_append,hC,show P.length+(A1.length+B1.length)=P.length+md by omega,show P.length+md+A2.length=P.length+A.length+(md - t) by omega,show P.length+A.length+(md - t)+B2.length=P.length+A.length+B.length by omega] at hc
     exact hc
    have j7:∀ (w:World),St F0 w0 w (qmc 2 s (pks (P ++ A1 ++ B1 ++ (A2 ++ B2 ++ S))) :: ps)→qc.j7 s (P.length:Int) ((P.length+A.length+B.length:Nat):Int) ((P.length+md:Nat):Int) ((P.length+t:Nat):Int) ((P.length+A.length+(md - t):Nat):Int) (fun v w'=>K (.returned v) w') w:=by
     intro w h
     have fin:(A1=[] ∨ B1=[])→qc.j8 s ((P.length+A.length+B.length:Nat):Int) ((P.length+md:Nat):Int) ((P.length+A.length+(md - t):Nat):Int) (fun v w'=>K (.returned v) w') w:=by
      intro e
      have:mrg wt A1 B1=A1 ++ B1:=by
       rcases e with e | e
       · subst e; rw [qah]; rfl
       · subst e; rw [qyg,List.append_nil]
      refine j8 (A1 ++ B1) w (by rw [List.length_append]) this.symm ?_
      simp only [List.append_assoc] at h ⊢
      exact h
     unfold qc.j7
     refine qxc (fun g1=>?_) (fun g1=>fin (Or.inl (List.length_eq_zero_iff.1 (by omega))))
     refine qxc (fun g2=>?_) (fun g2=>fin (Or.inr (List.length_eq_zero_iff.1 (by omega))))
     have hc:=ih (P:=P) (A:=A1) (B:=B1) (S:=A2 ++ B2 ++ S) (K:=fun e w'=>e=.returned (.tuple ⟨[]⟩)∧qc.j8 s ((P.length+A.length+B.length:Nat):Int) ((P.length+md:Nat):Int) ((P.length+A.length+(md - t):Nat):Int) (fun v w'=>K (.returned v) w') w') (by omega) h hA1 hB1 (by omega) (by omega) (by simp only [List.length_append]; omega) fun w h=>⟨rfl,j8 _ w (qkr _ _ _ rfl) rfl (by simp only [List.append_assoc] at h ⊢; exact h)⟩
     rw [show P.length+A1.length=P.length+t by omega,show P.length+t+B1.length=P.length+md by omega] at hc
     exact hc
    have same:(A2=[] ∨ B1=[])→St F0 w0 w (qmc 2 s (pks (P ++ A1 ++ B1 ++ (A2 ++ B2 ++ S))) :: ps):=by
     intro e
     rcases e with e | e
     · subst e
       simp only [List.append_assoc,List.append_nil,List.nil_append] at h ⊢
       exact h
     · subst e
       simp only [List.append_assoc,List.append_nil,List.nil_append] at h ⊢
       exact h
    unfold qc.j6
    refine qw (show IntKind.i64.wrap (((P.length+md+(P.length+A.length):Nat):Int) - ((P.length+t:Nat):Int))=((P.length+A.length+(md - t):Nat):Int) by rw [qi (by omega) (by omega)]; omega) ?_
    refine qxc (fun g1=>?_) (fun g1=>j7 w (same (Or.inl (List.length_eq_zero_iff.1 (by omega)))))
    refine qxc (fun g2=>?_) (fun g2=>j7 w (same (Or.inr (List.length_eq_zero_iff.1 (by omega)))))
    have hc:=rotate.c (P:=P ++ A1) (A:=A2) (B:=B1) (S:=B2 ++ S) (s:=s) (F0:=F0) (w0:=w0) (w:=w) (ps:=ps) (K:=fun e w'=>e=.returned (.tuple ⟨[]⟩)∧qc.j7 s (P.length:Int) ((P.length+A.length+B.length:Nat):Int) ((P.length+md:Nat):Int) ((P.length+t:Nat):Int) ((P.length+A.length+(md - t):Nat):Int) (fun v w'=>K (.returned v) w') w') (by simp only [List.append_assoc] at h ⊢; exact h) (by omega) (by omega) (by simp only [List.length_append]; omega) fun w h=>⟨rfl,j7 w (by simp only [List.append_assoc] at h ⊢; exact h)⟩
    rw [List.length_append,show P.length+A1.length=P.length+t by omega,show P.length+t+A2.length=P.length+A.length by omega,show P.length+A.length+B1.length=P.length+A.length+(md - t) by omega] at hc
    exact hc
   have j4:∀ (lo0 hi0:Nat),lo0≤hi0→hi0≤md→hi0≤A.length→md - lo0≤B.length→(hi0=md ∨ hi0=A.length)→(lo0=0 ∨ md - lo0=B.length) →
    qc.j4 s (P.length:Int) ((P.length+A.length:Nat):Int) ((P.length+A.length+B.length:Nat):Int) ((P.length+md:Nat):Int) ((P.length+md+(P.length+A.length):Nat):Int) ((P.length+lo0:Nat):Int) ((P.length+hi0:Nat):Int) (fun v w'=>K (.returned v) w') w:=by
    intro lo0 hi0 h1 h2 h3 h4 h5 h6
    unfold qc.j4 qc.j5
    refine qw (show IntKind.i64.wrap (((P.length+md+(P.length+A.length):Nat):Int) - 1)=((P.length+md+(P.length+A.length) - 1:Nat):Int) by rw [qi (by omega) (by omega)]; omega) ?_
    refine qkh (fun (a:Nat × Nat) (i j:Int) w'=>i=((P.length+a.1:Nat):Int)∧j=((P.length+a.2:Nat):Int)∧lo0≤a.1∧a.1≤a.2∧a.2≤hi0∧(a.1=lo0 ∨ ∀ (h2:md - a.1 < B.length) (h3:a.1 - 1 < A.length),¬ wt B[md - a.1] < wt A[a.1 - 1])∧(a.2=hi0 ∨ ∀ (h2:md - a.2 - 1 < B.length) (h3:a.2 < A.length),wt B[md - a.2 - 1] < wt A[a.2])∧St F0 w0 w' (qmc 2 s (pks (P ++ A ++ B ++ S)) :: ps)) (fun a=>a.2 - a.1) (lo0,hi0) ⟨rfl,rfl,Nat.le_refl _,h1,Nat.le_refl _,Or.inl rfl,Or.inl rfl,h⟩ ?_
    clear h
    rintro ⟨lo,hi⟩ i j wL I μ ⟨rfl,rfl,hl0,hlh,hh0,hq1,hq2,h⟩ hin
    simp only at hl0 hlh hh0 hq1 hq2 h hin ⊢
    unfold qc.b1
    refine qxc (fun g=>?_) (fun g=>?_)
    · refine half_i (by omega) ?_
      obtain ⟨q,hq⟩:∃ q,(P.length+lo+(P.length+hi)) / 2=P.length+q:=⟨(lo+hi) / 2,by omega⟩
      rw [hq]
      have hqA:q < A.length:=by omega
      have hqB:md - 1 - q < B.length:=by omega
      refine h.drewK fun w h=>?_
      refine qw (show IntKind.i64.wrap (((P.length+md+(P.length+A.length) - 1:Nat):Int) - ((P.length+q:Nat):Int))=((P.length+A.length+(md - 1 - q):Nat):Int) by rw [qi (by omega) (by omega)]; omega) ?_
      refine h.lpi (s:=s) (P.length+A.length+(md - 1 - q)) rfl (by simp only [List.length_append]; omega) ?_
      rw [getB (P:=P) (A:=A) (B:=B) (S:=S) hqB]
      refine h.lpi (s:=s) (P.length+q) rfl (by simp only [List.length_append]; omega) ?_
      rw [getA (P:=P) (A:=A) (B:=B) (S:=S) hqA]
      refine qzl.c (x:=B[md - 1 - q]) (y:=A[q]) h fun r w hr h=>⟨_,rfl,?_⟩
      refine qqe (fun g2=>?_) (fun g2=>?_)
      · have g2:¬ r < 0:=by simpa using g2
        refine qw (show IntKind.i64.wrap (((P.length+q:Nat):Int)+1)=((P.length+(q+1):Nat):Int) by rw [qi (by omega) (by omega)]; omega) ?_
        refine ⟨⟨rfl,rfl,rfl,rfl,rfl,rfl,rfl⟩,hin (q+1,hi) _ _ _ ⟨rfl,rfl,by simp only; omega,by simp only; omega,hh0,Or.inr fun k1 k2 e=>g2 (hr.2 ?_),hq2,h⟩ (by simp only; omega)⟩
        simp only [Nat.add_sub_cancel,show md - (q+1)=md - 1 - q by omega] at e
        exact e
      · have g2:r < 0:=by simpa using g2
        refine ⟨⟨rfl,rfl,rfl,rfl,rfl,rfl,rfl⟩,hin (lo,q) _ _ _ ⟨rfl,rfl,hl0,by simp only; omega,by simp only; omega,hq1,Or.inr fun k1 k2=>?_,h⟩ (by simp only; omega)⟩
        have h3:wt B[md - 1 - q] < wt A[q]:=hr.1 g2
        simp only [show md - q - 1=md - 1 - q by omega]
        exact h3
    · have:lo=hi:=by omega
      subst this
      refine j6 lo wL (by omega) (by omega) (by omega) (fun k1 k2 k3=>?_) (fun k1 k2 k3=>?_) h
      · rcases hq2 with e | e
        · exfalso; omega
        · exact e k3 k1
      · rcases hq1 with e | e
        · exfalso; omega
        · exact e k2 k3
   unfold qc.j3
   refine qxc (fun g=>?_) (fun g=>?_)
   · refine qw (show IntKind.i64.wrap (((P.length+md+(P.length+A.length):Nat):Int) - ((P.length+A.length+B.length:Nat):Int))=((P.length+(md - B.length):Nat):Int) by rw [qi (by omega) (by omega)]; omega) ?_
     exact j4 (md - B.length) md (by omega) (by omega) (by omega) (by omega) (Or.inl rfl) (Or.inr (by omega))
   · have:=j4 0 A.length (by omega) (by omega) (by omega) (by omega) (Or.inr rfl) (Or.inl rfl)
     exact this
end Go.Proofs.YthdmmmfgjmmelaaGreat
namespace Go.Proofs.YthdmmmfgjmmelaaGreat
open Go Go.Proofs
set_option linter.unusedVariables false
set_option linter.unusedSimpArgs false
attribute [local irreducible] apK cpK mkK br
def sb (c:Nat) (l:List Pk):List Pk:=bsort wt c l.length l
theorem bsort_fuel {c:Nat} (hc:0 < c):∀ (f g:Nat) (l:List Pk),l.length≤f→l.length≤g→bsort wt c f l=bsort wt c g l:=by
 intro f
 induction f with
 | zero =>
   intro g l h1 h2
   cases g with
   | zero=>rfl
   | succ g=>rw [bsort,bsort,if_pos (by omega)]
 | succ f ih =>
   intro g l h1 h2
   cases g with
   | zero=>rw [bsort,bsort,if_pos (by omega)]
   | succ g =>
     rw [bsort,bsort]
     split
     · rfl
     · rw [ih g (l.drop c) (by rw [List.length_drop]; omega) (by rw [List.length_drop]; omega)]
theorem sb_le {c:Nat} {l:List Pk} (h:l.length≤c):sb c l=qhd wt l:=by
 unfold sb
 cases hl:l.length with
 | zero=>rfl
 | succ f=>rw [bsort,if_pos h]
theorem sb_cut {c:Nat} {l:List Pk} (hc:0 < c) (h:c≤l.length):sb c l=qhd wt (l.take c) ++ sb c (l.drop c):=by
 rcases Nat.eq_or_lt_of_le h with e | e
 · have h2:l.drop c=[]:=List.drop_of_length_le (by omega)
   rw [sb_le (by omega),h2,List.take_of_length_le (by omega),sb_le (by simp)]
   exact (List.append_nil _).symm
 · unfold sb
   cases hl:l.length with
   | zero=>omega
   | succ f =>
     rw [bsort,if_neg (by omega),bsort_fuel hc f (l.drop c).length _ (by rw [List.length_drop]; omega) (Nat.le_refl _)]
section
variable {F0:List Nat} {w0 w:World} {ps rest:List As} {s:Sl}
theorem stable.c {L:List Pk} {K:Ending→World→Prop} (h:St F0 w0 w (qmc 2 s (pks L) :: ps)) (hlen:L.length≤1000000)
 (hk:∀ w',St F0 w0 w' (qmc 2 s (pks (qhd wt L)) :: ps)→K (.returned (.tuple ⟨[]⟩)) w') :
 Calls Tryz.prog 323 ⟨[.slice s.a s.len s.cap,.int .i64 (L.length:Int),.func (.func 285) ⟨[]⟩ ⟨[]⟩]⟩ w K:=by
 refine qnc (qj.ok _ _ _ _ ?_)
 unfold qj qj.j1
 have j3:∀ w,St F0 w0 w (qmc 2 s (pks (sb 20 L)) :: ps)→qj.j3 s (L.length:Int) 20 (fun v w'=>K (.returned v) w') w:=by
  intro w h
  unfold qj.j3
  refine qpg (fun (c:Nat) (b:Int) w'=>b=(c:Int)∧0 < c∧c≤2000000∧St F0 w0 w' (qmc 2 s (pks (sb c L)) :: ps)) (fun c=>L.length - c) 20 ⟨rfl,by decide,by decide,h⟩ ?_
  clear h
  rintro c b wL I μ ⟨rfl,hc0,hc1,h⟩ hin
  unfold qj.b1
  refine qxc (fun g=>?_) (fun g=>?_)
  · unfold qj.j4 qj.j5
    refine qw (show IntKind.i64.wrap (2 * (c:Int))=((0+2 * c:Nat):Int) by rw [qi (by omega) (by omega)]; omega) ?_
    refine qkh (fun (a:List Pk × List Pk) (x y:Int) w'=>x=(a.1.length:Int)∧y=((a.1.length+2 * c:Nat):Int)∧a.1.length+a.2.length=L.length∧a.1 ++ sb (2 * c) a.2=sb (2 * c) L∧St F0 w0 w' (qmc 2 s (pks (a.1 ++ sb c a.2)) :: ps)) (fun a=>a.2.length) ([],L) ⟨rfl,by simp,by simp,rfl,h⟩ ?_
    clear h
    rintro ⟨R,Y⟩ x y w2 I2 μ2 ⟨rfl,rfl,hl,hT,h⟩ hin2
    simp only at hl hT h hin2 ⊢
    unfold qj.b2
    refine qxc (fun g2=>?_) (fun g2=>?_)
    · have hY:2 * c≤Y.length:=by omega
      have l1:(Y.take c).length=c:=by rw [List.length_take]; omega
      have l2:((Y.drop c).take c).length=c:=by rw [List.length_take,List.length_drop]; omega
      have e1:sb c Y=qhd wt (Y.take c) ++ (qhd wt ((Y.drop c).take c) ++ sb c (Y.drop (2 * c))):=by
       rw [sb_cut hc0 (by omega),sb_cut hc0 (l:=Y.drop c) (by rw [List.length_drop]; omega),List.drop_drop,show c+c=2 * c by omega]
      have e2:mrg wt (qhd wt (Y.take c)) (qhd wt ((Y.drop c).take c))=qhd wt (Y.take (2 * c)):=by
       rw [← qgl]
       congr 1
       rw [show 2 * c=c+c by omega,List.take_add]
      rw [e1] at h
      refine qw (show IntKind.i64.wrap ((R.length:Int)+(c:Int))=((R.length+c:Nat):Int) by rw [qi (by omega) (by omega)]; omega) ?_
      have hS:(sb c (Y.drop (2 * c))).length≤1000000→True:=fun _=>trivial
      have hlT:(R ++ qhd wt (Y.take c) ++ qhd wt ((Y.drop c).take c) ++ sb c (Y.drop (2 * c))).length=L.length:=by
       have hsl:∀ (f:Nat) (l:List Pk),(bsort wt c f l).length=l.length:=by
        intro f
        induction f with
        | zero=>intro l; exact qzc l
        | succ f ih =>
          intro l
          rw [bsort]
          split
          · exact qzc l
          · rw [List.length_append,qzc,ih,List.length_take,List.length_drop]; omega
       simp only [List.length_append,qzc,l1,l2]
       unfold sb
       rw [hsl,List.length_drop]; omega
      have hc:=symMerge.c _ (P:=R) (A:=qhd wt (Y.take c)) (B:=qhd wt ((Y.drop c).take c)) (S:=sb c (Y.drop (2 * c))) (s:=s) (F0:=F0) (w0:=w0) (w:=w2) (ps:=ps)
       (K:=fun e w'=>e=.returned (.tuple ⟨[]⟩)∧lt (IntKind.i64.wrap (2 * (c:Int))) fun x9=>lt (IntKind.i64.wrap (((R.length+2 * c:Nat):Int)+x9)) fun x10=>((s=s∧(L.length:Int)=(L.length:Int)∧(c:Int)=(c:Int))∧I2 ((R.length+2 * c:Nat):Int) x10 w'∧μ2 ((R.length+2 * c:Nat):Int) x10 w' < μ2 (R.length:Int) ((R.length+2 * c:Nat):Int) w2)) (Nat.le_refl _) (by simp only [List.append_assoc] at h ⊢; exact h) (qxh _) (qxh _) (by rw [qzc]; omega) (by rw [qzc]; omega) (by rw [hlT]; exact hlen) fun w h=>⟨rfl,?_⟩
      · rw [qzc,qzc,l1,l2,show R.length+c+c=R.length+2 * c by omega] at hc
        exact hc
      · have lR:(R ++ qhd wt (Y.take (2 * c))).length=R.length+2 * c:=by rw [List.length_append,qzc,List.length_take]; omega
        refine qw (qi (by omega) (by omega)) ?_
        refine qw (qi (by omega) (by omega)) ?_
        refine ⟨⟨rfl,rfl,rfl⟩,hin2 (R ++ qhd wt (Y.take (2 * c)),Y.drop (2 * c)) _ _ _ ⟨by rw [lR],by rw [lR]; omega,by rw [lR,List.length_drop]; omega,?_,by rw [← e2]; exact h⟩ (by rw [List.length_drop]; omega)⟩
        rw [← hT,sb_cut (by omega) hY,List.append_assoc]
    · have hY:Y.length < 2 * c:=by omega
      have nx:∀ w,St F0 w0 w (qmc 2 s (pks (R ++ qhd wt Y)) :: ps)→lt (IntKind.i64.wrap ((c:Int) * 2)) fun x4=>((s=s∧(L.length:Int)=(L.length:Int))∧I x4 w∧μ x4 w < μ (c:Int) wL):=by
       intro w h
       refine qw (show IntKind.i64.wrap ((c:Int) * 2)=((2 * c:Nat):Int) by rw [qi (by omega) (by omega)]; omega) ?_
       refine ⟨⟨rfl,rfl⟩,hin (2 * c) _ _ ⟨rfl,by omega,by omega,?_⟩ (by omega)⟩
       rw [← hT,sb_le (by omega)]
       exact h
      unfold qj.j6
      refine qw (show IntKind.i64.wrap ((R.length:Int)+(c:Int))=((R.length+c:Nat):Int) by rw [qi (by omega) (by omega)]; omega) ?_
      refine qxc (fun g3=>?_) (fun g3=>?_)
      · have l1:(Y.take c).length=c:=by rw [List.length_take]; omega
        have l2:(Y.drop c).length=Y.length - c:=List.length_drop
        rw [sb_cut hc0 (by omega),sb_le (l:=Y.drop c) (by omega)] at h
        have e2:mrg wt (qhd wt (Y.take c)) (qhd wt (Y.drop c))=qhd wt Y:=by rw [← qgl,List.take_append_drop]
        have hc:=symMerge.c _ (P:=R) (A:=qhd wt (Y.take c)) (B:=qhd wt (Y.drop c)) (S:=[]) (s:=s) (F0:=F0) (w0:=w0) (w:=w2) (ps:=ps)
         (K:=fun e w'=>e=.returned (.tuple ⟨[]⟩)∧lt (IntKind.i64.wrap ((c:Int) * 2)) fun x4=>((s=s∧(L.length:Int)=(L.length:Int))∧I x4 w'∧μ x4 w' < μ (c:Int) wL)) (Nat.le_refl _) (by simp only [List.append_assoc,List.append_nil] at h ⊢; exact h) (qxh _) (qxh _) (by rw [qzc]; omega) (by rw [qzc]; omega) (by simp only [List.length_append,qzc,List.length_nil]; omega) fun w h=>⟨rfl,nx w (by rw [e2,List.append_nil] at h; exact h)⟩
        rw [qzc,qzc,l1,l2,show R.length+c+(Y.length - c)=L.length by omega] at hc
        exact hc
      · rw [sb_le (by omega)] at h
        exact nx w2 h
  · refine hk wL ?_
    rw [sb_le (by omega)] at h
    exact h
 refine qkh (fun (a:List Pk × List Pk) (x y:Int) w'=>x=(a.1.length:Int)∧y=((a.1.length+20:Nat):Int)∧a.1.length+a.2.length=L.length∧a.1 ++ sb 20 a.2=sb 20 L∧St F0 w0 w' (qmc 2 s (pks (a.1 ++ a.2)) :: ps)) (fun a=>a.2.length) ([],L) ⟨rfl,rfl,by simp,rfl,h⟩ ?_
 clear h
 rintro ⟨R,Y⟩ x y w2 I2 μ2 ⟨rfl,rfl,hl,hT,h⟩ hin2
 simp only at hl hT h hin2 ⊢
 unfold qj.b3
 refine qxc (fun g2=>?_) (fun g2=>?_)
 · have hY:20≤Y.length:=by omega
   have l1:(Y.take 20).length=20:=by rw [List.length_take]; omega
   have l2:(Y.drop 20).length=Y.length - 20:=List.length_drop
   have hc:=insertion.c (P:=R) (X:=Y.take 20) (S:=Y.drop 20) (s:=s) (F0:=F0) (w0:=w0) (w:=w2) (ps:=ps)
    (K:=fun e w'=>e=.returned (.tuple ⟨[]⟩)∧lt (IntKind.i64.wrap (((R.length+20:Nat):Int)+20)) fun x16=>((s=s∧(L.length:Int)=(L.length:Int)∧(20:Int)=20)∧I2 ((R.length+20:Nat):Int) x16 w'∧μ2 ((R.length+20:Nat):Int) x16 w' < μ2 (R.length:Int) ((R.length+20:Nat):Int) w2)) (by rw [List.append_assoc,List.take_append_drop]; exact h) (by simp only [List.length_append,l1,l2]; omega) fun w h=>⟨rfl,?_⟩
   · rw [l1] at hc
     exact hc
   · have lR:(R ++ qhd wt (Y.take 20)).length=R.length+20:=by rw [List.length_append,qzc,l1]
     refine qw (qi (by omega) (by omega)) ?_
     refine ⟨⟨rfl,rfl,rfl⟩,hin2 (R ++ qhd wt (Y.take 20),Y.drop 20) _ _ _ ⟨by rw [lR],by rw [lR]; omega,by rw [lR,l2]; omega,?_,h⟩ (by rw [l2]; omega)⟩
     rw [← hT,sb_cut (by decide) hY,List.append_assoc]
 · unfold qj.j2
   have hc:=insertion.c (P:=R) (X:=Y) (S:=[]) (s:=s) (F0:=F0) (w0:=w0) (w:=w2) (ps:=ps)
    (K:=fun e w'=>e=.returned (.tuple ⟨[]⟩)∧qj.j3 s (L.length:Int) 20 (fun v w'=>K (.returned v) w') w') (by rw [List.append_nil]; exact h) (by simp only [List.length_append,List.length_nil]; omega) fun w h=>⟨rfl,j3 w (by rw [← hT,sb_le (by omega)]; rw [List.append_nil] at h; exact h)⟩
   rw [hl] at hc
   exact hc
theorem SortStable.c {L:List Pk} {K:Ending→World→Prop} (h:St F0 w0 w ps) [PkO s ps 2 (pks L) rest] (hlen:L.length≤1000000)
 (hk:∀ w',St F0 w0 w' (qmc 2 s (pks (qhd wt L)) :: rest)→K (.returned (.tuple ⟨[]⟩)) w') :
 Calls Tryz.prog 284 ⟨[.slice s.a s.len s.cap,.func (.func 285) ⟨[]⟩ ⟨[]⟩]⟩ w K:=by
 have h:=h.toO s
 have hl:=h.len
 rw [qtg] at hl
 refine qnc (qtd.ok _ _ _ ?_)
 unfold qtd
 have hc:=stable.c (K:=fun e w'=>e=.returned (.tuple ⟨[]⟩)∧K (.returned (.tuple ⟨[]⟩)) w') h hlen fun w h=>⟨rfl,hk w h⟩
 rw [show L.length=s.len by omega] at hc
 exact hc
end
end Go.Proofs.YthdmmmfgjmmelaaGreat
namespace Go.Proofs.YthdmmmfgjmmelaaGreat
open Go Go.Proofs
set_option linter.unusedVariables false
set_option maxRecDepth 100000
def quk (n_0:Int) (Q:VWP) (w:World):Prop :=
 br (decide ((n_0:Int) < 0)) (
 Q (.bool true) w) (
 Q (.bool (decide ((n_0:Int) > 16777216))) w)
theorem quk.ok (n_0:Int) (Q:VWP) (w:World) (h:quk n_0 Q w):Calls Tryz.prog 322 ⟨[.int .i64 n_0]⟩ w (Ret Q):=by
 refine qp [.tmp 2] Tryz.func322 rfl rfl rfl rfl ?_
 exact qg qpb _ (Eq.mp (by kernel_rfl) h)
def qxb.j2  (Q:VWP) (w:World):Prop :=
 Q (.int .i64 (-1)) w
def qxb.b1 (s_0:Sl) (t7:Int) (t8:Int) (Q:VWP) (nx1:Sl→Int→Int→World→Prop) (w:World):Prop :=
 br (decide ((t8:Int) < t7)) (
 ixS s_0.a s_0.len t8 1 fun a1 =>
 ldI .i64 w a1 fun x2 =>
 Calls Tryz.prog 322 ⟨[.int .i64 x2]⟩ w fun e3 w4 =>
 ∃ r5:Bool,e3=.returned (.bool r5) ∧
 br r5 (
 Q (.int .i64 t8) w4) (
 lt (IntKind.i64.wrap (t8+1)) fun x6 =>
 nx1 s_0 t7 x6 w4)) (
 qxb.j2 Q w)
def qxb.l1 (s_0:Sl) (t7:Int) (t8:Int) (Q:VWP) (w:World):Prop :=
 ∃ (I:Int→World→Prop) (μ:Int→World→Nat),I t8 w∧∀ t8:Int,∀ w:World,I t8 w→qxb.b1 s_0 t7 t8 Q (fun s_0' t7' t8' w'=>(s_0'=s_0∧t7'=t7)∧I t8' w'∧μ t8' w' < μ t8 w) w
def qxb.j3 (s_0:Sl) (t7:Int) (t8:Int) (Q:VWP) (w:World):Prop :=
 qxb.l1 s_0 t7 t8 Q w
def qxb.j1 (s_0:Sl) (Q:VWP) (w:World):Prop :=
 qxb.j3 s_0 ((s_0.len:Nat):Int) 0 Q w
def qxb (s_0:Sl) (Q:VWP) (w:World):Prop :=
 qxb.j1 s_0 Q w
theorem qxb.ok (s_0:Sl) (Q:VWP) (w:World) (h:qxb s_0 Q w):Calls Tryz.prog 342 ⟨[.slice s_0.a s_0.len s_0.cap,.func (.func 322) ⟨[]⟩ ⟨[]⟩]⟩ w (Ret Q):=by
 refine qp [.tmp 4] Tryz.func342 rfl rfl rfl rfl ?_
 refine qu (fun ρ w=>asL (ρ 0) fun s_0=>qsj 322 (ρ 1) <| qxb.j1 s_0 Q w) ?_ ?_
 · skip
   exact qg qpb _ (Eq.mp (by kernel_rfl) h)
 · intro ρ w h
   obtain ⟨s_0,e0,h⟩:=ql h
   obtain ⟨e1,h⟩:=qmd h
   refine qb e0 (qb (qa e1 rfl) ?_)
   refine qu (fun ρ w=> qxb.j2  Q w) ?_ ?_
   · skip
     refine qu (fun ρ w=>asL (ρ 0) fun s_0=>qsj 322 (ρ 1) <| asI .i64 (ρ 7) fun t7=>asI .i64 (ρ 8) fun t8=>qxb.j3 s_0 t7 t8 Q w) ?_ ?_
     · skip
       exact qg qpb _ (Eq.mp (by kernel_rfl) h)
     · intro ρ w h
       obtain ⟨s_0,e0,h⟩:=ql h
       obtain ⟨e1,h⟩:=qmd h
       obtain ⟨t7,e7,h⟩:=qd h
       obtain ⟨t8,e8,h⟩:=qd h
       refine qb e0 (qb (qa e1 rfl) (qb (qa (qa e7 rfl) rfl) (qb (qa (qa (qa e8 rfl) rfl) rfl) ?_)))
       refine qcb ?_
       obtain ⟨I,μ,hI,hr⟩:=h
       refine qlb (α:=Int) (fun s ρ=>ρ 8=.int .i64 s∧ρ 0=.slice s_0.a s_0.len s_0.cap∧ρ 1=.func (.func 322) ⟨[]⟩ ⟨[]⟩∧ρ 7=.int .i64 t7) (fun s w=>I s w) (fun s w=>μ s w) t8 ⟨rfl,rfl,rfl,rfl⟩ hI ?_
       rintro t8 ρ w ⟨e8,e0,e1,e7⟩ hI
       have h:=hr t8 w hI
       clear hr
       obtain ⟨nx1,hnx⟩:∃ nx:Sl→Int→Int→World→Prop,nx=(fun s_0' t7' t8' w'=>(s_0'=s_0∧t7'=t7)∧I t8' w'∧μ t8' w' < μ t8 w):=⟨_,rfl⟩
       rw [← hnx] at h
       refine qsb (M:=fun ρ w=>asL (ρ 0) fun s_0=>qsj 322 (ρ 1) <| asI .i64 (ρ 7) fun t7=>asI .i64 (ρ 8) fun t8=>nx1 s_0 t7 t8 w) ?_ (fun ρ w h=>?_)
       · skip
         refine qb e0 (qb (qa e1 rfl) (qb (qa (qa e7 rfl) rfl) (qb (qa (qa (qa e8 rfl) rfl) rfl) ?_)))
         exact qg qpb _ (Eq.mp (by kernel_rfl) h)
       · skip
         obtain ⟨s_0',e0',h⟩:=ql h
         obtain ⟨e1',h⟩:=qmd h
         obtain ⟨t7',e7',h⟩:=qd h
         obtain ⟨t8',e8',h⟩:=qd h
         rw [hnx] at h
         obtain ⟨hu,hI2,hμ⟩:=h
         obtain ⟨rfl,rfl⟩:=hu
         exact ⟨t8',⟨e8',e0',e1',e7'⟩,hI2,hμ⟩
   · intro ρ w h
     exact qg qpb _ (Eq.mp (by kernel_rfl) h)
def qdf (s_0:Sl) (Q:VWP) (w:World):Prop :=
 Calls Tryz.prog 342 ⟨[.slice s_0.a s_0.len s_0.cap,.func (.func 322) ⟨[]⟩ ⟨[]⟩]⟩ w fun e1 w2 =>
 ∃ r3:Int,e1=.returned (.int .i64 r3) ∧
 Q (.bool (decide ((r3:Int) ≥ 0))) w2
theorem qdf.ok (s_0:Sl) (Q:VWP) (w:World) (h:qdf s_0 Q w):Calls Tryz.prog 321 ⟨[.slice s_0.a s_0.len s_0.cap,.func (.func 322) ⟨[]⟩ ⟨[]⟩]⟩ w (Ret Q):=by
 refine qp [.tmp 4] Tryz.func321 rfl rfl rfl rfl ?_
 exact qg qpb _ (Eq.mp (by kernel_rfl) h)
def qfk (counts_0:Sl) (Q:VWP) (w:World):Prop :=
 br (decide ((((counts_0.len:Nat):Int):Int) > 288)) (
 Q (.bool true) w) (
 Calls Tryz.prog 321 ⟨[.slice counts_0.a counts_0.len counts_0.cap,.func (.func 322) ⟨[]⟩ ⟨[]⟩]⟩ w fun e1 w2 =>
 ∃ r3:Bool,e1=.returned (.bool r3) ∧
 Q (.bool r3) w2)
theorem qfk.ok (counts_0:Sl) (Q:VWP) (w:World) (h:qfk counts_0 Q w):Calls Tryz.prog 280 ⟨[.slice counts_0.a counts_0.len counts_0.cap]⟩ w (Ret Q):=by
 refine qp [.tmp 2] Tryz.func280 rfl rfl rfl rfl ?_
 exact qg qpb _ (Eq.mp (by kernel_rfl) h)
def qqd.j2 (out_3:Sl) (Q:VWP) (w:World):Prop :=
 Q (.slice out_3.a out_3.len out_3.cap) w
def qqd.b1 (t6:Sl) (t7:Int) (out_3:Sl) (t8:Int) (Q:VWP) (nx1:Sl→Int→Sl→Int→World→Prop) (w:World):Prop :=
 br (decide ((t8:Int) < t7)) (
 ixS t6.a t6.len t8 1 fun a1 =>
 ldI .i64 w a1 fun x2 =>
 br (decide ((x2:Int) > 0)) (
 lt (⟨World.heapSize w,0,none⟩:Addr) fun a3 =>
 lt (World.alloc w (.cells ⟨[.int .i64 t8]⟩ 3)) fun w4 =>
 rdO w4 (some a3) (1 * 1) fun c5 =>
 apK Tryz.prog 3 w4 out_3.a out_3.len out_3.cap 1 c5 fun s6 w7 =>
 lt (IntKind.i64.wrap (t8+1)) fun x8 =>
 nx1 t6 t7 s6 x8 w7) (
 lt (IntKind.i64.wrap (t8+1)) fun x9 =>
 nx1 t6 t7 out_3 x9 w)) (
 qqd.j2 out_3 Q w)
def qqd.l1 (t6:Sl) (t7:Int) (out_3:Sl) (t8:Int) (Q:VWP) (w:World):Prop :=
 ∃ (I:Sl→Int→World→Prop) (μ:Sl→Int→World→Nat),I out_3 t8 w∧∀ out_3:Sl,∀ t8:Int,∀ w:World,I out_3 t8 w→qqd.b1 t6 t7 out_3 t8 Q (fun t6' t7' out_3' t8' w'=>(t6'=t6∧t7'=t7)∧I out_3' t8' w'∧μ out_3' t8' w' < μ out_3 t8 w) w
def qqd.j3 (out_3 t6:Sl) (t7:Int) (t8:Int) (Q:VWP) (w:World):Prop :=
 qqd.l1 t6 t7 out_3 t8 Q w
def qqd.j1 (counts_0 out_3:Sl) (Q:VWP) (w:World):Prop :=
 qqd.j3 out_3 counts_0 ((counts_0.len:Nat):Int) 0 Q w
def qqd (counts_0:Sl) (Q:VWP) (w:World):Prop :=
 qqd.j1 counts_0 ⟨none,0,0⟩ Q w
theorem qqd.ok (counts_0:Sl) (Q:VWP) (w:World) (h:qqd counts_0 Q w):Calls Tryz.prog 281 ⟨[.slice counts_0.a counts_0.len counts_0.cap]⟩ w (Ret Q):=by
 refine qp [.tmp 2] Tryz.func281 rfl rfl rfl rfl ?_
 refine qfb qpb (fun ρ w=>asL (ρ 0) fun counts_0=>asL (ρ 3) fun out_3=>qqd.j1 counts_0 out_3 Q w) (Eq.mp (by kernel_rfl) h) ?_
 intro ρ w h
 obtain ⟨counts_0,e0,h⟩:=ql h
 obtain ⟨out_3,e3,h⟩:=ql h
 refine qb e0 (qb (qa e3 rfl) ?_)
 refine qu (fun ρ w=>asL (ρ 3) fun out_3=>qqd.j2 out_3 Q w) ?_ ?_
 · skip
   refine qu (fun ρ w=>asL (ρ 3) fun out_3=>asL (ρ 6) fun t6=>asI .i64 (ρ 7) fun t7=>asI .i64 (ρ 8) fun t8=>qqd.j3 out_3 t6 t7 t8 Q w) ?_ ?_
   · skip
     exact qg qpb _ (Eq.mp (by kernel_rfl) h)
   · intro ρ w h
     obtain ⟨out_3,e3,h⟩:=ql h
     obtain ⟨t6,e6,h⟩:=ql h
     obtain ⟨t7,e7,h⟩:=qd h
     obtain ⟨t8,e8,h⟩:=qd h
     refine qb e3 (qb (qa e6 rfl) (qb (qa (qa e7 rfl) rfl) (qb (qa (qa (qa e8 rfl) rfl) rfl) ?_)))
     refine qcb ?_
     obtain ⟨I,μ,hI,hr⟩:=h
     refine qlb (α:=Sl × Int) (fun s ρ=>ρ 3=.slice s.1.a s.1.len s.1.cap∧ρ 8=.int .i64 s.2∧ρ 6=.slice t6.a t6.len t6.cap∧ρ 7=.int .i64 t7) (fun s w=>I s.1 s.2 w) (fun s w=>μ s.1 s.2 w) (out_3,t8) ⟨rfl,rfl,rfl,rfl⟩ hI ?_
     rintro ⟨out_3,t8⟩ ρ w ⟨e3,e8,e6,e7⟩ hI
     have h:=hr out_3 t8 w hI
     clear hr
     obtain ⟨nx1,hnx⟩:∃ nx:Sl→Int→Sl→Int→World→Prop,nx=(fun t6' t7' out_3' t8' w'=>(t6'=t6∧t7'=t7)∧I out_3' t8' w'∧μ out_3' t8' w' < μ out_3 t8 w):=⟨_,rfl⟩
     rw [← hnx] at h
     refine qsb (M:=fun ρ w=>asL (ρ 6) fun t6=>asI .i64 (ρ 7) fun t7=>asL (ρ 3) fun out_3=>asI .i64 (ρ 8) fun t8=>nx1 t6 t7 out_3 t8 w) ?_ (fun ρ w h=>?_)
     · skip
       refine qb e3 (qb (qa e6 rfl) (qb (qa (qa e7 rfl) rfl) (qb (qa (qa (qa e8 rfl) rfl) rfl) ?_)))
       exact qg qpb _ (Eq.mp (by kernel_rfl) h)
     · skip
       obtain ⟨t6',e6',h⟩:=ql h
       obtain ⟨t7',e7',h⟩:=qd h
       obtain ⟨out_3',e3',h⟩:=ql h
       obtain ⟨t8',e8',h⟩:=qd h
       rw [hnx] at h
       obtain ⟨hu,hI2,hμ⟩:=h
       obtain ⟨rfl,rfl⟩:=hu
       exact ⟨(out_3',t8'),⟨e3',e8',e6',e7'⟩,hI2,hμ⟩
 · intro ρ w h
   obtain ⟨out_3,e3,h⟩:=ql h
   refine qb e3 ?_
   exact qg qpb _ (Eq.mp (by kernel_rfl) h)
def qfg (s_0:Sl) (n_1:Int) (Q:VWP) (w:World):Prop :=
 br (decide ((n_1:Int) < 0)) (
 False) (
 lt (IntKind.i64.wrap (((s_0.cap:Nat):Int) - ((s_0.len:Nat):Int))) fun x1 =>
 lt (IntKind.i64.wrap (n_1 - x1)) fun x2 =>
 br (decide ((x2:Int) > 0)) (
 bd ((s_0.cap:Nat):Int) s_0.cap fun n3 =>
 lt (⟨qwf s_0.a s_0.cap 0 1,n3 - 0,s_0.cap - 0⟩:Sl) fun s4 =>
 zrK Tryz.prog 3 s4.len x2 fun c5 =>
 apK Tryz.prog 3 w s4.a s4.len s4.cap (Int.toNat x2) c5 fun s6 w7 =>
 bd ((s_0.len:Nat):Int) s6.cap fun n8 =>
 lt (⟨qwf s6.a s6.cap 0 1,n8 - 0,s6.cap - 0⟩:Sl) fun s9 =>
 Q (.slice s9.a s9.len s9.cap) w7) (
 Q (.slice s_0.a s_0.len s_0.cap) w))
theorem qfg.ok (s_0:Sl) (n_1:Int) (Q:VWP) (w:World) (h:qfg s_0 n_1 Q w):Calls Tryz.prog 287 ⟨[.slice s_0.a s_0.len s_0.cap,.int .i64 n_1]⟩ w (Ret Q):=by
 refine qp [.tmp 4] Tryz.func287 rfl rfl rfl rfl ?_
 exact qg qpb _ (Eq.mp (by kernel_rfl) h)
def qdb.j4 (newslice_6:Sl) (Q:VWP) (w:World):Prop :=
 Q (.slice newslice_6.a newslice_6.len newslice_6.cap) w
def qdb.b1 (t25:Sl) (t26:Int) (newslice_6:Sl) (t27:Int) (Q:VWP) (nx1:Sl→Int→Sl→Int→World→Prop) (w:World):Prop :=
 br (decide ((t27:Int) < t26)) (
 ixS t25.a t25.len t27 1 fun a1 =>
 ldL w a1 fun x2 =>
 rdO w x2.a (x2.len * 1) fun c3 =>
 apK Tryz.prog 3 w newslice_6.a newslice_6.len newslice_6.cap x2.len c3 fun s4 w5 =>
 lt (IntKind.i64.wrap (t27+1)) fun x6 =>
 nx1 t25 t26 s4 x6 w5) (
 qdb.j4 newslice_6 Q w)
def qdb.l1 (t25:Sl) (t26:Int) (newslice_6:Sl) (t27:Int) (Q:VWP) (w:World):Prop :=
 ∃ (I:Sl→Int→World→Prop) (μ:Sl→Int→World→Nat),I newslice_6 t27 w∧∀ newslice_6:Sl,∀ t27:Int,∀ w:World,I newslice_6 t27 w→qdb.b1 t25 t26 newslice_6 t27 Q (fun t25' t26' newslice_6' t27' w'=>(t25'=t25∧t26'=t26)∧I newslice_6' t27' w'∧μ newslice_6' t27' w' < μ newslice_6 t27 w) w
def qdb.j5 (newslice_6 t25:Sl) (t26:Int) (t27:Int) (Q:VWP) (w:World):Prop :=
 qdb.l1 t25 t26 newslice_6 t27 Q w
def qdb.j3 (slices_0 newslice_6:Sl) (Q:VWP) (w:World):Prop :=
 qdb.j5 newslice_6 slices_0 ((slices_0.len:Nat):Int) 0 Q w
def qdb.j2 (slices_0:Sl) (size_3:Int) (Q:VWP) (w:World):Prop :=
 Calls Tryz.prog 287 ⟨[.slice none 0 0,.int .i64 size_3]⟩ w fun e7 w8 =>
 ∃ r9:Sl,e7=.returned (.slice r9.a r9.len r9.cap) ∧
 qdb.j3 slices_0 r9 Q w8
def qdb.b2 (slices_0 t9:Sl) (t10:Int) (size_3 t11:Int) (Q:VWP) (nx2:Sl→Sl→Int→Int→Int→World→Prop) (w:World):Prop :=
 br (decide ((t11:Int) < t10)) (
 ixS t9.a t9.len t11 1 fun a10 =>
 ldL w a10 fun x11 =>
 lt (IntKind.i64.wrap (size_3+((x11.len:Nat):Int))) fun x12 =>
 br (decide ((x12:Int) < 0)) (
 False) (
 lt (IntKind.i64.wrap (t11+1)) fun x13 =>
 nx2 slices_0 t9 t10 x12 x13 w)) (
 qdb.j2 slices_0 size_3 Q w)
def qdb.l2 (slices_0 t9:Sl) (t10:Int) (size_3 t11:Int) (Q:VWP) (w:World):Prop :=
 ∃ (I:Int→Int→World→Prop) (μ:Int→Int→World→Nat),I size_3 t11 w∧∀ size_3:Int,∀ t11:Int,∀ w:World,I size_3 t11 w→qdb.b2 slices_0 t9 t10 size_3 t11 Q (fun slices_0' t9' t10' size_3' t11' w'=>(slices_0'=slices_0∧t9'=t9∧t10'=t10)∧I size_3' t11' w'∧μ size_3' t11' w' < μ size_3 t11 w) w
def qdb.j6 (slices_0:Sl) (size_3:Int) (t9:Sl) (t10:Int) (t11:Int) (Q:VWP) (w:World):Prop :=
 qdb.l2 slices_0 t9 t10 size_3 t11 Q w
def qdb.j1 (slices_0:Sl) (size_3:Int) (Q:VWP) (w:World):Prop :=
 qdb.j6 slices_0 size_3 slices_0 ((slices_0.len:Nat):Int) 0 Q w
def qdb (slices_0:Sl) (Q:VWP) (w:World):Prop :=
 qdb.j1 slices_0 0 Q w
theorem qdb.ok (slices_0:Sl) (Q:VWP) (w:World) (h:qdb slices_0 Q w):Calls Tryz.prog 213 ⟨[.slice slices_0.a slices_0.len slices_0.cap]⟩ w (Ret Q):=by
 refine qp [.tmp 2] Tryz.func213 rfl rfl rfl rfl ?_
 refine qfb qpb (fun ρ w=>asL (ρ 0) fun slices_0=>asI .i64 (ρ 3) fun size_3=>qdb.j1 slices_0 size_3 Q w) (Eq.mp (by kernel_rfl) h) ?_
 intro ρ w h
 obtain ⟨slices_0,e0,h⟩:=ql h
 obtain ⟨size_3,e3,h⟩:=qd h
 refine qb e0 (qb (qa e3 rfl) ?_)
 refine qu (fun ρ w=>asL (ρ 0) fun slices_0=>asI .i64 (ρ 3) fun size_3=>qdb.j2 slices_0 size_3 Q w) ?_ ?_
 · skip
   refine qu (fun ρ w=>asL (ρ 0) fun slices_0=>asI .i64 (ρ 3) fun size_3=>asL (ρ 9) fun t9=>asI .i64 (ρ 10) fun t10=>asI .i64 (ρ 11) fun t11=>qdb.j6 slices_0 size_3 t9 t10 t11 Q w) ?_ ?_
   · skip
     exact qg qpb _ (Eq.mp (by kernel_rfl) h)
   · intro ρ w h
     obtain ⟨slices_0,e0,h⟩:=ql h
     obtain ⟨size_3,e3,h⟩:=qd h
     obtain ⟨t9,e9,h⟩:=ql h
     obtain ⟨t10,e10,h⟩:=qd h
     obtain ⟨t11,e11,h⟩:=qd h
     refine qb e0 (qb (qa e3 rfl) (qb (qa (qa e9 rfl) rfl) (qb (qa (qa (qa e10 rfl) rfl) rfl) (qb (qa (qa (qa (qa e11 rfl) rfl) rfl) rfl) ?_))))
     refine qcb ?_
     obtain ⟨I,μ,hI,hr⟩:=h
     refine qlb (α:=Int × Int) (fun s ρ=>ρ 3=.int .i64 s.1∧ρ 11=.int .i64 s.2∧ρ 0=.slice slices_0.a slices_0.len slices_0.cap∧ρ 9=.slice t9.a t9.len t9.cap∧ρ 10=.int .i64 t10) (fun s w=>I s.1 s.2 w) (fun s w=>μ s.1 s.2 w) (size_3,t11) ⟨rfl,rfl,rfl,rfl,rfl⟩ hI ?_
     rintro ⟨size_3,t11⟩ ρ w ⟨e3,e11,e0,e9,e10⟩ hI
     have h:=hr size_3 t11 w hI
     clear hr
     obtain ⟨nx2,hnx⟩:∃ nx:Sl→Sl→Int→Int→Int→World→Prop,nx=(fun slices_0' t9' t10' size_3' t11' w'=>(slices_0'=slices_0∧t9'=t9∧t10'=t10)∧I size_3' t11' w'∧μ size_3' t11' w' < μ size_3 t11 w):=⟨_,rfl⟩
     rw [← hnx] at h
     refine qsb (M:=fun ρ w=>asL (ρ 0) fun slices_0=>asL (ρ 9) fun t9=>asI .i64 (ρ 10) fun t10=>asI .i64 (ρ 3) fun size_3=>asI .i64 (ρ 11) fun t11=>nx2 slices_0 t9 t10 size_3 t11 w) ?_ (fun ρ w h=>?_)
     · skip
       refine qb e0 (qb (qa e3 rfl) (qb (qa (qa e9 rfl) rfl) (qb (qa (qa (qa e10 rfl) rfl) rfl) (qb (qa (qa (qa (qa e11 rfl) rfl) rfl) rfl) ?_))))
       exact qg qpb _ (Eq.mp (by kernel_rfl) h)
     · skip
       obtain ⟨slices_0',e0',h⟩:=ql h
       obtain ⟨t9',e9',h⟩:=ql h
       obtain ⟨t10',e10',h⟩:=qd h
       obtain ⟨size_3',e3',h⟩:=qd h
       obtain ⟨t11',e11',h⟩:=qd h
       rw [hnx] at h
       obtain ⟨hu,hI2,hμ⟩:=h
       obtain ⟨rfl,rfl,rfl⟩:=hu
       exact ⟨(size_3',t11'),⟨e3',e11',e0',e9',e10'⟩,hI2,hμ⟩
 · intro ρ w h
   obtain ⟨slices_0,e0,h⟩:=ql h
   obtain ⟨size_3,e3,h⟩:=qd h
   refine qb e0 (qb (qa e3 rfl) ?_)
   refine qu (fun ρ w=>asL (ρ 0) fun slices_0=>asL (ρ 6) fun newslice_6=>qdb.j3 slices_0 newslice_6 Q w) ?_ ?_
   · skip
     exact qg qpb _ (Eq.mp (by kernel_rfl) h)
   · intro ρ w h
     obtain ⟨slices_0,e0,h⟩:=ql h
     obtain ⟨newslice_6,e6,h⟩:=ql h
     refine qb e0 (qb (qa e6 rfl) ?_)
     refine qu (fun ρ w=>asL (ρ 6) fun newslice_6=>qdb.j4 newslice_6 Q w) ?_ ?_
     · skip
       refine qu (fun ρ w=>asL (ρ 6) fun newslice_6=>asL (ρ 25) fun t25=>asI .i64 (ρ 26) fun t26=>asI .i64 (ρ 27) fun t27=>qdb.j5 newslice_6 t25 t26 t27 Q w) ?_ ?_
       · skip
         exact qg qpb _ (Eq.mp (by kernel_rfl) h)
       · intro ρ w h
         obtain ⟨newslice_6,e6,h⟩:=ql h
         obtain ⟨t25,e25,h⟩:=ql h
         obtain ⟨t26,e26,h⟩:=qd h
         obtain ⟨t27,e27,h⟩:=qd h
         refine qb e6 (qb (qa e25 rfl) (qb (qa (qa e26 rfl) rfl) (qb (qa (qa (qa e27 rfl) rfl) rfl) ?_)))
         refine qcb ?_
         obtain ⟨I,μ,hI,hr⟩:=h
         refine qlb (α:=Sl × Int) (fun s ρ=>ρ 6=.slice s.1.a s.1.len s.1.cap∧ρ 27=.int .i64 s.2∧ρ 25=.slice t25.a t25.len t25.cap∧ρ 26=.int .i64 t26) (fun s w=>I s.1 s.2 w) (fun s w=>μ s.1 s.2 w) (newslice_6,t27) ⟨rfl,rfl,rfl,rfl⟩ hI ?_
         rintro ⟨newslice_6,t27⟩ ρ w ⟨e6,e27,e25,e26⟩ hI
         have h:=hr newslice_6 t27 w hI
         clear hr
         obtain ⟨nx1,hnx⟩:∃ nx:Sl→Int→Sl→Int→World→Prop,nx=(fun t25' t26' newslice_6' t27' w'=>(t25'=t25∧t26'=t26)∧I newslice_6' t27' w'∧μ newslice_6' t27' w' < μ newslice_6 t27 w):=⟨_,rfl⟩
         rw [← hnx] at h
         refine qsb (M:=fun ρ w=>asL (ρ 25) fun t25=>asI .i64 (ρ 26) fun t26=>asL (ρ 6) fun newslice_6=>asI .i64 (ρ 27) fun t27=>nx1 t25 t26 newslice_6 t27 w) ?_ (fun ρ w h=>?_)
         · skip
           refine qb e6 (qb (qa e25 rfl) (qb (qa (qa e26 rfl) rfl) (qb (qa (qa (qa e27 rfl) rfl) rfl) ?_)))
           exact qg qpb _ (Eq.mp (by kernel_rfl) h)
         · skip
           obtain ⟨t25',e25',h⟩:=ql h
           obtain ⟨t26',e26',h⟩:=qd h
           obtain ⟨newslice_6',e6',h⟩:=ql h
           obtain ⟨t27',e27',h⟩:=qd h
           rw [hnx] at h
           obtain ⟨hu,hI2,hμ⟩:=h
           obtain ⟨rfl,rfl⟩:=hu
           exact ⟨(newslice_6',t27'),⟨e6',e27',e25',e26'⟩,hI2,hμ⟩
     · intro ρ w h
       obtain ⟨newslice_6,e6,h⟩:=ql h
       refine qb e6 ?_
       exact qg qpb _ (Eq.mp (by kernel_rfl) h)
def qed.j2 (out_3:Sl) (Q:VWP) (w:World):Prop :=
 Q (.slice out_3.a out_3.len out_3.cap) w
def qed.b1 (l_0 out_3:Sl) (i_4:Int) (Q:VWP) (nx1:Sl→Sl→Int→World→Prop) (w:World):Prop :=
 br (decide ((i_4:Int) < ((l_0.len:Nat):Int))) (
 lt (World.drew w) fun w1 =>
 lt (IntKind.i64.wrap (i_4 - 1)) fun x2 =>
 ixS l_0.a l_0.len x2 2 fun a3 =>
 ixS l_0.a l_0.len i_4 2 fun a4 =>
 lt (IntKind.i64.wrap (i_4 - 1)) fun x5 =>
 ixS l_0.a l_0.len x5 2 fun a6 =>
 ldL w1 (Addr.add a6 1) fun x7 =>
 ixS l_0.a l_0.len i_4 2 fun a8 =>
 ldL w1 (Addr.add a8 1) fun x9 =>
 (ldI .i64 w1 (Addr.add a3 0) fun x10 =>
 (ldI .i64 w1 (Addr.add a4 0) fun x11 =>
 lt (IntKind.i64.wrap (x10+x11)) fun x12 =>
 lt (⟨World.heapSize w1,0,none⟩:Addr) fun a13 =>
 lt (World.alloc w1 (.cells ⟨[.slice x7.a x7.len x7.cap,.slice x9.a x9.len x9.cap]⟩ 88)) fun w14 =>
 Calls Tryz.prog 213 ⟨[.slice (some a13) 2 2]⟩ w14 fun e15 w16 =>
 ∃ r17:Sl,e15=.returned (.slice r17.a r17.len r17.cap) ∧
 ((⟨[.int .i64 x12,.slice r17.a r17.len r17.cap]⟩:Array Value)).size=2 ∧
 lt (⟨World.heapSize w16,0,none⟩:Addr) fun a18 =>
 lt (World.alloc w16 (.cells ⟨(spl [.int .i64 0,.slice none 0 0] 0 (⟨[.int .i64 x12,.slice r17.a r17.len r17.cap]⟩:Array Value))⟩ 396)) fun w19 =>
 rdO w19 (some a18) (1 * 2) fun c20 =>
 apK Tryz.prog 396 w19 out_3.a out_3.len out_3.cap 1 c20 fun s21 w22 =>
 lt (IntKind.i64.wrap (i_4+2)) fun x23 =>
 nx1 l_0 s21 x23 w22)∧(
 lt (⟨World.heapSize w1,0,none⟩:Addr) fun a24 =>
 lt (World.alloc w1 (.cells ⟨[.slice x7.a x7.len x7.cap,.slice x9.a x9.len x9.cap]⟩ 88)) fun w25 =>
 (ldI .i64 w25 (Addr.add a4 0) fun x26 =>
 lt (IntKind.i64.wrap (x10+x26)) fun x27 =>
 Calls Tryz.prog 213 ⟨[.slice (some a24) 2 2]⟩ w25 fun e28 w29 =>
 ∃ r30:Sl,e28=.returned (.slice r30.a r30.len r30.cap) ∧
 ((⟨[.int .i64 x27,.slice r30.a r30.len r30.cap]⟩:Array Value)).size=2 ∧
 lt (⟨World.heapSize w29,0,none⟩:Addr) fun a31 =>
 lt (World.alloc w29 (.cells ⟨(spl [.int .i64 0,.slice none 0 0] 0 (⟨[.int .i64 x27,.slice r30.a r30.len r30.cap]⟩:Array Value))⟩ 396)) fun w32 =>
 rdO w32 (some a31) (1 * 2) fun c33 =>
 apK Tryz.prog 396 w32 out_3.a out_3.len out_3.cap 1 c33 fun s34 w35 =>
 lt (IntKind.i64.wrap (i_4+2)) fun x36 =>
 nx1 l_0 s34 x36 w35)∧(
 Calls Tryz.prog 213 ⟨[.slice (some a24) 2 2]⟩ w25 fun e37 w38 =>
 ∃ r39:Sl,e37=.returned (.slice r39.a r39.len r39.cap) ∧
 ldI .i64 w38 (Addr.add a4 0) fun x40 =>
 lt (IntKind.i64.wrap (x10+x40)) fun x41 =>
 ((⟨[.int .i64 x41,.slice r39.a r39.len r39.cap]⟩:Array Value)).size=2 ∧
 lt (⟨World.heapSize w38,0,none⟩:Addr) fun a42 =>
 lt (World.alloc w38 (.cells ⟨(spl [.int .i64 0,.slice none 0 0] 0 (⟨[.int .i64 x41,.slice r39.a r39.len r39.cap]⟩:Array Value))⟩ 396)) fun w43 =>
 rdO w43 (some a42) (1 * 2) fun c44 =>
 apK Tryz.prog 396 w43 out_3.a out_3.len out_3.cap 1 c44 fun s45 w46 =>
 lt (IntKind.i64.wrap (i_4+2)) fun x47 =>
 nx1 l_0 s45 x47 w46)))∧(
 ldI .i64 w1 (Addr.add a4 0) fun x48 =>
 (ldI .i64 w1 (Addr.add a3 0) fun x49 =>
 lt (IntKind.i64.wrap (x49+x48)) fun x50 =>
 lt (⟨World.heapSize w1,0,none⟩:Addr) fun a51 =>
 lt (World.alloc w1 (.cells ⟨[.slice x7.a x7.len x7.cap,.slice x9.a x9.len x9.cap]⟩ 88)) fun w52 =>
 Calls Tryz.prog 213 ⟨[.slice (some a51) 2 2]⟩ w52 fun e53 w54 =>
 ∃ r55:Sl,e53=.returned (.slice r55.a r55.len r55.cap) ∧
 ((⟨[.int .i64 x50,.slice r55.a r55.len r55.cap]⟩:Array Value)).size=2 ∧
 lt (⟨World.heapSize w54,0,none⟩:Addr) fun a56 =>
 lt (World.alloc w54 (.cells ⟨(spl [.int .i64 0,.slice none 0 0] 0 (⟨[.int .i64 x50,.slice r55.a r55.len r55.cap]⟩:Array Value))⟩ 396)) fun w57 =>
 rdO w57 (some a56) (1 * 2) fun c58 =>
 apK Tryz.prog 396 w57 out_3.a out_3.len out_3.cap 1 c58 fun s59 w60 =>
 lt (IntKind.i64.wrap (i_4+2)) fun x61 =>
 nx1 l_0 s59 x61 w60)∧(
 lt (⟨World.heapSize w1,0,none⟩:Addr) fun a62 =>
 lt (World.alloc w1 (.cells ⟨[.slice x7.a x7.len x7.cap,.slice x9.a x9.len x9.cap]⟩ 88)) fun w63 =>
 (ldI .i64 w63 (Addr.add a3 0) fun x64 =>
 lt (IntKind.i64.wrap (x64+x48)) fun x65 =>
 Calls Tryz.prog 213 ⟨[.slice (some a62) 2 2]⟩ w63 fun e66 w67 =>
 ∃ r68:Sl,e66=.returned (.slice r68.a r68.len r68.cap) ∧
 ((⟨[.int .i64 x65,.slice r68.a r68.len r68.cap]⟩:Array Value)).size=2 ∧
 lt (⟨World.heapSize w67,0,none⟩:Addr) fun a69 =>
 lt (World.alloc w67 (.cells ⟨(spl [.int .i64 0,.slice none 0 0] 0 (⟨[.int .i64 x65,.slice r68.a r68.len r68.cap]⟩:Array Value))⟩ 396)) fun w70 =>
 rdO w70 (some a69) (1 * 2) fun c71 =>
 apK Tryz.prog 396 w70 out_3.a out_3.len out_3.cap 1 c71 fun s72 w73 =>
 lt (IntKind.i64.wrap (i_4+2)) fun x74 =>
 nx1 l_0 s72 x74 w73)∧(
 Calls Tryz.prog 213 ⟨[.slice (some a62) 2 2]⟩ w63 fun e75 w76 =>
 ∃ r77:Sl,e75=.returned (.slice r77.a r77.len r77.cap) ∧
 ldI .i64 w76 (Addr.add a3 0) fun x78 =>
 lt (IntKind.i64.wrap (x78+x48)) fun x79 =>
 ((⟨[.int .i64 x79,.slice r77.a r77.len r77.cap]⟩:Array Value)).size=2 ∧
 lt (⟨World.heapSize w76,0,none⟩:Addr) fun a80 =>
 lt (World.alloc w76 (.cells ⟨(spl [.int .i64 0,.slice none 0 0] 0 (⟨[.int .i64 x79,.slice r77.a r77.len r77.cap]⟩:Array Value))⟩ 396)) fun w81 =>
 rdO w81 (some a80) (1 * 2) fun c82 =>
 apK Tryz.prog 396 w81 out_3.a out_3.len out_3.cap 1 c82 fun s83 w84 =>
 lt (IntKind.i64.wrap (i_4+2)) fun x85 =>
 nx1 l_0 s83 x85 w84)))∧(
 lt (⟨World.heapSize w1,0,none⟩:Addr) fun a86 =>
 lt (World.alloc w1 (.cells ⟨[.slice x7.a x7.len x7.cap,.slice x9.a x9.len x9.cap]⟩ 88)) fun w87 =>
 (ldI .i64 w87 (Addr.add a3 0) fun x88 =>
 (ldI .i64 w87 (Addr.add a4 0) fun x89 =>
 lt (IntKind.i64.wrap (x88+x89)) fun x90 =>
 Calls Tryz.prog 213 ⟨[.slice (some a86) 2 2]⟩ w87 fun e91 w92 =>
 ∃ r93:Sl,e91=.returned (.slice r93.a r93.len r93.cap) ∧
 ((⟨[.int .i64 x90,.slice r93.a r93.len r93.cap]⟩:Array Value)).size=2 ∧
 lt (⟨World.heapSize w92,0,none⟩:Addr) fun a94 =>
 lt (World.alloc w92 (.cells ⟨(spl [.int .i64 0,.slice none 0 0] 0 (⟨[.int .i64 x90,.slice r93.a r93.len r93.cap]⟩:Array Value))⟩ 396)) fun w95 =>
 rdO w95 (some a94) (1 * 2) fun c96 =>
 apK Tryz.prog 396 w95 out_3.a out_3.len out_3.cap 1 c96 fun s97 w98 =>
 lt (IntKind.i64.wrap (i_4+2)) fun x99 =>
 nx1 l_0 s97 x99 w98)∧(
 Calls Tryz.prog 213 ⟨[.slice (some a86) 2 2]⟩ w87 fun e100 w101 =>
 ∃ r102:Sl,e100=.returned (.slice r102.a r102.len r102.cap) ∧
 ldI .i64 w101 (Addr.add a4 0) fun x103 =>
 lt (IntKind.i64.wrap (x88+x103)) fun x104 =>
 ((⟨[.int .i64 x104,.slice r102.a r102.len r102.cap]⟩:Array Value)).size=2 ∧
 lt (⟨World.heapSize w101,0,none⟩:Addr) fun a105 =>
 lt (World.alloc w101 (.cells ⟨(spl [.int .i64 0,.slice none 0 0] 0 (⟨[.int .i64 x104,.slice r102.a r102.len r102.cap]⟩:Array Value))⟩ 396)) fun w106 =>
 rdO w106 (some a105) (1 * 2) fun c107 =>
 apK Tryz.prog 396 w106 out_3.a out_3.len out_3.cap 1 c107 fun s108 w109 =>
 lt (IntKind.i64.wrap (i_4+2)) fun x110 =>
 nx1 l_0 s108 x110 w109))∧(
 ldI .i64 w87 (Addr.add a4 0) fun x111 =>
 (ldI .i64 w87 (Addr.add a3 0) fun x112 =>
 lt (IntKind.i64.wrap (x112+x111)) fun x113 =>
 Calls Tryz.prog 213 ⟨[.slice (some a86) 2 2]⟩ w87 fun e114 w115 =>
 ∃ r116:Sl,e114=.returned (.slice r116.a r116.len r116.cap) ∧
 ((⟨[.int .i64 x113,.slice r116.a r116.len r116.cap]⟩:Array Value)).size=2 ∧
 lt (⟨World.heapSize w115,0,none⟩:Addr) fun a117 =>
 lt (World.alloc w115 (.cells ⟨(spl [.int .i64 0,.slice none 0 0] 0 (⟨[.int .i64 x113,.slice r116.a r116.len r116.cap]⟩:Array Value))⟩ 396)) fun w118 =>
 rdO w118 (some a117) (1 * 2) fun c119 =>
 apK Tryz.prog 396 w118 out_3.a out_3.len out_3.cap 1 c119 fun s120 w121 =>
 lt (IntKind.i64.wrap (i_4+2)) fun x122 =>
 nx1 l_0 s120 x122 w121)∧(
 Calls Tryz.prog 213 ⟨[.slice (some a86) 2 2]⟩ w87 fun e123 w124 =>
 ∃ r125:Sl,e123=.returned (.slice r125.a r125.len r125.cap) ∧
 ldI .i64 w124 (Addr.add a3 0) fun x126 =>
 lt (IntKind.i64.wrap (x126+x111)) fun x127 =>
 ((⟨[.int .i64 x127,.slice r125.a r125.len r125.cap]⟩:Array Value)).size=2 ∧
 lt (⟨World.heapSize w124,0,none⟩:Addr) fun a128 =>
 lt (World.alloc w124 (.cells ⟨(spl [.int .i64 0,.slice none 0 0] 0 (⟨[.int .i64 x127,.slice r125.a r125.len r125.cap]⟩:Array Value))⟩ 396)) fun w129 =>
 rdO w129 (some a128) (1 * 2) fun c130 =>
 apK Tryz.prog 396 w129 out_3.a out_3.len out_3.cap 1 c130 fun s131 w132 =>
 lt (IntKind.i64.wrap (i_4+2)) fun x133 =>
 nx1 l_0 s131 x133 w132))∧(
 Calls Tryz.prog 213 ⟨[.slice (some a86) 2 2]⟩ w87 fun e134 w135 =>
 ∃ r136:Sl,e134=.returned (.slice r136.a r136.len r136.cap) ∧
 (ldI .i64 w135 (Addr.add a3 0) fun x137 =>
 ldI .i64 w135 (Addr.add a4 0) fun x138 =>
 lt (IntKind.i64.wrap (x137+x138)) fun x139 =>
 ((⟨[.int .i64 x139,.slice r136.a r136.len r136.cap]⟩:Array Value)).size=2 ∧
 lt (⟨World.heapSize w135,0,none⟩:Addr) fun a140 =>
 lt (World.alloc w135 (.cells ⟨(spl [.int .i64 0,.slice none 0 0] 0 (⟨[.int .i64 x139,.slice r136.a r136.len r136.cap]⟩:Array Value))⟩ 396)) fun w141 =>
 rdO w141 (some a140) (1 * 2) fun c142 =>
 apK Tryz.prog 396 w141 out_3.a out_3.len out_3.cap 1 c142 fun s143 w144 =>
 lt (IntKind.i64.wrap (i_4+2)) fun x145 =>
 nx1 l_0 s143 x145 w144)∧(
 ldI .i64 w135 (Addr.add a4 0) fun x146 =>
 ldI .i64 w135 (Addr.add a3 0) fun x147 =>
 lt (IntKind.i64.wrap (x147+x146)) fun x148 =>
 ((⟨[.int .i64 x148,.slice r136.a r136.len r136.cap]⟩:Array Value)).size=2 ∧
 lt (⟨World.heapSize w135,0,none⟩:Addr) fun a149 =>
 lt (World.alloc w135 (.cells ⟨(spl [.int .i64 0,.slice none 0 0] 0 (⟨[.int .i64 x148,.slice r136.a r136.len r136.cap]⟩:Array Value))⟩ 396)) fun w150 =>
 rdO w150 (some a149) (1 * 2) fun c151 =>
 apK Tryz.prog 396 w150 out_3.a out_3.len out_3.cap 1 c151 fun s152 w153 =>
 lt (IntKind.i64.wrap (i_4+2)) fun x154 =>
 nx1 l_0 s152 x154 w153)))) (
 qed.j2 out_3 Q w)
def qed.l1 (l_0 out_3:Sl) (i_4:Int) (Q:VWP) (w:World):Prop :=
 ∃ (I:Sl→Int→World→Prop) (μ:Sl→Int→World→Nat),I out_3 i_4 w∧∀ out_3:Sl,∀ i_4:Int,∀ w:World,I out_3 i_4 w→qed.b1 l_0 out_3 i_4 Q (fun l_0' out_3' i_4' w'=>(l_0'=l_0)∧I out_3' i_4' w'∧μ out_3' i_4' w' < μ out_3 i_4 w) w
def qed.j3 (l_0 out_3:Sl) (i_4:Int) (Q:VWP) (w:World):Prop :=
 qed.l1 l_0 out_3 i_4 Q w
def qed.j1 (l_0 out_3:Sl) (Q:VWP) (w:World):Prop :=
 qed.j3 l_0 out_3 1 Q w
def qed (l_0:Sl) (Q:VWP) (w:World):Prop :=
 qed.j1 l_0 ⟨none,0,0⟩ Q w
theorem qed.ok (l_0:Sl) (Q:VWP) (w:World) (h:qed l_0 Q w):Calls Tryz.prog 283 ⟨[.slice l_0.a l_0.len l_0.cap]⟩ w (Ret Q):=by
 refine qp [.tmp 2] Tryz.func283 rfl rfl rfl rfl ?_
 refine qfb qpb (fun ρ w=>asL (ρ 0) fun l_0=>asL (ρ 3) fun out_3=>qed.j1 l_0 out_3 Q w) (Eq.mp (by kernel_rfl) h) ?_
 intro ρ w h
 obtain ⟨l_0,e0,h⟩:=ql h
 obtain ⟨out_3,e3,h⟩:=ql h
 refine qb e0 (qb (qa e3 rfl) ?_)
 refine qu (fun ρ w=>asL (ρ 3) fun out_3=>qed.j2 out_3 Q w) ?_ ?_
 · skip
   refine qu (fun ρ w=>asL (ρ 0) fun l_0=>asL (ρ 3) fun out_3=>asI .i64 (ρ 4) fun i_4=>qed.j3 l_0 out_3 i_4 Q w) ?_ ?_
   · skip
     exact qg qpb _ (Eq.mp (by kernel_rfl) h)
   · intro ρ w h
     obtain ⟨l_0,e0,h⟩:=ql h
     obtain ⟨out_3,e3,h⟩:=ql h
     obtain ⟨i_4,e4,h⟩:=qd h
     refine qb e0 (qb (qa e3 rfl) (qb (qa (qa e4 rfl) rfl) ?_))
     refine qcb ?_
     obtain ⟨I,μ,hI,hr⟩:=h
     refine qlb (α:=Sl × Int) (fun s ρ=>ρ 3=.slice s.1.a s.1.len s.1.cap∧ρ 4=.int .i64 s.2∧ρ 0=.slice l_0.a l_0.len l_0.cap) (fun s w=>I s.1 s.2 w) (fun s w=>μ s.1 s.2 w) (out_3,i_4) ⟨rfl,rfl,rfl⟩ hI ?_
     rintro ⟨out_3,i_4⟩ ρ w ⟨e3,e4,e0⟩ hI
     have h:=hr out_3 i_4 w hI
     clear hr
     obtain ⟨nx1,hnx⟩:∃ nx:Sl→Sl→Int→World→Prop,nx=(fun l_0' out_3' i_4' w'=>(l_0'=l_0)∧I out_3' i_4' w'∧μ out_3' i_4' w' < μ out_3 i_4 w):=⟨_,rfl⟩
     rw [← hnx] at h
     refine qsb (M:=fun ρ w=>asL (ρ 0) fun l_0=>asL (ρ 3) fun out_3=>asI .i64 (ρ 4) fun i_4=>nx1 l_0 out_3 i_4 w) ?_ (fun ρ w h=>?_)
     · skip
       refine qb e0 (qb (qa e3 rfl) (qb (qa (qa e4 rfl) rfl) ?_))
       exact qg qpb _ (Eq.mp (by kernel_rfl) h)
     · skip
       obtain ⟨l_0',e0',h⟩:=ql h
       obtain ⟨out_3',e3',h⟩:=ql h
       obtain ⟨i_4',e4',h⟩:=qd h
       rw [hnx] at h
       obtain ⟨hu,hI2,hμ⟩:=h
       obtain rfl:=hu
       exact ⟨(out_3',i_4'),⟨e3',e4',e0'⟩,hI2,hμ⟩
 · intro ρ w h
   obtain ⟨out_3,e3,h⟩:=ql h
   refine qb e3 ?_
   exact qg qpb _ (Eq.mp (by kernel_rfl) h)
def qef (s_0:Sl) (Q:VWP) (w:World):Prop :=
 br (Option.isNone s_0.a) (
 Q (.slice none 0 0) w) (
 lt (⟨World.heapSize w,0,none⟩:Addr) fun a1 =>
 lt (World.alloc w (.cells ⟨[]⟩ 396)) fun w2 =>
 rdO w2 s_0.a (s_0.len * 2) fun c3 =>
 apK Tryz.prog 396 w2 (some a1) 0 0 s_0.len c3 fun s4 w5 =>
 Q (.slice s4.a s4.len s4.cap) w5)
theorem qef.ok (s_0:Sl) (Q:VWP) (w:World) (h:qef s_0 Q w):Calls Tryz.prog 282 ⟨[.slice s_0.a s_0.len s_0.cap]⟩ w (Ret Q):=by
 refine qp [.tmp 2] Tryz.func282 rfl rfl rfl rfl ?_
 exact qg qpb _ (Eq.mp (by kernel_rfl) h)
def qt.j6 (t7:Sl) (Q:VWP) (w:World):Prop :=
 Q (.tuple ⟨[.slice t7.a t7.len t7.cap,.int .i64 0]⟩) w
def qt.j9 (t7 t85:Sl) (t86:Int) (t87:Int) (Q:VWP) (nx1:Sl→Sl→Int→Int→World→Prop) (w:World):Prop :=
 lt (IntKind.i64.wrap (t87+1)) fun x1 =>
 nx1 t7 t85 t86 x1 w
def qt.b2 (t7 t85:Sl) (t86:Int) (t87:Int) (t92:Sl) (t93 t94:Int) (Q:VWP) (nx1:Sl→Sl→Int→Int→World→Prop) (nx2:Sl→Sl→Int→Int→Sl→Int→Int→World→Prop) (w:World):Prop :=
 br (decide ((t94:Int) < t93)) (
 ixS t92.a t92.len t94 1 fun a2 =>
 ldI .i64 w a2 fun x3 =>
 ixS t7.a t7.len x3 1 fun a4 =>
 ldI .i64 w a4 fun x5 =>
 lt (IntKind.i64.wrap (x5+1)) fun x6 =>
 ixS t7.a t7.len x3 1 fun a7 =>
 st w a7 (.int .i64 x6) fun w8 =>
 lt (IntKind.i64.wrap (t94+1)) fun x9 =>
 nx2 t7 t85 t86 t87 t92 t93 x9 w8) (
 qt.j9 t7 t85 t86 t87 Q nx1 w)
def qt.l2 (t7 t85:Sl) (t86:Int) (t87:Int) (t92:Sl) (t93 t94:Int) (Q:VWP) (nx1:Sl→Sl→Int→Int→World→Prop) (w:World):Prop :=
 ∃ (I:Int→World→Prop) (μ:Int→World→Nat),I t94 w∧∀ t94:Int,∀ w:World,I t94 w→qt.b2 t7 t85 t86 t87 t92 t93 t94 Q nx1 (fun t7' t85' t86' t87' t92' t93' t94' w'=>(t7'=t7∧t85'=t85∧t86'=t86∧t87'=t87∧t92'=t92∧t93'=t93)∧I t94' w'∧μ t94' w' < μ t94 w) w
def qt.j10 (t7 t85:Sl) (t86:Int) (t87:Int) (t92:Sl) (t93 t94:Int) (Q:VWP) (nx1:Sl→Sl→Int→Int→World→Prop) (w:World):Prop :=
 qt.l2 t7 t85 t86 t87 t92 t93 t94 Q nx1 w
def qt.j8 (t7 t85:Sl) (t86:Int) (t87:Int) (Q:VWP) (nx1:Sl→Sl→Int→Int→World→Prop) (w:World):Prop :=
 ixS t85.a t85.len t87 2 fun a10 =>
 ldA w a10 2 fun c11 =>
 lt (⟨World.heapSize w,0,none⟩:Addr) fun a12 =>
 lt (World.alloc w (.cells (zc Tryz.prog 396) 396)) fun w13 =>
 (c11).size=2 ∧
 stA w13 a12 c11 fun w14 =>
 ldL w14 (Addr.add a12 1) fun x15 =>
 qt.j10 t7 t85 t86 t87 x15 ((x15.len:Nat):Int) 0 Q nx1 w14
def qt.b1 (t7 t85:Sl) (t86:Int) (t87:Int) (Q:VWP) (nx1:Sl→Sl→Int→Int→World→Prop) (w:World):Prop :=
 br (decide ((t87:Int) < t86)) (
 qt.j8 t7 t85 t86 t87 Q nx1 w) (
 qt.j6 t7 Q w)
def qt.l1 (t7 t85:Sl) (t86:Int) (t87:Int) (Q:VWP) (w:World):Prop :=
 ∃ (I:Int→World→Prop) (μ:Int→World→Nat),I t87 w∧∀ t87:Int,∀ w:World,I t87 w→qt.b1 t7 t85 t86 t87 Q (fun t7' t85' t86' t87' w'=>(t7'=t7∧t85'=t85∧t86'=t86)∧I t87' w'∧μ t87' w' < μ t87 w) w
def qt.j7 (t7 t85:Sl) (t86:Int) (t87:Int) (Q:VWP) (w:World):Prop :=
 qt.l1 t7 t85 t86 t87 Q w
def qt.j5 (t6 t7 t9:Sl) (Q:VWP) (w:World):Prop :=
 lt (IntKind.i64.wrap (2 * ((t6.len:Nat):Int))) fun x16 =>
 lt (IntKind.i64.wrap (x16 - 2)) fun x17 =>
 bd x17 t9.cap fun n18 =>
 lt (⟨qwf t9.a t9.cap 0 2,n18 - 0,t9.cap - 0⟩:Sl) fun s19 =>
 qt.j7 t7 s19 ((s19.len:Nat):Int) 0 Q w
def qt.b3 (t6 t7 t8:Sl) (t69:Int) (t9:Sl) (t70:Int) (Q:VWP) (nx3:Sl→Sl→Sl→Int→Sl→Int→World→Prop) (w:World):Prop :=
 br (decide ((t70:Int) < t69)) (
 Calls Tryz.prog 282 ⟨[.slice t8.a t8.len t8.cap]⟩ w fun e20 w21 =>
 ∃ r22:Sl,e20=.returned (.slice r22.a r22.len r22.cap) ∧
 Calls Tryz.prog 283 ⟨[.slice t9.a t9.len t9.cap]⟩ w21 fun e23 w24 =>
 ∃ r25:Sl,e23=.returned (.slice r25.a r25.len r25.cap) ∧
 rdO w24 r25.a (r25.len * 2) fun c26 =>
 apK Tryz.prog 396 w24 r22.a r22.len r22.cap r25.len c26 fun s27 w28 =>
 Calls Tryz.prog 284 ⟨[.slice s27.a s27.len s27.cap,.func (.func 285) ⟨[]⟩ ⟨[]⟩]⟩ w28 fun e29 w30 =>
 e29=.returned (.tuple ⟨[]⟩) ∧
 lt (IntKind.i64.wrap (t70+1)) fun x31 =>
 nx3 t6 t7 t8 t69 s27 x31 w30) (
 qt.j5 t6 t7 t9 Q w)
def qt.l3 (t6 t7 t8:Sl) (t69:Int) (t9:Sl) (t70:Int) (Q:VWP) (w:World):Prop :=
 ∃ (I:Sl→Int→World→Prop) (μ:Sl→Int→World→Nat),I t9 t70 w∧∀ t9:Sl,∀ t70:Int,∀ w:World,I t9 t70 w→qt.b3 t6 t7 t8 t69 t9 t70 Q (fun t6' t7' t8' t69' t9' t70' w'=>(t6'=t6∧t7'=t7∧t8'=t8∧t69'=t69)∧I t9' t70' w'∧μ t9' t70' w' < μ t9 t70 w) w
def qt.j11 (t6 t7 t8 t9:Sl) (t69:Int) (t70:Int) (Q:VWP) (w:World):Prop :=
 qt.l3 t6 t7 t8 t69 t9 t70 Q w
def qt.j4 (i_1:Int) (t6:Sl) (t7 t8 t9:Sl) (Q:VWP) (w:World):Prop :=
 qt.j11 t6 t7 t8 t9 i_1 0 Q w
def qt.b4 (d_0:Sl) (i_1:Int) (t6 t7 t9 t52:Sl) (t53:Int) (t8:Sl) (t54:Int) (Q:VWP) (nx4:Sl→Int→Sl→Sl→Sl→Sl→Int→Sl→Int→World→Prop) (w:World):Prop :=
 br (decide ((t54:Int) < t53)) (
 ixS t52.a t52.len t54 1 fun a32 =>
 ldI .i64 w a32 fun x33 =>
 ixS d_0.a d_0.len x33 1 fun a34 =>
 ldI .i64 w a34 fun x35 =>
 lt (⟨World.heapSize w,0,none⟩:Addr) fun a36 =>
 lt (World.alloc w (.cells ⟨[.int .i64 x33]⟩ 3)) fun w37 =>
 ((⟨[.int .i64 x35,.slice (some a36) 1 1]⟩:Array Value)).size=2 ∧
 lt (⟨World.heapSize w37,0,none⟩:Addr) fun a38 =>
 lt (World.alloc w37 (.cells ⟨(spl [.int .i64 0,.slice none 0 0] 0 (⟨[.int .i64 x35,.slice (some a36) 1 1]⟩:Array Value))⟩ 396)) fun w39 =>
 rdO w39 (some a38) (1 * 2) fun c40 =>
 apK Tryz.prog 396 w39 t8.a t8.len t8.cap 1 c40 fun s41 w42 =>
 lt (IntKind.i64.wrap (t54+1)) fun x43 =>
 nx4 d_0 i_1 t6 t7 t9 t52 t53 s41 x43 w42) (
 qt.j4 i_1 t6 t7 t8 t9 Q w)
def qt.l4 (d_0:Sl) (i_1:Int) (t6 t7 t9 t52:Sl) (t53:Int) (t8:Sl) (t54:Int) (Q:VWP) (w:World):Prop :=
 ∃ (I:Sl→Int→World→Prop) (μ:Sl→Int→World→Nat),I t8 t54 w∧∀ t8:Sl,∀ t54:Int,∀ w:World,I t8 t54 w→qt.b4 d_0 i_1 t6 t7 t9 t52 t53 t8 t54 Q (fun d_0' i_1' t6' t7' t9' t52' t53' t8' t54' w'=>(d_0'=d_0∧i_1'=i_1∧t6'=t6∧t7'=t7∧t9'=t9∧t52'=t52∧t53'=t53)∧I t8' t54' w'∧μ t8' t54' w' < μ t8 t54 w) w
def qt.j12 (d_0:Sl) (i_1:Int) (t6 t7 t8 t9 t52:Sl) (t53:Int) (t54:Int) (Q:VWP) (w:World):Prop :=
 qt.l4 d_0 i_1 t6 t7 t9 t52 t53 t8 t54 Q w
def qt.j3 (d_0:Sl) (i_1:Int) (t6 t7 t8 t9:Sl) (Q:VWP) (w:World):Prop :=
 qt.j12 d_0 i_1 t6 t7 t8 t9 t6 ((t6.len:Nat):Int) 0 Q w
def qt.j2 (d_0:Sl) (i_1:Int) (t6 t7:Sl) (Q:VWP) (w:World):Prop :=
 (0:Int)≤i_1 ∧
 lt (qpi .i64 1 i_1) fun x44 =>
 br (decide ((((t6.len:Nat):Int):Int) > x44)) (
 Q (.tuple ⟨[.slice none 0 0,.int .i64 7]⟩) w) (
 br ((((t6.len:Nat):Int):Int) == 0) (
 Q (.tuple ⟨[.slice t7.a t7.len t7.cap,.int .i64 0]⟩) w) (
 br ((((t6.len:Nat):Int):Int) == 1) (
 ixS t6.a t6.len 0 1 fun a45 =>
 ldI .i64 w a45 fun x46 =>
 ixS t7.a t7.len x46 1 fun a47 =>
 st w a47 (.int .i64 1) fun w48 =>
 Q (.tuple ⟨[.slice t7.a t7.len t7.cap,.int .i64 0]⟩) w48) (
 qt.j3 d_0 i_1 t6 t7 ⟨none,0,0⟩ ⟨none,0,0⟩ Q w)))
def qt.j1 (d_0:Sl) (i_1:Int) (Q:VWP) (w:World):Prop :=
 Calls Tryz.prog 281 ⟨[.slice d_0.a d_0.len d_0.cap]⟩ w fun e49 w50 =>
 ∃ r51:Sl,e49=.returned (.slice r51.a r51.len r51.cap) ∧
 mkK Tryz.prog 3 w50 ((d_0.len:Nat):Int) ((d_0.len:Nat):Int) fun s52 w53 =>
 qt.j2 d_0 i_1 r51 s52 Q w53
def qt (d_0:Sl) (i_1:Int) (Q:VWP) (w:World):Prop :=
 Calls Tryz.prog 280 ⟨[.slice d_0.a d_0.len d_0.cap]⟩ w fun e54 w55 =>
 ∃ r56:Bool,e54=.returned (.bool r56) ∧
 br r56 (
 Q (.tuple ⟨[.slice none 0 0,.int .i64 1]⟩) w55) (
 br (decide ((i_1:Int) < 1)) (
 Q (.tuple ⟨[.slice none 0 0,.int .i64 1]⟩) w55) (
 br (decide ((i_1:Int) > 15)) (
 Q (.tuple ⟨[.slice none 0 0,.int .i64 1]⟩) w55) (
 qt.j1 d_0 i_1 Q w55)))
theorem qt.ok (d_0:Sl) (i_1:Int) (Q:VWP) (w:World) (h:qt d_0 i_1 Q w):Calls Tryz.prog 210 ⟨[.slice d_0.a d_0.len d_0.cap,.int .i64 i_1]⟩ w (Ret Q):=by
 refine qp [.tmp 4,.tmp 5] Tryz.func210 rfl rfl rfl rfl ?_
 refine qfb qpb (fun ρ w=>asL (ρ 0) fun d_0=>asI .i64 (ρ 1) fun i_1=>qt.j1 d_0 i_1 Q w) (Eq.mp (by kernel_rfl) h) ?_
 intro ρ w h
 obtain ⟨d_0,e0,h⟩:=ql h
 obtain ⟨i_1,e1,h⟩:=qd h
 refine qb e0 (qb (qa e1 rfl) ?_)
 refine qfb qpb (fun ρ w=>asL (ρ 0) fun d_0=>asI .i64 (ρ 1) fun i_1=>asL (ρ 6) fun t6=>asL (ρ 7) fun t7=>qt.j2 d_0 i_1 t6 t7 Q w) (Eq.mp (by kernel_rfl) h) ?_
 intro ρ w h
 obtain ⟨d_0,e0,h⟩:=ql h
 obtain ⟨i_1,e1,h⟩:=qd h
 obtain ⟨t6,e6,h⟩:=ql h
 obtain ⟨t7,e7,h⟩:=ql h
 refine qb e0 (qb (qa e1 rfl) (qb (qa (qa e6 rfl) rfl) (qb (qa (qa (qa e7 rfl) rfl) rfl) ?_)))
 refine qfb qpb (fun ρ w=>asL (ρ 0) fun d_0=>asI .i64 (ρ 1) fun i_1=>asL (ρ 6) fun t6=>asL (ρ 7) fun t7=>asL (ρ 8) fun t8=>asL (ρ 9) fun t9=>qt.j3 d_0 i_1 t6 t7 t8 t9 Q w) (Eq.mp (by kernel_rfl) h) ?_
 intro ρ w h
 obtain ⟨d_0,e0,h⟩:=ql h
 obtain ⟨i_1,e1,h⟩:=qd h
 obtain ⟨t6,e6,h⟩:=ql h
 obtain ⟨t7,e7,h⟩:=ql h
 obtain ⟨t8,e8,h⟩:=ql h
 obtain ⟨t9,e9,h⟩:=ql h
 refine qb e0 (qb (qa e1 rfl) (qb (qa (qa e6 rfl) rfl) (qb (qa (qa (qa e7 rfl) rfl) rfl) (qb (qa (qa (qa (qa e8 rfl) rfl) rfl) rfl) (qb (qa (qa (qa (qa (qa e9 rfl) rfl) rfl) rfl) rfl) ?_)))))
 refine qu (fun ρ w=>asI .i64 (ρ 1) fun i_1=>asL (ρ 6) fun t6=>asL (ρ 7) fun t7=>asL (ρ 8) fun t8=>asL (ρ 9) fun t9=>qt.j4 i_1 t6 t7 t8 t9 Q w) ?_ ?_
 · skip
   refine qu (fun ρ w=>asL (ρ 0) fun d_0=>asI .i64 (ρ 1) fun i_1=>asL (ρ 6) fun t6=>asL (ρ 7) fun t7=>asL (ρ 8) fun t8=>asL (ρ 9) fun t9=>asL (ρ 52) fun t52=>asI .i64 (ρ 53) fun t53=>asI .i64 (ρ 54) fun t54=>qt.j12 d_0 i_1 t6 t7 t8 t9 t52 t53 t54 Q w) ?_ ?_
   · skip
     exact qg qpb _ (Eq.mp (by kernel_rfl) h)
   · intro ρ w h
     obtain ⟨d_0,e0,h⟩:=ql h
     obtain ⟨i_1,e1,h⟩:=qd h
     obtain ⟨t6,e6,h⟩:=ql h
     obtain ⟨t7,e7,h⟩:=ql h
     obtain ⟨t8,e8,h⟩:=ql h
     obtain ⟨t9,e9,h⟩:=ql h
     obtain ⟨t52,e52,h⟩:=ql h
     obtain ⟨t53,e53,h⟩:=qd h
     obtain ⟨t54,e54,h⟩:=qd h
     refine qb e0 (qb (qa e1 rfl) (qb (qa (qa e6 rfl) rfl) (qb (qa (qa (qa e7 rfl) rfl) rfl) (qb (qa (qa (qa (qa e8 rfl) rfl) rfl) rfl) (qb (qa (qa (qa (qa (qa e9 rfl) rfl) rfl) rfl) rfl) (qb (qa (qa (qa (qa (qa (qa e52 rfl) rfl) rfl) rfl) rfl) rfl) (qb (qa (qa (qa (qa (qa (qa (qa e53 rfl) rfl) rfl) rfl) rfl) rfl) rfl) (qb (qa (qa (qa (qa (qa (qa (qa (qa e54 rfl) rfl) rfl) rfl) rfl) rfl) rfl) rfl) ?_))))))))
     refine qcb ?_
     obtain ⟨I,μ,hI,hr⟩:=h
     refine qlb (α:=Sl × Int) (fun s ρ=>ρ 8=.slice s.1.a s.1.len s.1.cap∧ρ 54=.int .i64 s.2∧ρ 0=.slice d_0.a d_0.len d_0.cap∧ρ 1=.int .i64 i_1∧ρ 6=.slice t6.a t6.len t6.cap∧ρ 7=.slice t7.a t7.len t7.cap∧ρ 9=.slice t9.a t9.len t9.cap∧ρ 52=.slice t52.a t52.len t52.cap∧ρ 53=.int .i64 t53) (fun s w=>I s.1 s.2 w) (fun s w=>μ s.1 s.2 w) (t8,t54) ⟨rfl,rfl,rfl,rfl,rfl,rfl,rfl,rfl,rfl⟩ hI ?_
     rintro ⟨t8,t54⟩ ρ w ⟨e8,e54,e0,e1,e6,e7,e9,e52,e53⟩ hI
     have h:=hr t8 t54 w hI
     clear hr
     obtain ⟨nx4,hnx⟩:∃ nx:Sl→Int→Sl→Sl→Sl→Sl→Int→Sl→Int→World→Prop,nx=(fun d_0' i_1' t6' t7' t9' t52' t53' t8' t54' w'=>(d_0'=d_0∧i_1'=i_1∧t6'=t6∧t7'=t7∧t9'=t9∧t52'=t52∧t53'=t53)∧I t8' t54' w'∧μ t8' t54' w' < μ t8 t54 w):=⟨_,rfl⟩
     rw [← hnx] at h
     refine qsb (M:=fun ρ w=>asL (ρ 0) fun d_0=>asI .i64 (ρ 1) fun i_1=>asL (ρ 6) fun t6=>asL (ρ 7) fun t7=>asL (ρ 9) fun t9=>asL (ρ 52) fun t52=>asI .i64 (ρ 53) fun t53=>asL (ρ 8) fun t8=>asI .i64 (ρ 54) fun t54=>nx4 d_0 i_1 t6 t7 t9 t52 t53 t8 t54 w) ?_ (fun ρ w h=>?_)
     · skip
       refine qb e0 (qb (qa e1 rfl) (qb (qa (qa e6 rfl) rfl) (qb (qa (qa (qa e7 rfl) rfl) rfl) (qb (qa (qa (qa (qa e8 rfl) rfl) rfl) rfl) (qb (qa (qa (qa (qa (qa e9 rfl) rfl) rfl) rfl) rfl) (qb (qa (qa (qa (qa (qa (qa e52 rfl) rfl) rfl) rfl) rfl) rfl) (qb (qa (qa (qa (qa (qa (qa (qa e53 rfl) rfl) rfl) rfl) rfl) rfl) rfl) (qb (qa (qa (qa (qa (qa (qa (qa (qa e54 rfl) rfl) rfl) rfl) rfl) rfl) rfl) rfl) ?_))))))))
       exact qg qpb _ (Eq.mp (by kernel_rfl) h)
     · skip
       obtain ⟨d_0',e0',h⟩:=ql h
       obtain ⟨i_1',e1',h⟩:=qd h
       obtain ⟨t6',e6',h⟩:=ql h
       obtain ⟨t7',e7',h⟩:=ql h
       obtain ⟨t9',e9',h⟩:=ql h
       obtain ⟨t52',e52',h⟩:=ql h
       obtain ⟨t53',e53',h⟩:=qd h
       obtain ⟨t8',e8',h⟩:=ql h
       obtain ⟨t54',e54',h⟩:=qd h
       rw [hnx] at h
       obtain ⟨hu,hI2,hμ⟩:=h
       obtain ⟨rfl,rfl,rfl,rfl,rfl,rfl,rfl⟩:=hu
       exact ⟨(t8',t54'),⟨e8',e54',e0',e1',e6',e7',e9',e52',e53'⟩,hI2,hμ⟩
 · intro ρ w h
   obtain ⟨i_1,e1,h⟩:=qd h
   obtain ⟨t6,e6,h⟩:=ql h
   obtain ⟨t7,e7,h⟩:=ql h
   obtain ⟨t8,e8,h⟩:=ql h
   obtain ⟨t9,e9,h⟩:=ql h
   refine qb e1 (qb (qa e6 rfl) (qb (qa (qa e7 rfl) rfl) (qb (qa (qa (qa e8 rfl) rfl) rfl) (qb (qa (qa (qa (qa e9 rfl) rfl) rfl) rfl) ?_))))
   refine qu (fun ρ w=>asL (ρ 6) fun t6=>asL (ρ 7) fun t7=>asL (ρ 9) fun t9=>qt.j5 t6 t7 t9 Q w) ?_ ?_
   · skip
     refine qu (fun ρ w=>asL (ρ 6) fun t6=>asL (ρ 7) fun t7=>asL (ρ 8) fun t8=>asL (ρ 9) fun t9=>asI .i64 (ρ 69) fun t69=>asI .i64 (ρ 70) fun t70=>qt.j11 t6 t7 t8 t9 t69 t70 Q w) ?_ ?_
     · skip
       exact qg qpb _ (Eq.mp (by kernel_rfl) h)
     · intro ρ w h
       obtain ⟨t6,e6,h⟩:=ql h
       obtain ⟨t7,e7,h⟩:=ql h
       obtain ⟨t8,e8,h⟩:=ql h
       obtain ⟨t9,e9,h⟩:=ql h
       obtain ⟨t69,e69,h⟩:=qd h
       obtain ⟨t70,e70,h⟩:=qd h
       refine qb e6 (qb (qa e7 rfl) (qb (qa (qa e8 rfl) rfl) (qb (qa (qa (qa e9 rfl) rfl) rfl) (qb (qa (qa (qa (qa e69 rfl) rfl) rfl) rfl) (qb (qa (qa (qa (qa (qa e70 rfl) rfl) rfl) rfl) rfl) ?_)))))
       refine qcb ?_
       obtain ⟨I,μ,hI,hr⟩:=h
       refine qlb (α:=Sl × Int) (fun s ρ=>ρ 9=.slice s.1.a s.1.len s.1.cap∧ρ 70=.int .i64 s.2∧ρ 6=.slice t6.a t6.len t6.cap∧ρ 7=.slice t7.a t7.len t7.cap∧ρ 8=.slice t8.a t8.len t8.cap∧ρ 69=.int .i64 t69) (fun s w=>I s.1 s.2 w) (fun s w=>μ s.1 s.2 w) (t9,t70) ⟨rfl,rfl,rfl,rfl,rfl,rfl⟩ hI ?_
       rintro ⟨t9,t70⟩ ρ w ⟨e9,e70,e6,e7,e8,e69⟩ hI
       have h:=hr t9 t70 w hI
       clear hr
       obtain ⟨nx3,hnx⟩:∃ nx:Sl→Sl→Sl→Int→Sl→Int→World→Prop,nx=(fun t6' t7' t8' t69' t9' t70' w'=>(t6'=t6∧t7'=t7∧t8'=t8∧t69'=t69)∧I t9' t70' w'∧μ t9' t70' w' < μ t9 t70 w):=⟨_,rfl⟩
       rw [← hnx] at h
       refine qsb (M:=fun ρ w=>asL (ρ 6) fun t6=>asL (ρ 7) fun t7=>asL (ρ 8) fun t8=>asI .i64 (ρ 69) fun t69=>asL (ρ 9) fun t9=>asI .i64 (ρ 70) fun t70=>nx3 t6 t7 t8 t69 t9 t70 w) ?_ (fun ρ w h=>?_)
       · skip
         refine qb e6 (qb (qa e7 rfl) (qb (qa (qa e8 rfl) rfl) (qb (qa (qa (qa e9 rfl) rfl) rfl) (qb (qa (qa (qa (qa e69 rfl) rfl) rfl) rfl) (qb (qa (qa (qa (qa (qa e70 rfl) rfl) rfl) rfl) rfl) ?_)))))
         exact qg qpb _ (Eq.mp (by kernel_rfl) h)
       · skip
         obtain ⟨t6',e6',h⟩:=ql h
         obtain ⟨t7',e7',h⟩:=ql h
         obtain ⟨t8',e8',h⟩:=ql h
         obtain ⟨t69',e69',h⟩:=qd h
         obtain ⟨t9',e9',h⟩:=ql h
         obtain ⟨t70',e70',h⟩:=qd h
         rw [hnx] at h
         obtain ⟨hu,hI2,hμ⟩:=h
         obtain ⟨rfl,rfl,rfl,rfl⟩:=hu
         exact ⟨(t9',t70'),⟨e9',e70',e6',e7',e8',e69'⟩,hI2,hμ⟩
   · intro ρ w h
     obtain ⟨t6,e6,h⟩:=ql h
     obtain ⟨t7,e7,h⟩:=ql h
     obtain ⟨t9,e9,h⟩:=ql h
     refine qb e6 (qb (qa e7 rfl) (qb (qa (qa e9 rfl) rfl) ?_))
     refine qu (fun ρ w=>asL (ρ 7) fun t7=>qt.j6 t7 Q w) ?_ ?_
     · skip
       refine qu (fun ρ w=>asL (ρ 7) fun t7=>asL (ρ 85) fun t85=>asI .i64 (ρ 86) fun t86=>asI .i64 (ρ 87) fun t87=>qt.j7 t7 t85 t86 t87 Q w) ?_ ?_
       · skip
         exact qg qpb _ (Eq.mp (by kernel_rfl) h)
       · intro ρ w h
         obtain ⟨t7,e7,h⟩:=ql h
         obtain ⟨t85,e85,h⟩:=ql h
         obtain ⟨t86,e86,h⟩:=qd h
         obtain ⟨t87,e87,h⟩:=qd h
         refine qb e7 (qb (qa e85 rfl) (qb (qa (qa e86 rfl) rfl) (qb (qa (qa (qa e87 rfl) rfl) rfl) ?_)))
         refine qcb ?_
         obtain ⟨I,μ,hI,hr⟩:=h
         refine qlb (α:=Int) (fun s ρ=>ρ 87=.int .i64 s∧ρ 7=.slice t7.a t7.len t7.cap∧ρ 85=.slice t85.a t85.len t85.cap∧ρ 86=.int .i64 t86) (fun s w=>I s w) (fun s w=>μ s w) t87 ⟨rfl,rfl,rfl,rfl⟩ hI ?_
         rintro t87 ρ w ⟨e87,e7,e85,e86⟩ hI
         have h:=hr t87 w hI
         clear hr
         obtain ⟨nx1,hnx⟩:∃ nx:Sl→Sl→Int→Int→World→Prop,nx=(fun t7' t85' t86' t87' w'=>(t7'=t7∧t85'=t85∧t86'=t86)∧I t87' w'∧μ t87' w' < μ t87 w):=⟨_,rfl⟩
         rw [← hnx] at h
         refine qsb (M:=fun ρ w=>asL (ρ 7) fun t7=>asL (ρ 85) fun t85=>asI .i64 (ρ 86) fun t86=>asI .i64 (ρ 87) fun t87=>nx1 t7 t85 t86 t87 w) ?_ (fun ρ w h=>?_)
         · skip
           refine qb e7 (qb (qa e85 rfl) (qb (qa (qa e86 rfl) rfl) (qb (qa (qa (qa e87 rfl) rfl) rfl) ?_)))
           refine qfb qpb (fun ρ w=>asL (ρ 7) fun t7=>asL (ρ 85) fun t85=>asI .i64 (ρ 86) fun t86=>asI .i64 (ρ 87) fun t87=>qt.j8 t7 t85 t86 t87 Q nx1 w) (Eq.mp (by kernel_rfl) h) ?_
           intro ρ w h
           obtain ⟨t7,e7,h⟩:=ql h
           obtain ⟨t85,e85,h⟩:=ql h
           obtain ⟨t86,e86,h⟩:=qd h
           obtain ⟨t87,e87,h⟩:=qd h
           refine qb e7 (qb (qa e85 rfl) (qb (qa (qa e86 rfl) rfl) (qb (qa (qa (qa e87 rfl) rfl) rfl) ?_)))
           refine qu (fun ρ w=>asL (ρ 7) fun t7=>asL (ρ 85) fun t85=>asI .i64 (ρ 86) fun t86=>asI .i64 (ρ 87) fun t87=>qt.j9 t7 t85 t86 t87 Q nx1 w) ?_ ?_
           · skip
             refine qcb ?_
             refine qfb qpb (fun ρ w=>asL (ρ 7) fun t7=>asL (ρ 85) fun t85=>asI .i64 (ρ 86) fun t86=>asI .i64 (ρ 87) fun t87=>asL (ρ 92) fun t92=>asI .i64 (ρ 93) fun t93=>asI .i64 (ρ 94) fun t94=>qt.j10 t7 t85 t86 t87 t92 t93 t94 Q nx1 w) (Eq.mp (by kernel_rfl) h) ?_
             intro ρ w h
             obtain ⟨t7,e7,h⟩:=ql h
             obtain ⟨t85,e85,h⟩:=ql h
             obtain ⟨t86,e86,h⟩:=qd h
             obtain ⟨t87,e87,h⟩:=qd h
             obtain ⟨t92,e92,h⟩:=ql h
             obtain ⟨t93,e93,h⟩:=qd h
             obtain ⟨t94,e94,h⟩:=qd h
             refine qb e7 (qb (qa e85 rfl) (qb (qa (qa e86 rfl) rfl) (qb (qa (qa (qa e87 rfl) rfl) rfl) (qb (qa (qa (qa (qa e92 rfl) rfl) rfl) rfl) (qb (qa (qa (qa (qa (qa e93 rfl) rfl) rfl) rfl) rfl) (qb (qa (qa (qa (qa (qa (qa e94 rfl) rfl) rfl) rfl) rfl) rfl) ?_))))))
             refine qcb ?_
             obtain ⟨I,μ,hI,hr⟩:=h
             refine qlb (α:=Int) (fun s ρ=>ρ 94=.int .i64 s∧ρ 7=.slice t7.a t7.len t7.cap∧ρ 85=.slice t85.a t85.len t85.cap∧ρ 86=.int .i64 t86∧ρ 87=.int .i64 t87∧ρ 92=.slice t92.a t92.len t92.cap∧ρ 93=.int .i64 t93) (fun s w=>I s w) (fun s w=>μ s w) t94 ⟨rfl,rfl,rfl,rfl,rfl,rfl,rfl⟩ hI ?_
             rintro t94 ρ w ⟨e94,e7,e85,e86,e87,e92,e93⟩ hI
             have h:=hr t94 w hI
             clear hr
             obtain ⟨nx2,hnx⟩:∃ nx:Sl→Sl→Int→Int→Sl→Int→Int→World→Prop,nx=(fun t7' t85' t86' t87' t92' t93' t94' w'=>(t7'=t7∧t85'=t85∧t86'=t86∧t87'=t87∧t92'=t92∧t93'=t93)∧I t94' w'∧μ t94' w' < μ t94 w):=⟨_,rfl⟩
             rw [← hnx] at h
             refine qsb (M:=fun ρ w=>asL (ρ 7) fun t7=>asL (ρ 85) fun t85=>asI .i64 (ρ 86) fun t86=>asI .i64 (ρ 87) fun t87=>asL (ρ 92) fun t92=>asI .i64 (ρ 93) fun t93=>asI .i64 (ρ 94) fun t94=>nx2 t7 t85 t86 t87 t92 t93 t94 w) ?_ (fun ρ w h=>?_)
             · skip
               refine qb e7 (qb (qa e85 rfl) (qb (qa (qa e86 rfl) rfl) (qb (qa (qa (qa e87 rfl) rfl) rfl) (qb (qa (qa (qa (qa e92 rfl) rfl) rfl) rfl) (qb (qa (qa (qa (qa (qa e93 rfl) rfl) rfl) rfl) rfl) (qb (qa (qa (qa (qa (qa (qa e94 rfl) rfl) rfl) rfl) rfl) rfl) ?_))))))
               exact qg qpb _ (Eq.mp (by kernel_rfl) h)
             · skip
               obtain ⟨t7',e7',h⟩:=ql h
               obtain ⟨t85',e85',h⟩:=ql h
               obtain ⟨t86',e86',h⟩:=qd h
               obtain ⟨t87',e87',h⟩:=qd h
               obtain ⟨t92',e92',h⟩:=ql h
               obtain ⟨t93',e93',h⟩:=qd h
               obtain ⟨t94',e94',h⟩:=qd h
               rw [hnx] at h
               obtain ⟨hu,hI2,hμ⟩:=h
               obtain ⟨rfl,rfl,rfl,rfl,rfl,rfl⟩:=hu
               exact ⟨t94',⟨e94',e7',e85',e86',e87',e92',e93'⟩,hI2,hμ⟩
           · intro ρ w h
             obtain ⟨t7,e7,h⟩:=ql h
             obtain ⟨t85,e85,h⟩:=ql h
             obtain ⟨t86,e86,h⟩:=qd h
             obtain ⟨t87,e87,h⟩:=qd h
             refine qb e7 (qb (qa e85 rfl) (qb (qa (qa e86 rfl) rfl) (qb (qa (qa (qa e87 rfl) rfl) rfl) ?_)))
             exact qg qpb _ (Eq.mp (by kernel_rfl) h)
         · skip
           obtain ⟨t7',e7',h⟩:=ql h
           obtain ⟨t85',e85',h⟩:=ql h
           obtain ⟨t86',e86',h⟩:=qd h
           obtain ⟨t87',e87',h⟩:=qd h
           rw [hnx] at h
           obtain ⟨hu,hI2,hμ⟩:=h
           obtain ⟨rfl,rfl,rfl⟩:=hu
           exact ⟨t87',⟨e87',e7',e85',e86'⟩,hI2,hμ⟩
     · intro ρ w h
       obtain ⟨t7,e7,h⟩:=ql h
       refine qb e7 ?_
       exact qg qpb _ (Eq.mp (by kernel_rfl) h)
end Go.Proofs.YthdmmmfgjmmelaaGreat
namespace Go.Proofs.YthdmmmfgjmmelaaGreat
open Go Go.Proofs
set_option linter.unusedVariables false
set_option linter.unusedSimpArgs false
attribute [local irreducible] apK cpK mkK br
def badN (n:Int):Prop:=n < 0 ∨ 16777216 < n
instance (n:Int):Decidable (badN n):=inferInstanceAs (Decidable (_ ∨ _))
def qyd (xs:List Int):List Nat:=(List.range xs.length).filter fun i=>0 < xs.getD i 0
section
variable {F0:List Nat} {w0 w:World} {ps rest:List As} {s:Sl} {xs:List Int}
theorem limit_bad1.c {n:Int} {K:Ending→World→Prop} (hk:K (.returned (.bool (decide (badN n)))) w):Calls Tryz.prog 322 ⟨[.int .i64 n]⟩ w K:=by
 refine qnc (quk.ok _ _ _ ?_)
 unfold quk
 refine qxc (fun g=>?_) (fun g=>?_)
 · rw [decide_eq_true (show badN n from Or.inl g)] at hk
   exact hk
 · rw [show decide (badN n)=decide (n > 16777216) from decide_eq_decide.2 ⟨fun e=>by rcases e with e | e; omega; exact e,fun e=>Or.inr e⟩] at hk
   exact hk
theorem qfk.c {K:Ending→World→Prop} (h:St F0 w0 w ps) [Rdb F0 w0 s ps 1 (ivs .i64 xs)]
 (hk:∀ (b:Bool) w',(b=false→xs.length≤288∧∀ x ∈ xs,¬ badN x)→(b=true→288 < xs.length ∨ ∃ x ∈ xs,badN x)→St F0 w0 w' ps→K (.returned (.bool b)) w'):Calls Tryz.prog 280 ⟨[.slice s.a s.len s.cap]⟩ w K:=by
 have hl:=(h.rdb s).1
 rw [qx] at hl
 refine qnc (qfk.ok _ _ _ ?_)
 unfold qfk
 refine qxc (fun g=>?_) (fun g=>?_)
 · exact hk true w (fun e=>by cases e) (fun _=>Or.inl (by omega)) h
 refine qnc (qdf.ok _ _ _ ?_)
 unfold qdf
 refine qnc (qxb.ok _ _ _ ?_)
 unfold qxb qxb.j1 qxb.j3
 refine qpg (fun (i:Nat) (i':Int) w'=>i'=i∧i≤xs.length∧(∀ j,j < i→¬ badN (xs.getD j 0))∧St F0 w0 w' ps) (fun i=>xs.length - i) 0 ⟨rfl,by omega,fun j hj=>by omega,h⟩ ?_
 clear h
 rintro i i' wL I μ ⟨rfl,hi,hb,h⟩ hin
 unfold qxb.b1
 refine qxc (fun g1=>?_) (fun g1=>?_)
 · have hix:i < xs.length:=by omega
   refine h.lx (s:=s) i rfl hix ?_
   refine limit_bad1.c ⟨_,rfl,?_⟩
   refine qxc (fun g2=>?_) (fun g2=>?_)
   · refine ⟨_,rfl,?_⟩
     rw [decide_eq_true (show ((i:Nat):Int) ≥ 0 by omega)]
     refine ⟨_,rfl,hk true wL (fun e=>by cases e) (fun _=>Or.inr ⟨xs[i],List.getElem_mem hix,?_⟩) h⟩
     rw [List.getD,List.getElem?_eq_getElem hix] at g2
     exact g2
   · refine qw (qi (by omega) (by omega)) ?_
     refine ⟨⟨rfl,rfl⟩,hin (i+1) _ _ ⟨by omega,by omega,?_,h⟩ (by omega)⟩
     intro j hj
     rcases Nat.lt_or_ge j i with h1 | h1
     · exact hb j h1
     · rw [show j=i by omega]; exact g2
 · unfold qxb.j2
   refine ⟨_,rfl,?_⟩
   rw [decide_eq_false (show ¬ (-1:Int) ≥ 0 by decide)]
   refine ⟨_,rfl,hk false wL (fun _=>⟨by omega,fun x hx=>?_⟩) (fun e=>by cases e) h⟩
   obtain ⟨j,hj,rfl⟩:=List.mem_iff_getElem.1 hx
   have:=hb j (by omega)
   rw [List.getD,List.getElem?_eq_getElem hj] at this
   exact this
theorem qqd.c {K:Ending→World→Prop} (h:St F0 w0 w ps) [Rdb F0 w0 s ps 1 (ivs .i64 xs)] (hlen:xs.length≤1000000)
 (hk:∀ t w',t.len=(qyd xs).length→St F0 w0 w' (qmc 1 t (ivs .i64 ((qyd xs).map fun (i:Nat)=>(i:Int))) :: ps)→K (.returned (.slice t.a t.len t.cap)) w'):Calls Tryz.prog 281 ⟨[.slice s.a s.len s.cap]⟩ w K:=by
 have hl:=(h.rdb s).1
 rw [qx] at hl
 refine qnc (qqd.ok _ _ _ ?_)
 unfold qqd qqd.j1 qqd.j3
 have cl:∀ i,((List.range i).filter fun i=>decide (0 < xs.getD i 0)).length≤i:=fun i=>Nat.le_trans (List.length_filter_le _ _) (by simp)
 refine qkh (fun (i:Nat) (o:Sl) (i':Int) w'=>i'=i∧i≤xs.length∧St F0 w0 w' (qmc 1 o (ivs .i64 (((List.range i).filter fun i=>decide (0 < xs.getD i 0)).map fun (i:Nat)=>(i:Int))) :: ps)) (fun i=>xs.length - i) 0 ⟨rfl,by omega,h.nil 1⟩ ?_
 clear h
 rintro i o i' wL I μ ⟨rfl,hi,h⟩ hin
 unfold qqd.b1
 refine qxc (fun g1=>?_) (fun g1=>?_)
 · have hix:i < xs.length:=by omega
   refine h.lx (s:=s) i rfl hix ?_
   have hcl:=cl i
   refine qxc (fun g2=>?_) (fun g2=>?_)
   · refine h.pushI (s:=o) (by rw [List.length_map]; omega) fun o2 w h=>?_
     refine qw (qi (by omega) (by omega)) ?_
     refine ⟨⟨rfl,rfl⟩,hin (i+1) _ _ _ ⟨by omega,by omega,?_⟩ (by omega)⟩
     rw [List.range_succ,List.filter_append,List.map_append]
     rw [show ([i].filter fun i=>decide (0 < xs.getD i 0))=[i] by simp only [List.filter_cons,List.filter_nil]; rw [if_pos (decide_eq_true g2)]]
     exact h
   · refine qw (qi (by omega) (by omega)) ?_
     refine ⟨⟨rfl,rfl⟩,hin (i+1) _ _ _ ⟨by omega,by omega,?_⟩ (by omega)⟩
     rw [List.range_succ,List.filter_append,List.map_append]
     rw [show ([i].filter fun i=>decide (0 < xs.getD i 0))=[] by simp only [List.filter_cons,List.filter_nil]; rw [if_neg (by simpa using g2)]]
     rw [List.map_nil,List.append_nil]
     exact h
 · have:i=xs.length:=by omega
   subst this
   unfold qqd.j2
   have hol:=h.len
   rw [qx,List.length_map] at hol
   refine hk o wL ?_ h
   unfold qyd
   omega
end
end Go.Proofs.YthdmmmfgjmmelaaGreat
namespace Go.Proofs.YthdmmmfgjmmelaaGreat
set_option linter.unusedVariables false
set_option linter.unusedSimpArgs false
theorem qtj {α:Type} {Q:List α→Prop} (h0:Q []) (h1:∀ a,Q [a]) (h2:∀ a b r,Q r→Q (a :: b :: r)):∀ l,Q l
 | []=>h0
 | [a]=>h1 a
 | a :: b :: r=>h2 a b r (qtj h0 h1 h2 r)
section
variable {α β:Type} {k:α→Int}
theorem ssort_srt_id {l:List α} (h:srt k l):qhd k l=l:=by
 have:∀ (l:List α),srt k l→qhd k l=l:=qcn (Q:=fun l=>srt k l→qhd k l=l) (fun _=>rfl) (fun l x ih h=>by
  have h':=List.pairwise_append.1 h
  rw [qsh,ih h'.1]
  have:=insR_at (k:=k) (x:=x) (T1:=l) (T2:=[]) (fun y hy=>by have:=h'.2.2 y hy x (by simp); omega) (by simp)
  rwa [List.append_nil] at this)
 exact this l h
theorem insR_map {k':β→Int} {f:α→β} (hf:∀ a,k' (f a)=k a) (x:α) (l:List α):(insR k x l).map f=insR k' (f x) (l.map f):=by
 induction l with
 | nil=>rfl
 | cons y l ih =>
   rw [insR,List.map_cons,insR,hf,hf]
   split
   · rfl
   · rw [List.map_cons,ih]
theorem ssort_map {k':β→Int} {f:α→β} (hf:∀ a,k' (f a)=k a) (l:List α):(qhd k l).map f=qhd k' (l.map f) :=
 qcn (Q:=fun l=>(qhd k l).map f=qhd k' (l.map f)) rfl (fun l x ih=>by
  rw [qsh,insR_map hf,ih,List.map_append,List.map_cons,List.map_nil,qsh]) l
theorem mrg_take:∀ (m:Nat) (A B:List α),srt k A→m≤A.length+B.length→∃ c p,c+p=m∧c≤A.length∧p≤B.length∧((mrg k A B).take m).Perm (A.take c ++ B.take p)∧∀ (h:c < A.length),∀ b ∈ B.take p,k b < k A[c]:=by
 intro m
 induction m with
 | zero=>intro A B _ _; exact ⟨0,0,rfl,by omega,by omega,by simp,by simp⟩
 | succ m ih =>
   intro A B hA hm
   cases A with
   | nil =>
     rw [qah]
     exact ⟨0,m+1,by omega,by omega,by simpa using hm,by simp,fun h=>by simp at h⟩
   | cons x A =>
     cases B with
     | nil =>
       rw [qyg]
       exact ⟨m+1,0,by omega,by simpa using hm,by omega,by simp,fun h b hb=>by simp at hb⟩
     | cons y B =>
       simp only [List.length_cons] at hm
       rw [qog]
       by_cases hxy:k y < k x
       · rw [if_pos hxy]
         obtain ⟨c,p,h1,h2,h3,h4,h5⟩:=ih (x :: A) B hA (by simp only [List.length_cons]; omega)
         refine ⟨c,p+1,by omega,h2,by simp only [List.length_cons]; omega,?_,?_⟩
         · rw [List.take_succ_cons,List.take_succ_cons]
           exact (h4.cons y).trans (List.perm_middle).symm
         · intro h b hb
           rw [List.take_succ_cons] at hb
           rcases List.mem_cons.1 hb with rfl | hb
           · have hx:k x≤k (x :: A)[c]:=by
              cases c with
              | zero=>exact Int.le_refl _
              | succ c =>
                have:=(List.pairwise_cons.1 hA).1 ((x :: A)[c+1]) (by rw [List.getElem_cons_succ]; exact List.getElem_mem _)
                exact this
             omega
           · exact h5 h b hb
       · rw [if_neg hxy]
         obtain ⟨c,p,h1,h2,h3,h4,h5⟩:=ih A (y :: B) (List.pairwise_cons.1 hA).2 (by simp only [List.length_cons]; omega)
         refine ⟨c+1,p,by omega,by simp only [List.length_cons]; omega,h3,?_,?_⟩
         · rw [List.take_succ_cons,List.take_succ_cons]
           exact h4.cons x
         · intro h b hb
           rw [List.getElem_cons_succ]
           exact h5 (by simpa using h) b hb
end
abbrev Pg:=Int × List Nat
def gw (x:Pg):Int:=x.1
def qak:List Pg→List Pg
 | a :: b :: r=>(a.1+b.1,a.2 ++ b.2) :: qak r
 | _=>[]
def qvi (cs:List Pg):Nat→List Pg
 | 0=>[]
 | i+1=>qhd gw (cs ++ qak (qvi cs i))
def qkf (l:List Pg):List Nat:=l.flatMap (·.2)
theorem qfq (a b:List Pg):qkf (a ++ b)=qkf a ++ qkf b:=by simp [qkf]
theorem qni (a:Pg) (b:List Pg):qkf (a :: b)=a.2 ++ qkf b:=rfl
theorem qeq {a b:List Pg} (h:a.Perm b):(qkf a).Perm (qkf b):=by
 induction h with
 | nil=>exact List.Perm.refl _
 | cons x _ ih=>exact ih.append_left _
 | swap x y l =>
   show (y.2 ++ (x.2 ++ qkf l)).Perm (x.2 ++ (y.2 ++ qkf l))
   rw [← List.append_assoc,← List.append_assoc]
   exact List.perm_append_comm.append_right _
 | trans _ _ h1 h2=>exact h1.trans h2
theorem qfj:∀ l:List Pg,(qak l).length=l.length / 2:=qtj rfl (fun a=>by simp [qak]) (fun a b r ih=>by
 show (qak r).length+1=(r.length+1+1) / 2
 omega)
theorem qup:∀ (l:List Pg) (p:Nat),(qak l).take p=qak (l.take (2 * p)):=qtj (fun p=>by simp [qak]) (fun a p=>by cases p <;> simp [qak,show ∀ p,2 * (p+1)=2 * p+1+1 by omega]) (fun a b r ih p=>by
 cases p with
 | zero=>rfl
 | succ p =>
   rw [show 2 * (p+1)=2 * p+1+1 by omega,List.take_succ_cons,List.take_succ_cons,qak,qak,List.take_succ_cons,ih])
theorem flat_prsP:∀ l:List Pg,l.length % 2=0→qkf (qak l)=qkf l:=qtj (fun _=>rfl) (fun a h=>by simp at h) (fun a b r ih h=>by
 simp only [List.length_cons] at h
 rw [qak,qni,qni,qni,ih (by omega),List.append_assoc])
theorem prsP_up:∀ l:List Pg,l.length % 2=0→(∀ y ∈ l,0 < gw y)→∀ x ∈ l,∃ b ∈ qak l,gw x < gw b:=qtj (fun _ _ x hx=>by cases hx) (fun a h=>by simp at h) (fun a b r ih h hp x hx=>by
 simp only [List.length_cons] at h
 have ha:=hp a (by simp)
 have hb:=hp b (by simp)
 rcases List.mem_cons.1 hx with rfl | hx
 · exact ⟨_,by rw [qak]; exact List.mem_cons_self,by show gw x < gw x+gw b; omega⟩
 · rcases List.mem_cons.1 hx with rfl | hx
   · exact ⟨_,by rw [qak]; exact List.mem_cons_self,by show gw x < gw a+gw x; omega⟩
   · obtain ⟨c,h1,h2⟩:=ih (by omega) (fun y hy=>hp y (by simp [hy])) x hx
     exact ⟨c,by rw [qak]; exact List.mem_cons_of_mem _ h1,h2⟩)
theorem prsP_pos:∀ l:List Pg,(∀ y ∈ l,0 < gw y)→∀ x ∈ qak l,0 < gw x:=qtj (fun _ x hx=>by cases hx) (fun a _ x hx=>by cases hx) (fun a b r ih hp x hx=>by
 rw [qak] at hx
 have ha:=hp a (by simp)
 have hb:=hp b (by simp)
 rcases List.mem_cons.1 hx with rfl | hx
 · show 0 < gw a+gw b; omega
 · exact ih (fun y hy=>hp y (by simp [hy])) x hx)
theorem prsP_ge (m:Int):∀ l:List Pg,(∀ y ∈ l,m≤gw y)→∀ x ∈ qak l,m+m≤gw x:=qtj (fun _ x hx=>by cases hx) (fun a _ x hx=>by cases hx) (fun a b r ih hp x hx=>by
 rw [qak] at hx
 have ha:=hp a (by simp)
 have hb:=hp b (by simp)
 rcases List.mem_cons.1 hx with rfl | hx
 · show m+m≤gw a+gw b; omega
 · exact ih (fun y hy=>hp y (by simp [hy])) x hx)
theorem prsP_srt:∀ l:List Pg,srt gw l→srt gw (qak l):=qtj (fun _=>List.Pairwise.nil) (fun _ _=>List.Pairwise.nil) (fun a b r ih h=>by
 have h1:=List.pairwise_cons.1 h
 have h2:=List.pairwise_cons.1 h1.2
 rw [qak]
 refine List.pairwise_cons.2 ⟨fun y hy=>?_,ih h2.2⟩
 have:=prsP_ge (gw b) r h2.1 y hy
 have hab:=h1.1 b (by simp)
 show gw a+gw b≤gw y
 omega)
section
variable {cs:List Pg}
theorem rowP_srt:∀ i,srt gw (qvi cs i):=by
 intro i
 cases i with
 | zero=>exact List.Pairwise.nil
 | succ i=>exact qxh _
theorem rowP_mrg (i:Nat):qvi cs (i+1)=mrg gw (qhd gw cs) (qak (qvi cs i)):=by
 rw [qvi,qgl,ssort_srt_id (prsP_srt _ (rowP_srt i))]
theorem rowP_pos (hp:∀ x ∈ cs,0 < gw x):∀ i,∀ x ∈ qvi cs i,0 < gw x:=by
 intro i
 induction i with
 | zero=>intro x hx; cases hx
 | succ i ih =>
   intro x hx
   rcases List.mem_append.1 ((qth _).mem_iff.1 hx) with hx | hx
   · exact hp x hx
   · exact prsP_pos _ ih x hx
theorem qrp (i:Nat):(qvi cs (i+1)).length=cs.length+(qvi cs i).length / 2:=by
 rw [qvi,qzc,List.length_append,qfj]
theorem rowP_lt (h:1≤cs.length):∀ i,(qvi cs i).length < 2 * cs.length:=by
 intro i
 induction i with
 | zero=>simp only [qvi,List.length_nil]; omega
 | succ i ih=>rw [qrp]; omega
theorem rowP_many (h:1≤cs.length):∀ i,(2 * cs.length - (qvi cs i).length) * 2 ^ i < 2 * cs.length+2 ^ i:=by
 intro i
 induction i with
 | zero=>simp [qvi]
 | succ i ih =>
   have:=rowP_lt h i
   rw [qrp,Nat.pow_succ]
   generalize (qvi cs i).length=r at this ih
   have h2:2 * (2 * cs.length - (cs.length+r / 2))≤(2 * cs.length - r)+1:=by omega
   have h3:=Nat.mul_le_mul_right (2 ^ i) h2
   rw [Nat.add_mul,Nat.one_mul,Nat.mul_assoc,Nat.mul_comm 2,Nat.mul_assoc] at h3
   omega
theorem qsp (h:1≤cs.length) {L:Nat} (hL:cs.length≤2 ^ L):2 * cs.length - 2≤(qvi cs L).length:=by
 have h1:=rowP_many h L
 have h2:(2 * cs.length - (qvi cs L).length) * 2 ^ L < 3 * 2 ^ L:=by omega
 have:=Nat.lt_of_mul_lt_mul_right h2
 omega
theorem sum_add {α:Type} (q:Nat) (g h:α→Nat):∀ (A:List α),(∀ s ∈ A,g s=q+h s)→(A.map g).sum=A.length * q+(A.map h).sum:=by
 intro A
 induction A with
 | nil=>intro _; simp
 | cons a A ih =>
   intro hA
   rw [List.map_cons,List.sum_cons,List.map_cons,List.sum_cons,ih (fun s hs=>hA s (by simp [hs])),hA a (by simp),List.length_cons,Nat.add_mul,Nat.one_mul]
   omega
theorem sum_same {α:Type} (g h:α→Nat) (A:List α) (e:∀ s ∈ A,g s=h s):(A.map g).sum=(A.map h).sum:=by
 rw [List.map_congr_left e]
theorem count_nodup {s:Nat}:∀ {l:List Nat},l.Nodup→s ∈ l→l.count s=1:=by
 intro l
 induction l with
 | nil=>intro _ h; cases h
 | cons a l ih =>
   intro hn h
   have hn:=List.nodup_cons.1 hn
   rcases List.mem_cons.1 h with rfl | h
   · rw [List.count_cons_self,List.count_eq_zero.2 hn.1]
   · rw [List.count_cons_of_ne (fun e=>hn.1 (by rw [e]; exact h)),ih hn.2 h]
theorem flat_take:∀ {l:List Pg} (c:Nat),(∀ x ∈ l,x.2.length=1)→qkf (l.take c)=(qkf l).take c:=by
 intro l
 induction l with
 | nil=>intro c _; simp [qkf]
 | cons a l ih =>
   intro c h
   cases c with
   | zero=>rfl
   | succ c =>
     obtain ⟨s,hs⟩:=List.length_eq_one_iff.1 (h a (by simp))
     rw [List.take_succ_cons,qni,qni,ih c (fun x hx=>h x (by simp [hx])),hs]
     rfl
theorem flat_len:∀ {l:List Pg},(∀ x ∈ l,x.2.length=1)→(qkf l).length=l.length:=by
 intro l
 induction l with
 | nil=>intro _; rfl
 | cons a l ih =>
   intro h
   rw [qni,List.length_append,h a (by simp),ih (fun x hx=>h x (by simp [hx])),List.length_cons]; omega
def Tk3 (cs:List Pg) (i m:Nat):Prop:=∃ c,c≤cs.length∧(2 * cs.length - 2≤m→c=cs.length)∧(∀ x ∈ (qhd gw cs).take c,x ∈ (qvi cs i).take m) ∧
 (∀ s ∈ (qkf (qhd gw cs)).take c,0 < (qkf ((qvi cs i).take m)).count s∧(qkf ((qvi cs i).take m)).count s≤i) ∧
 (∀ s,s ∉ (qkf (qhd gw cs)).take c→(qkf ((qvi cs i).take m)).count s=0) ∧
 ((qkf (qhd gw cs)).map fun s=>2 ^ (i+1) - 2 ^ (i+1 - (qkf ((qvi cs i).take m)).count s)).sum=m * 2 ^ i
theorem takes (hn:2≤cs.length) (hp:∀ x ∈ cs,0 < gw x) (h1:∀ x ∈ cs,x.2.length=1) (hd:(qkf cs).Nodup):∀ i m,m≤(qvi cs i).length→Tk3 cs i m:=by
 have hS:∀ x ∈ qhd gw cs,x.2.length=1:=fun x hx=>h1 x ((qth _).mem_iff.1 hx)
 have hSd:(qkf (qhd gw cs)).Nodup:=(qeq (qth cs)).symm.nodup hd
 have hSl:(qkf (qhd gw cs)).length=cs.length:=by rw [flat_len hS,qzc]
 intro i
 induction i with
 | zero =>
   intro m hm
   have:m=0:=by simpa [qvi] using hm
   subst this
   refine ⟨0,by omega,fun h=>by omega,by simp,by simp,by simp [qvi,qkf],?_⟩
   rw [Nat.zero_mul,sum_same _ (fun _=>0) _ (fun s _=>by simp [qvi,qkf])]
   generalize qkf (qhd gw cs)=l
   induction l with
   | nil=>rfl
   | cons a l ih=>simpa using ih
 | succ i ih =>
   intro m hm
   rw [rowP_mrg,qkr _ _ _ rfl] at hm
   obtain ⟨c,p,hcp,hc,hpB,hperm,hlt⟩:=mrg_take (k:=gw) m (qhd gw cs) (qak (qvi cs i)) (qxh _) hm
   rw [qzc] at hc
   have hpB':=hpB
   rw [qfj] at hpB'
   obtain ⟨c',hc',hall,hmem,hcnt,hno,hsum⟩:=ih (2 * p) (by omega)
   have hl2:((qvi cs i).take (2 * p)).length=2 * p:=by rw [List.length_take]; omega
   have hcc:c'≤c:=by
    rcases Nat.lt_or_ge c c' with hlt2 | hge
    · exfalso
      have hcS:c < (qhd gw cs).length:=by rw [qzc]; omega
      have hx:(qhd gw cs)[c] ∈ (qvi cs i).take (2 * p):=hmem _ (List.mem_take_iff_getElem.2 ⟨c,by omega,rfl⟩)
      obtain ⟨b,hb,hlt3⟩:=prsP_up _ (by rw [hl2]; omega) (fun y hy=>rowP_pos hp i y (List.mem_of_mem_take hy)) _ hx
      rw [← qup] at hb
      have:=hlt hcS b hb
      omega
    · exact hge
   have hF:∀ s,(qkf ((qvi cs (i+1)).take m)).count s=((qkf (qhd gw cs)).take c).count s+(qkf ((qvi cs i).take (2 * p))).count s:=by
    intro s
    rw [rowP_mrg,(qeq hperm).count_eq,qfq,List.count_append,flat_take _ hS,qup,flat_prsP _ (by rw [hl2]; omega)]
   have hin:∀ s,s ∈ (qkf (qhd gw cs)).take c→((qkf (qhd gw cs)).take c).count s=1:=fun s hs=>count_nodup (hSd.sublist (List.take_sublist _ _)) hs
   have hbd:∀ s,(qkf ((qvi cs i).take (2 * p))).count s≤i:=by
    intro s
    by_cases hs:s ∈ (qkf (qhd gw cs)).take c'
    · exact (hcnt s hs).2
    · rw [hno s hs]; omega
   have hno2:∀ s,s ∉ (qkf (qhd gw cs)).take c→(qkf ((qvi cs i).take (2 * p))).count s=0:=fun s hs=>hno s fun h=>hs (by
    have:(qkf (qhd gw cs)).take c'=((qkf (qhd gw cs)).take c).take c':=by rw [List.take_take,Nat.min_eq_left hcc]
    rw [this] at h
    exact List.mem_of_mem_take h)
   refine ⟨c,hc,?_,?_,?_,?_,?_⟩
   · intro h2
     have hrl:=rowP_lt (cs:=cs) (by omega) i
     rcases Nat.lt_or_ge c cs.length with hlt2 | hge
     · have:p=cs.length - 1:=by omega
       have:=hall (by omega)
       omega
     · omega
   · intro x hx
     rw [rowP_mrg]
     exact hperm.mem_iff.2 (List.mem_append_left _ hx)
   · intro s hs
     rw [hF,hin s hs]
     have:=hbd s
     omega
   · intro s hs
     rw [hF,List.count_eq_zero.2 hs,hno2 s hs]
   · have e:=List.take_append_drop c (qkf (qhd gw cs))
     have hdis:∀ s ∈ (qkf (qhd gw cs)).drop c,s ∉ (qkf (qhd gw cs)).take c:=by
      intro s hs hs2
      rw [← e] at hSd
      exact (List.nodup_append.1 hSd).2.2 s hs2 s hs rfl
     have hcl:((qkf (qhd gw cs)).take c).length=c:=by rw [List.length_take,hSl]; omega
     rw [← e,List.map_append,List.sum_append] at hsum ⊢
     rw [sum_add (2 ^ (i+1)) _ (fun s=>2 ^ (i+1) - 2 ^ (i+1 - (qkf ((qvi cs i).take (2 * p))).count s)) ((qkf (qhd gw cs)).take c) (fun s hs=>?_),
      sum_same _ (fun s=>2 ^ (i+1) - 2 ^ (i+1 - (qkf ((qvi cs i).take (2 * p))).count s)) ((qkf (qhd gw cs)).drop c) (fun s hs=>?_),Nat.add_assoc,hsum,hcl]
     · rw [← hcp,Nat.pow_succ,Nat.add_mul,Nat.mul_comm 2 p,Nat.mul_assoc p,Nat.mul_comm 2]
     rotate_left
     · rw [hF,hin s hs]
       have hb:=hbd s
       generalize (qkf ((qvi cs i).take (2 * p))).count s=f at hb
       rw [show i+1+1 - (1+f)=i+1 - f by omega]
       have h3:2 ^ (i+1 - f)≤2 ^ (i+1):=Nat.pow_le_pow_right (by omega) (by omega)
       rw [Nat.pow_succ 2 (i+1)]
       omega
     · rw [hF,List.count_eq_zero.2 (hdis s hs),hno2 s (hdis s hs)]
       simp
theorem full (hn:2≤cs.length) (hp:∀ x ∈ cs,0 < gw x) (h1:∀ x ∈ cs,x.2.length=1) (hd:(qkf cs).Nodup) {L:Nat} (hL:cs.length≤2 ^ L) :
 (∀ s ∈ qkf cs,0 < (qkf ((qvi cs L).take (2 * cs.length - 2))).count s∧(qkf ((qvi cs L).take (2 * cs.length - 2))).count s≤L) ∧
 (∀ s,s ∉ qkf cs→(qkf ((qvi cs L).take (2 * cs.length - 2))).count s=0) ∧
 ∀ K,L≤K→((qkf cs).map fun s=>2 ^ (K - (qkf ((qvi cs L).take (2 * cs.length - 2))).count s)).sum=2 ^ K:=by
 have hS:∀ x ∈ qhd gw cs,x.2.length=1:=fun x hx=>h1 x ((qth _).mem_iff.1 hx)
 have hSl:(qkf (qhd gw cs)).length=cs.length:=by rw [flat_len hS,qzc]
 have hpm:(qkf (qhd gw cs)).Perm (qkf cs):=qeq (qth cs)
 obtain ⟨c,hc,hall,hmem,hcnt,hno,hsum⟩:=takes hn hp h1 hd L (2 * cs.length - 2) (qsp (by omega) hL)
 have hc:=hall (Nat.le_refl _)
 rw [hc,← hSl,List.take_length,hSl] at hcnt hno
 generalize (qvi cs L).take (2 * cs.length - 2)=R at *
 refine ⟨fun s hs=>hcnt s (hpm.mem_iff.2 hs),fun s hs=>hno s (fun h=>hs (hpm.mem_iff.1 h)),fun K hK=>?_⟩
 rw [← (hpm.map _).sum_nat]
 have e1:∀ (l:List Nat),(∀ s ∈ l,(qkf R).count s≤L∧0 < (qkf R).count s)→(l.map fun s=>2 ^ (L+1) - 2 ^ (L+1 - (qkf R).count s)).sum+2 * (l.map fun s=>2 ^ (L - (qkf R).count s)).sum=l.length * 2 ^ (L+1):=by
  intro l
  induction l with
  | nil=>intro _; simp
  | cons a l ih =>
    intro h
    have ha:=h a (by simp)
    have:=ih (fun s hs=>h s (by simp [hs]))
    simp only [List.map_cons,List.sum_cons,List.length_cons]
    have h3:2 ^ (L+1 - (qkf R).count a)=2 * 2 ^ (L - (qkf R).count a):=by
     rw [show L+1 - (qkf R).count a=(L - (qkf R).count a)+1 by omega,Nat.pow_succ,Nat.mul_comm]
    have h4:2 ^ (L+1 - (qkf R).count a)≤2 ^ (L+1):=Nat.pow_le_pow_right (by omega) (by omega)
    rw [Nat.add_mul,Nat.one_mul]
    omega
 have e2:=e1 _ (fun s hs=>⟨(hcnt s hs).2,(hcnt s hs).1⟩)
 rw [hsum,hSl,Nat.pow_succ] at e2
 have e3:((qkf (qhd gw cs)).map fun s=>2 ^ (L - (qkf R).count s)).sum=2 ^ L:=by
  have:(2 * cs.length - 2) * 2 ^ L+2 * 2 ^ L=cs.length * (2 ^ L * 2):=by
   rw [← Nat.add_mul,show 2 * cs.length - 2+2=cs.length * 2 by omega,Nat.mul_assoc,Nat.mul_comm 2]
  omega
 have e4:∀ (l:List Nat),(∀ s ∈ l,(qkf R).count s≤L)→(l.map fun s=>2 ^ (K - (qkf R).count s)).sum=2 ^ (K - L) * (l.map fun s=>2 ^ (L - (qkf R).count s)).sum:=by
  intro l
  induction l with
  | nil=>intro _; simp
  | cons a l ih =>
    intro h
    have ha:=h a (by simp)
    simp only [List.map_cons,List.sum_cons]
    rw [ih (fun s hs=>h s (by simp [hs])),Nat.mul_add,← Nat.pow_add,show K - L+(L - (qkf R).count a)=K - (qkf R).count a by omega]
 rw [e4 _ (fun s hs=>(hcnt s hs).2),e3,← Nat.pow_add,show K - L+L=K by omega]
end
end Go.Proofs.YthdmmmfgjmmelaaGreat
namespace Go.Proofs.YthdmmmfgjmmelaaGreat
set_option linter.unusedVariables false
set_option linter.unusedSimpArgs false
def cnt (t:Int) (l:List Int):Nat:=l.countP fun x=>decide (x≤t)
def coinsP (xs:List Int):List Pg:=(qyd xs).map fun i=>(xs.getD i 0,[i])
def lenF (xs:List Int) (m:Nat) (i:Nat):Nat :=
 if (qyd xs).length < 2 then (if 0 < xs.getD i 0 then 1 else 0) else (qkf ((qvi (coinsP xs) m).take (2 * (qyd xs).length - 2))).count i
def lenP (xs:List Int) (m:Nat):List Int:=qzk xs.length fun i=>lenF xs m i
theorem qcm (xs:List Int):qkf (coinsP xs)=qyd xs:=by
 unfold coinsP
 generalize qyd xs=l
 induction l with
 | nil=>rfl
 | cons a l ih=>rw [List.map_cons,qni,ih]; rfl
theorem qvd (xs:List Int):(coinsP xs).length=(qyd xs).length:=by simp [coinsP]
theorem qnh {xs:List Int} {i:Nat}:i ∈ qyd xs ↔ i < xs.length∧0 < xs.getD i 0:=by
 unfold qyd; simp
theorem qrr (xs:List Int):(qyd xs).Nodup:=List.nodup_range.sublist List.filter_sublist
theorem coins_one (xs:List Int):∀ x ∈ coinsP xs,x.2.length=1:=by
 intro x hx
 obtain ⟨i,_,rfl⟩:=List.mem_map.1 hx
 rfl
theorem coins_pos (xs:List Int):∀ x ∈ coinsP xs,0 < gw x:=by
 intro x hx
 obtain ⟨i,h,rfl⟩:=List.mem_map.1 hx
 exact (qnh.1 h).2
theorem qii (xs:List Int) (m:Nat):(lenP xs m).length=xs.length:=qid _ _
theorem qwp {xs:List Int} {m i:Nat} (h:i < xs.length):(lenP xs m).getD i 0=lenF xs m i:=quf (f:=fun i=>(lenF xs m i:Int)) h
theorem flat_lt {cs:List Pg} {n:Nat} (h:∀ x ∈ cs,∀ s ∈ x.2,s < n):∀ i,∀ x ∈ qvi cs i,∀ s ∈ x.2,s < n:=by
 have hp:∀ l:List Pg,(∀ x ∈ l,∀ s ∈ x.2,s < n)→∀ x ∈ qak l,∀ s ∈ x.2,s < n:=qtj (fun _ x hx=>by cases hx) (fun a _ x hx=>by cases hx) (fun a b r ih h x hx=>by
  rw [qak] at hx
  have ha:=h a (by simp)
  have hb:=h b (by simp)
  rcases List.mem_cons.1 hx with rfl | hx
  · intro s hs
    rcases List.mem_append.1 hs with hs | hs
    · exact ha s hs
    · exact hb s hs
  · exact ih (fun y hy=>h y (by simp [hy])) x hx)
 intro i
 induction i with
 | zero=>intro x hx; cases hx
 | succ i ih =>
   intro x hx
   rcases List.mem_append.1 ((qth _).mem_iff.1 hx) with hx | hx
   · exact h x hx
   · exact hp _ ih x hx
theorem lenF_ok {xs:List Int} {m:Nat} (h:(qyd xs).length≤2 ^ m) (hm:1≤m) {i:Nat} (hi:i < xs.length):lenF xs m i≤m∧(0 < lenF xs m i ↔ 0 < xs.getD i 0):=by
 unfold lenF
 by_cases hc:(qyd xs).length < 2
 · rw [if_pos hc]; split <;> omega
 · rw [if_neg hc]
   obtain ⟨h1,h2,_⟩:=full (cs:=coinsP xs) (by rw [qvd]; omega) (coins_pos xs) (coins_one xs) (by rw [qcm]; exact qrr xs) (L:=m) (by rw [qvd]; exact h)
   rw [qvd,qcm] at h1 h2
   by_cases hx:0 < xs.getD i 0
   · have:=h1 i (qnh.2 ⟨hi,hx⟩); omega
   · have:=h2 i (fun h=>hx (qnh.1 h).2); omega
theorem lenF_full {xs:List Int} {m:Nat} (h:(qyd xs).length≤2 ^ m) (hc:2≤(qyd xs).length) (K:Nat) (hK:m≤K):((qyd xs).map fun i=>2 ^ (K - lenF xs m i)).sum=2 ^ K:=by
 obtain ⟨_,_,h3⟩:=full (cs:=coinsP xs) (by rw [qvd]; omega) (coins_pos xs) (coins_one xs) (by rw [qcm]; exact qrr xs) (L:=m) (by rw [qvd]; exact h)
 rw [qvd,qcm] at h3
 rw [← h3 K hK]
 congr 1
 refine List.map_congr_left fun i hi=>?_
 unfold lenF
 rw [if_neg (by omega)]
theorem come_sum (xs:List Int) (p:Nat→Bool) (g:Nat→Nat) (n:Nat):((List.range n).map fun i=>if p i then g i else 0).sum=(((List.range n).filter p).map g).sum:=by
 generalize List.range n=l
 induction l with
 | nil=>rfl
 | cons a l ih =>
   rw [List.map_cons,List.sum_cons,ih,List.filter_cons]
   cases p a <;> simp
end Go.Proofs.YthdmmmfgjmmelaaGreat
namespace Go.Proofs.YthdmmmfgjmmelaaGreat
open Go Go.Proofs
set_option linter.unusedVariables false
set_option linter.unusedSimpArgs false
attribute [local irreducible] apK cpK mkK br
section
variable {F0:List Nat} {w0 w:World} {ps rest:List As} {s:Sl} {l:List Int}
def goodX (xs:List Int):Prop:=xs.length≤288∧∀ x ∈ xs,¬ badN x
instance (xs:List Int):Decidable (goodX xs):=inferInstanceAs (Decidable (_∧_))
def leastE (xs:List Int) (m:Int):Int:=if ¬ goodX xs ∨ m < 1 ∨ 15 < m then 1 else if 2 ^ m.toNat < (qyd xs).length then 7 else 0
theorem qxn (xs:List Int):(qyd xs).length≤xs.length:=Nat.le_trans (List.length_filter_le _ _) (by simp)
end
end Go.Proofs.YthdmmmfgjmmelaaGreat
