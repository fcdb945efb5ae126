/- Own texts as one, only what is reached (shake.py). -/
import Derived.Test.YthdmmmfgjmmelaaZsc
import Derived.Test.YthdmmmfgjmmelaaProg
namespace Go.Proofs.Ythdmmmfgjmmelaa
open Go Go.Proofs
set_option linter.unusedVariables false
set_option maxRecDepth 100000
def qtf  (Q:VWP) (w:World):Prop :=
 lt (⟨World.heapSize w,0,none⟩:Addr) fun a1 =>
 lt (World.alloc w (.cells (zc Try.prog 244) 244)) fun w2 =>
 ((⟨[.int .i64 16,.int .i64 17,.int .i64 18,.int .i64 0,.int .i64 8,.int .i64 7,.int .i64 9,.int .i64 6,.int .i64 10,.int .i64 5,.int .i64 11,.int .i64 4,.int .i64 12,.int .i64 3,.int .i64 13,.int .i64 2,.int .i64 14,.int .i64 1,.int .i64 15]⟩:Array Value)).size=19 ∧
 stA w2 a1 (⟨[.int .i64 16,.int .i64 17,.int .i64 18,.int .i64 0,.int .i64 8,.int .i64 7,.int .i64 9,.int .i64 6,.int .i64 10,.int .i64 5,.int .i64 11,.int .i64 4,.int .i64 12,.int .i64 3,.int .i64 13,.int .i64 2,.int .i64 14,.int .i64 1,.int .i64 15]⟩:Array Value) fun w3 =>
 ldA w3 a1 19 fun c4 =>
 Q (.agg c4) w3
theorem qtf.ok  (Q:VWP) (w:World) (h:qtf  Q w):Calls Try.prog 186 ⟨[]⟩ w (Ret Q):=by
 refine qn [.cell 0 244] Try.func186 rfl rfl rfl rfl ?_
 exact qg qpb _ (Eq.mp (by kernel_rfl) h)
def qvd (s_0:OAd) (sym_1:Int) (l_2:Sl) (Q:VWP) (w:World):Prop :=
 br ((sym_1:Int) == 16) (
 br ((((l_2.len:Nat):Int):Int) == 0) (
 Calls Try.prog 178 ⟨[.pointer s_0,.int .i64 2]⟩ w fun e1 w2 =>
 e1=.returned (.tuple ⟨[]⟩) ∧
 Q (.tuple ⟨[.int .i64 0,.int .i64 0]⟩) w2) (
 lt (World.drew w) fun w3 =>
 lt (IntKind.i64.wrap (((l_2.len:Nat):Int) - 1)) fun x4 =>
 ixS l_2.a l_2.len x4 1 fun a5 =>
 (ldI .i64 w3 a5 fun x6 =>
 Calls Try.prog 174 ⟨[.pointer s_0,.int .i64 2]⟩ w3 fun e7 w8 =>
 ∃ r9:Int,e7=.returned (.int .i64 r9) ∧
 lt (IntKind.i64.wrap (3+r9)) fun x10 =>
 Q (.tuple ⟨[.int .i64 x6,.int .i64 x10]⟩) w8)∧(
 Calls Try.prog 174 ⟨[.pointer s_0,.int .i64 2]⟩ w3 fun e11 w12 =>
 ∃ r13:Int,e11=.returned (.int .i64 r13) ∧
 lt (IntKind.i64.wrap (3+r13)) fun x14 =>
 ldI .i64 w12 a5 fun x15 =>
 Q (.tuple ⟨[.int .i64 x15,.int .i64 x14]⟩) w12))) (
 br ((sym_1:Int) == 17) (
 Calls Try.prog 174 ⟨[.pointer s_0,.int .i64 3]⟩ w fun e16 w17 =>
 ∃ r18:Int,e16=.returned (.int .i64 r18) ∧
 lt (IntKind.i64.wrap (3+r18)) fun x19 =>
 Q (.tuple ⟨[.int .i64 0,.int .i64 x19]⟩) w17) (
 br ((sym_1:Int) == 18) (
 Calls Try.prog 174 ⟨[.pointer s_0,.int .i64 7]⟩ w fun e20 w21 =>
 ∃ r22:Int,e20=.returned (.int .i64 r22) ∧
 lt (IntKind.i64.wrap (11+r22)) fun x23 =>
 Q (.tuple ⟨[.int .i64 0,.int .i64 x23]⟩) w21) (
 Q (.tuple ⟨[.int .i64 sym_1,.int .i64 1]⟩) w)))
theorem qvd.ok (s_0:OAd) (sym_1:Int) (l_2:Sl) (Q:VWP) (w:World) (h:qvd s_0 sym_1 l_2 Q w):Calls Try.prog 187 ⟨[.pointer s_0,.int .i64 sym_1,.slice l_2.a l_2.len l_2.cap]⟩ w (Ret Q):=by
 refine qn [.tmp 6,.tmp 7] Try.func187 rfl rfl rfl rfl ?_
 exact qg qpb _ (Eq.mp (by kernel_rfl) h)
def qgb.j4 (newslice_7:Sl) (Q:VWP) (w:World):Prop :=
 Q (.slice newslice_7.a newslice_7.len newslice_7.cap) w
def qgb.b1 (newslice_7:Sl) (n_8:Int) (Q:VWP) (nx1:Sl→Int→World→Prop) (w:World):Prop :=
 br (decide ((n_8:Int) < ((newslice_7.len:Nat):Int))) (
 lt (World.drew w) fun w1 =>
 bd n_8 newslice_7.len fun n2 =>
 lt (⟨qzf newslice_7.a newslice_7.cap n2 1,newslice_7.len - n2,newslice_7.cap - n2⟩:Sl) fun s3 =>
 bd n_8 newslice_7.cap fun n4 =>
 lt (⟨qzf newslice_7.a newslice_7.cap 0 1,n4 - 0,newslice_7.cap - 0⟩:Sl) fun s5 =>
 rdO w1 s5.a ((Nat.min s5.len s3.len) * 1) fun c6 =>
 cpK w1 s3.a c6 fun w7 =>
 lt (IntKind.i64.wrap (n_8+((Nat.min s5.len s3.len:Nat):Int))) fun x8 =>
 nx1 newslice_7 x8 w7) (
 qgb.j4 newslice_7 Q w)
def qgb.l1 (newslice_7:Sl) (n_8:Int) (Q:VWP) (w:World):Prop :=
 ∃ (I:Int→World→Prop) (μ:Int→World→Nat),I n_8 w∧∀ n_8:Int,∀ w:World,I n_8 w→qgb.b1 newslice_7 n_8 Q (fun newslice_7' n_8' w'=>(newslice_7'=newslice_7)∧I n_8' w'∧μ n_8' w' < μ n_8 w) w
def qgb.j3 (newslice_7:Sl) (n_8:Int) (Q:VWP) (w:World):Prop :=
 qgb.l1 newslice_7 n_8 Q w
def qgb.j2 (x_0:Sl) (lo_6:Int) (Q:VWP) (w:World):Prop :=
 lt (IntKind.i64.wrap lo_6) fun x9 =>
 mkK Try.prog 3 w x9 x9 fun s10 w11 =>
 rdO w11 x_0.a ((Nat.min x_0.len s10.len) * 1) fun c12 =>
 cpK w11 s10.a c12 fun w13 =>
 qgb.j3 s10 ((Nat.min x_0.len s10.len:Nat):Int) Q w13
def qgb.j1 (x_0:Sl) (count_1:Int) (Q:VWP) (w:World):Prop :=
 lt (IntKind.u64.wrap ((x_0.len:Nat):Int)) fun x14 =>
 lt (IntKind.u64.wrap count_1) fun x15 =>
 Calls Try.prog 189 ⟨[.int .u64 x14,.int .u64 x15]⟩ w fun e16 w17 =>
 ∃ r18:Int,∃ r19:Int,e16=.returned (.tuple ⟨[.int .u64 r18,.int .u64 r19]⟩) ∧
 br (decide ((r18:Int) > 0)) (
 False) (
 br (decide ((r19:Int) > 9223372036854775807)) (
 False) (
 qgb.j2 x_0 r19 Q w17))
def qgb (x_0:Sl) (count_1:Int) (Q:VWP) (w:World):Prop :=
 br (decide ((count_1:Int) < 0)) (
 False) (
 qgb.j1 x_0 count_1 Q w)
theorem qgb.ok (x_0:Sl) (count_1:Int) (Q:VWP) (w:World) (h:qgb x_0 count_1 Q w):Calls Try.prog 188 ⟨[.slice x_0.a x_0.len x_0.cap,.int .i64 count_1]⟩ w (Ret Q):=by
 refine qn [.tmp 4] Try.func188 rfl rfl rfl rfl ?_
 refine qib qpb (fun ρ w=>asL (ρ 0) fun x_0=>asI .i64 (ρ 1) fun count_1=>qgb.j1 x_0 count_1 Q w) (Eq.mp (by kernel_rfl) h) ?_
 intro ρ w h
 obtain ⟨x_0,e0,h⟩:=qj h
 obtain ⟨count_1,e1,h⟩:=qe h
 refine qb e0 (qb (qa e1 rfl) ?_)
 refine qib qpb (fun ρ w=>asL (ρ 0) fun x_0=>asI .u64 (ρ 6) fun lo_6=>qgb.j2 x_0 lo_6 Q w) (Eq.mp (by kernel_rfl) h) ?_
 intro ρ w h
 obtain ⟨x_0,e0,h⟩:=qj h
 obtain ⟨lo_6,e6,h⟩:=qe h
 refine qb e0 (qb (qa e6 rfl) ?_)
 refine qib qpb (fun ρ w=>asL (ρ 7) fun newslice_7=>asI .i64 (ρ 8) fun n_8=>qgb.j3 newslice_7 n_8 Q w) (Eq.mp (by kernel_rfl) h) ?_
 intro ρ w h
 obtain ⟨newslice_7,e7,h⟩:=qj h
 obtain ⟨n_8,e8,h⟩:=qe h
 refine qb e7 (qb (qa e8 rfl) ?_)
 refine qr (fun ρ w=>asL (ρ 7) fun newslice_7=>qgb.j4 newslice_7 Q w) ?_ ?_
 · skip
   refine qcb ?_
   obtain ⟨I,μ,hI,hr⟩:=h
   refine qhb (α:=Int) (fun s ρ=>ρ 8=.int .i64 s∧ρ 7=.slice newslice_7.a newslice_7.len newslice_7.cap) (fun s w=>I s w) (fun s w=>μ s w) n_8 ⟨rfl,rfl⟩ hI ?_
   rintro n_8 ρ w ⟨e8,e7⟩ hI
   have h:=hr n_8 w hI
   clear hr
   obtain ⟨nx1,hnx⟩:∃ nx:Sl→Int→World→Prop,nx=(fun newslice_7' n_8' w'=>(newslice_7'=newslice_7)∧I n_8' w'∧μ n_8' w' < μ n_8 w):=⟨_,rfl⟩
   rw [← hnx] at h
   refine qob (M:=fun ρ w=>asL (ρ 7) fun newslice_7=>asI .i64 (ρ 8) fun n_8=>nx1 newslice_7 n_8 w) ?_ (fun ρ w h=>?_)
   · skip
     refine qb e7 (qb (qa e8 rfl) ?_)
     exact qg qpb _ (Eq.mp (by kernel_rfl) h)
   · skip
     obtain ⟨newslice_7',e7',h⟩:=qj h
     obtain ⟨n_8',e8',h⟩:=qe h
     rw [hnx] at h
     obtain ⟨hu,hI2,hμ⟩:=h
     obtain rfl:=hu
     exact ⟨n_8',⟨e8',e7'⟩,hI2,hμ⟩
 · intro ρ w h
   obtain ⟨newslice_7,e7,h⟩:=qj h
   refine qb e7 ?_
   exact qg qpb _ (Eq.mp (by kernel_rfl) h)
def qh.j7 (d_0:OAd) (t4:Int) (t11:Sl) (Q:VWP) (w:World):Prop :=
 nz d_0 fun a1 =>
 ldI .i64 w (Addr.add a1 3) fun x2 =>
 br ((x2:Int) != 0) (
 Q (.tuple ⟨[.slice none 0 0,.slice none 0 0]⟩) w) (
 lt (World.drew w) fun w3 =>
 bd t4 t11.cap fun n4 =>
 lt (⟨qzf t11.a t11.cap 0 1,n4 - 0,t11.cap - 0⟩:Sl) fun s5 =>
 bd t4 t11.len fun n6 =>
 lt (⟨qzf t11.a t11.cap n6 1,t11.len - n6,t11.cap - n6⟩:Sl) fun s7 =>
 Q (.tuple ⟨[.slice s5.a s5.len s5.cap,.slice s7.a s7.len s7.cap]⟩) w3)
def qh.j9 (d_0:OAd) (t4:Int) (t5:Int) (t10:OAd) (t11:Sl) (t12:Int) (t13:Int) (Q:VWP) (nx1:OAd→Int→Int→OAd→Sl→World→Prop) (w:World):Prop :=
 nz d_0 fun a8 =>
 ldI .i64 w (Addr.add a8 3) fun x9 =>
 br ((x9:Int) == 0) (
 lt (⟨World.heapSize w,0,none⟩:Addr) fun a10 =>
 lt (World.alloc w (.cells ⟨[.int .i64 t12]⟩ 3)) fun w11 =>
 Calls Try.prog 188 ⟨[.slice (some a10) 1 1,.int .i64 t13]⟩ w11 fun e12 w13 =>
 ∃ r14:Sl,e12=.returned (.slice r14.a r14.len r14.cap) ∧
 rdO w13 r14.a (r14.len * 1) fun c15 =>
 apK Try.prog 3 w13 t11.a t11.len t11.cap r14.len c15 fun s16 w17 =>
 nx1 d_0 t4 t5 t10 s16 w17) (
 nx1 d_0 t4 t5 t10 t11 w)
def qh.j8 (d_0:OAd) (t4:Int) (t5:Int) (t10:OAd) (t11:Sl) (Q:VWP) (nx1:OAd→Int→Int→OAd→Sl→World→Prop) (w:World):Prop :=
 Calls Try.prog 184 ⟨[.pointer d_0,.func (.func 23) ⟨[.pointer t10]⟩ ⟨[]⟩]⟩ w fun e18 w19 =>
 ∃ r20:Int,e18=.returned (.int .i64 r20) ∧
 Calls Try.prog 187 ⟨[.pointer d_0,.int .i64 r20,.slice t11.a t11.len t11.cap]⟩ w19 fun e21 w22 =>
 ∃ r23:Int,∃ r24:Int,e21=.returned (.tuple ⟨[.int .i64 r23,.int .i64 r24]⟩) ∧
 lt (IntKind.i64.wrap (t4+t5)) fun x25 =>
 lt (IntKind.i64.wrap (x25 - ((t11.len:Nat):Int))) fun x26 =>
 br (decide ((r24:Int) > x26)) (
 Calls Try.prog 178 ⟨[.pointer d_0,.int .i64 2]⟩ w22 fun e27 w28 =>
 e27=.returned (.tuple ⟨[]⟩) ∧
 qh.j9 d_0 t4 t5 t10 t11 r23 r24 Q nx1 w28) (
 qh.j9 d_0 t4 t5 t10 t11 r23 r24 Q nx1 w22)
def qh.b1 (d_0:OAd) (t4:Int) (t5:Int) (t10:OAd) (t11:Sl) (Q:VWP) (nx1:OAd→Int→Int→OAd→Sl→World→Prop) (w:World):Prop :=
 nz d_0 fun a29 =>
 ldI .i64 w (Addr.add a29 3) fun x30 =>
 br ((x30:Int) == 0) (
 lt (IntKind.i64.wrap (t4+t5)) fun x31 =>
 br (decide ((((t11.len:Nat):Int):Int) < x31)) (
 qh.j8 d_0 t4 t5 t10 t11 Q nx1 w) (
 qh.j7 d_0 t4 t11 Q w)) (
 qh.j7 d_0 t4 t11 Q w)
def qh.l1 (d_0:OAd) (t4:Int) (t5:Int) (t10:OAd) (t11:Sl) (Q:VWP) (w:World):Prop :=
 ∃ (I:Sl→World→Prop) (μ:Sl→World→Nat),I t11 w∧∀ t11:Sl,∀ w:World,I t11 w→qh.b1 d_0 t4 t5 t10 t11 Q (fun d_0' t4' t5' t10' t11' w'=>(d_0'=d_0∧t4'=t4∧t5'=t5∧t10'=t10)∧I t11' w'∧μ t11' w' < μ t11 w) w
def qh.j6 (d_0:OAd) (t4:Int) (t5:Int) (t10:OAd) (t11:Sl) (Q:VWP) (w:World):Prop :=
 qh.l1 d_0 t4 t5 t10 t11 Q w
def qh.j5 (d_0:OAd) (t4:Int) (t5:Int) (t6:Addr) (Q:VWP) (w:World):Prop :=
 lt (⟨cutP t6 19 0 1,19 - 0,19 - 0⟩:Sl) fun s32 =>
 Calls Try.prog 183 ⟨[.pointer d_0,.slice s32.a s32.len s32.cap,.bool false]⟩ w fun e33 w34 =>
 ∃ r35:OAd,e33=.returned (.pointer r35) ∧
 qh.j6 d_0 t4 t5 r35 ⟨none,0,0⟩ Q w34
def qh.b2 (d_0:OAd) (t4:Int) (t5:Int) (t6:Addr) (t32:Sl) (t33:Int) (t34:Int) (Q:VWP) (nx2:OAd→Int→Int→Addr→Sl→Int→Int→World→Prop) (w:World):Prop :=
 br (decide ((t34:Int) < t33)) (
 ixS t32.a t32.len t34 1 fun a36 =>
 ldI .i64 w a36 fun x37 =>
 Calls Try.prog 174 ⟨[.pointer d_0,.int .i64 3]⟩ w fun e38 w39 =>
 ∃ r40:Int,e38=.returned (.int .i64 r40) ∧
 ixA t6 19 x37 1 fun a41 =>
 st w39 a41 (.int .i64 r40) fun w42 =>
 lt (IntKind.i64.wrap (t34+1)) fun x43 =>
 nx2 d_0 t4 t5 t6 t32 t33 x43 w42) (
 qh.j5 d_0 t4 t5 t6 Q w)
def qh.l2 (d_0:OAd) (t4:Int) (t5:Int) (t6:Addr) (t32:Sl) (t33:Int) (t34:Int) (Q:VWP) (w:World):Prop :=
 ∃ (I:Int→World→Prop) (μ:Int→World→Nat),I t34 w∧∀ t34:Int,∀ w:World,I t34 w→qh.b2 d_0 t4 t5 t6 t32 t33 t34 Q (fun d_0' t4' t5' t6' t32' t33' t34' w'=>(d_0'=d_0∧t4'=t4∧t5'=t5∧t6'=t6∧t32'=t32∧t33'=t33)∧I t34' w'∧μ t34' w' < μ t34 w) w
def qh.j10 (d_0:OAd) (t4:Int) (t5:Int) (t6:Addr) (t32:Sl) (t33:Int) (t34:Int) (Q:VWP) (w:World):Prop :=
 qh.l2 d_0 t4 t5 t6 t32 t33 t34 Q w
def qh.j4 (d_0:OAd) (t4:Int) (t5:Int) (t6:Addr) (t7:Addr) (Q:VWP) (w:World):Prop :=
 Calls Try.prog 174 ⟨[.pointer d_0,.int .i64 4]⟩ w fun e44 w45 =>
 ∃ r46:Int,e44=.returned (.int .i64 r46) ∧
 lt (IntKind.i64.wrap (r46+4)) fun x47 =>
 bd x47 19 fun n48 =>
 lt (⟨cutP t7 19 0 1,n48 - 0,19 - 0⟩:Sl) fun s49 =>
 qh.j10 d_0 t4 t5 t6 s49 ((s49.len:Nat):Int) 0 Q w45
def qh.j3 (d_0:OAd) (t4:Int) (t5:Int) (Q:VWP) (w:World):Prop :=
 lt (⟨World.heapSize w,0,none⟩:Addr) fun a50 =>
 lt (World.alloc w (.cells (zc Try.prog 244) 244)) fun w51 =>
 Calls Try.prog 186 ⟨[]⟩ w51 fun e52 w53 =>
 ∃ r54:(Array Value),e52=.returned (.agg r54) ∧
 lt (⟨World.heapSize w53,0,none⟩:Addr) fun a55 =>
 lt (World.alloc w53 (.cells (zc Try.prog 244) 244)) fun w56 =>
 (r54).size=19 ∧
 stA w56 a55 r54 fun w57 =>
 qh.j4 d_0 t4 t5 a50 a55 Q w57
def qh.j2 (d_0:OAd) (t4:Int) (Q:VWP) (w:World):Prop :=
 Calls Try.prog 174 ⟨[.pointer d_0,.int .i64 5]⟩ w fun e58 w59 =>
 ∃ r60:Int,e58=.returned (.int .i64 r60) ∧
 lt (IntKind.i64.wrap (r60+1)) fun x61 =>
 br (decide ((x61:Int) > 30)) (
 Calls Try.prog 178 ⟨[.pointer d_0,.int .i64 2]⟩ w59 fun e62 w63 =>
 e62=.returned (.tuple ⟨[]⟩) ∧
 qh.j3 d_0 t4 x61 Q w63) (
 qh.j3 d_0 t4 x61 Q w59)
def qh.j1 (d_0:OAd) (Q:VWP) (w:World):Prop :=
 Calls Try.prog 174 ⟨[.pointer d_0,.int .i64 5]⟩ w fun e64 w65 =>
 ∃ r66:Int,e64=.returned (.int .i64 r66) ∧
 lt (IntKind.i64.wrap (r66+257)) fun x67 =>
 br (decide ((x67:Int) > 286)) (
 Calls Try.prog 178 ⟨[.pointer d_0,.int .i64 2]⟩ w65 fun e68 w69 =>
 e68=.returned (.tuple ⟨[]⟩) ∧
 qh.j2 d_0 x67 Q w69) (
 qh.j2 d_0 x67 Q w65)
def qh (d_0:OAd) (Q:VWP) (w:World):Prop :=
 qh.j1 d_0 Q w
theorem qh.ok (d_0:OAd) (Q:VWP) (w:World) (h:qh d_0 Q w):Calls Try.prog 177 ⟨[.pointer d_0]⟩ w (Ret Q):=by
 refine qn [.tmp 2,.tmp 3] Try.func177 rfl rfl rfl rfl ?_
 refine qr (fun ρ w=>asP (ρ 0) fun d_0=>qh.j1 d_0 Q w) ?_ ?_
 · skip
   exact qg qpb _ (Eq.mp (by kernel_rfl) h)
 · intro ρ w h
   obtain ⟨d_0,e0,h⟩:=qw h
   refine qb e0 ?_
   refine qib qpb (fun ρ w=>asP (ρ 0) fun d_0=>asI .i64 (ρ 4) fun t4=>qh.j2 d_0 t4 Q w) (Eq.mp (by kernel_rfl) h) ?_
   intro ρ w h
   obtain ⟨d_0,e0,h⟩:=qw h
   obtain ⟨t4,e4,h⟩:=qe h
   refine qb e0 (qb (qa e4 rfl) ?_)
   refine qib qpb (fun ρ w=>asP (ρ 0) fun d_0=>asI .i64 (ρ 4) fun t4=>asI .i64 (ρ 5) fun t5=>qh.j3 d_0 t4 t5 Q w) (Eq.mp (by kernel_rfl) h) ?_
   intro ρ w h
   obtain ⟨d_0,e0,h⟩:=qw h
   obtain ⟨t4,e4,h⟩:=qe h
   obtain ⟨t5,e5,h⟩:=qe h
   refine qb e0 (qb (qa e4 rfl) (qb (qa (qa e5 rfl) rfl) ?_))
   refine qib qpb (fun ρ w=>asP (ρ 0) fun d_0=>asI .i64 (ρ 4) fun t4=>asI .i64 (ρ 5) fun t5=>asA (ρ 6) fun t6=>asA (ρ 7) fun t7=>qh.j4 d_0 t4 t5 t6 t7 Q w) (Eq.mp (by kernel_rfl) h) ?_
   intro ρ w h
   obtain ⟨d_0,e0,h⟩:=qw h
   obtain ⟨t4,e4,h⟩:=qe h
   obtain ⟨t5,e5,h⟩:=qe h
   obtain ⟨t6,e6,h⟩:=qbe h
   obtain ⟨t7,e7,h⟩:=qbe h
   refine qb e0 (qb (qa e4 rfl) (qb (qa (qa e5 rfl) rfl) (qb (qa (qa (qa e6 rfl) rfl) rfl) (qb (qa (qa (qa (qa e7 rfl) rfl) rfl) rfl) ?_))))
   refine qr (fun ρ w=>asP (ρ 0) fun d_0=>asI .i64 (ρ 4) fun t4=>asI .i64 (ρ 5) fun t5=>asA (ρ 6) fun t6=>qh.j5 d_0 t4 t5 t6 Q w) ?_ ?_
   · skip
     refine qr (fun ρ w=>asP (ρ 0) fun d_0=>asI .i64 (ρ 4) fun t4=>asI .i64 (ρ 5) fun t5=>asA (ρ 6) fun t6=>asL (ρ 32) fun t32=>asI .i64 (ρ 33) fun t33=>asI .i64 (ρ 34) fun t34=>qh.j10 d_0 t4 t5 t6 t32 t33 t34 Q w) ?_ ?_
     · skip
       exact qg qpb _ (Eq.mp (by kernel_rfl) h)
     · intro ρ w h
       obtain ⟨d_0,e0,h⟩:=qw h
       obtain ⟨t4,e4,h⟩:=qe h
       obtain ⟨t5,e5,h⟩:=qe h
       obtain ⟨t6,e6,h⟩:=qbe h
       obtain ⟨t32,e32,h⟩:=qj h
       obtain ⟨t33,e33,h⟩:=qe h
       obtain ⟨t34,e34,h⟩:=qe h
       refine qb e0 (qb (qa e4 rfl) (qb (qa (qa e5 rfl) rfl) (qb (qa (qa (qa e6 rfl) rfl) rfl) (qb (qa (qa (qa (qa e32 rfl) rfl) rfl) rfl) (qb (qa (qa (qa (qa (qa e33 rfl) rfl) rfl) rfl) rfl) (qb (qa (qa (qa (qa (qa (qa e34 rfl) rfl) rfl) rfl) rfl) rfl) ?_))))))
       refine qcb ?_
       obtain ⟨I,μ,hI,hr⟩:=h
       refine qhb (α:=Int) (fun s ρ=>ρ 34=.int .i64 s∧ρ 0=.pointer d_0∧ρ 4=.int .i64 t4∧ρ 5=.int .i64 t5∧ρ 6=.pointer (some t6)∧ρ 32=.slice t32.a t32.len t32.cap∧ρ 33=.int .i64 t33) (fun s w=>I s w) (fun s w=>μ s w) t34 ⟨rfl,rfl,rfl,rfl,rfl,rfl,rfl⟩ hI ?_
       rintro t34 ρ w ⟨e34,e0,e4,e5,e6,e32,e33⟩ hI
       have h:=hr t34 w hI
       clear hr
       obtain ⟨nx2,hnx⟩:∃ nx:OAd→Int→Int→Addr→Sl→Int→Int→World→Prop,nx=(fun d_0' t4' t5' t6' t32' t33' t34' w'=>(d_0'=d_0∧t4'=t4∧t5'=t5∧t6'=t6∧t32'=t32∧t33'=t33)∧I t34' w'∧μ t34' w' < μ t34 w):=⟨_,rfl⟩
       rw [← hnx] at h
       refine qob (M:=fun ρ w=>asP (ρ 0) fun d_0=>asI .i64 (ρ 4) fun t4=>asI .i64 (ρ 5) fun t5=>asA (ρ 6) fun t6=>asL (ρ 32) fun t32=>asI .i64 (ρ 33) fun t33=>asI .i64 (ρ 34) fun t34=>nx2 d_0 t4 t5 t6 t32 t33 t34 w) ?_ (fun ρ w h=>?_)
       · skip
         refine qb e0 (qb (qa e4 rfl) (qb (qa (qa e5 rfl) rfl) (qb (qa (qa (qa e6 rfl) rfl) rfl) (qb (qa (qa (qa (qa e32 rfl) rfl) rfl) rfl) (qb (qa (qa (qa (qa (qa e33 rfl) rfl) rfl) rfl) rfl) (qb (qa (qa (qa (qa (qa (qa e34 rfl) rfl) rfl) rfl) rfl) rfl) ?_))))))
         exact qg qpb _ (Eq.mp (by kernel_rfl) h)
       · skip
         obtain ⟨d_0',e0',h⟩:=qw h
         obtain ⟨t4',e4',h⟩:=qe h
         obtain ⟨t5',e5',h⟩:=qe h
         obtain ⟨t6',e6',h⟩:=qbe h
         obtain ⟨t32',e32',h⟩:=qj h
         obtain ⟨t33',e33',h⟩:=qe h
         obtain ⟨t34',e34',h⟩:=qe h
         rw [hnx] at h
         obtain ⟨hu,hI2,hμ⟩:=h
         obtain ⟨rfl,rfl,rfl,rfl,rfl,rfl⟩:=hu
         exact ⟨t34',⟨e34',e0',e4',e5',e6',e32',e33'⟩,hI2,hμ⟩
   · intro ρ w h
     obtain ⟨d_0,e0,h⟩:=qw h
     obtain ⟨t4,e4,h⟩:=qe h
     obtain ⟨t5,e5,h⟩:=qe h
     obtain ⟨t6,e6,h⟩:=qbe h
     refine qb e0 (qb (qa e4 rfl) (qb (qa (qa e5 rfl) rfl) (qb (qa (qa (qa e6 rfl) rfl) rfl) ?_)))
     refine qib qpb (fun ρ w=>asP (ρ 0) fun d_0=>asI .i64 (ρ 4) fun t4=>asI .i64 (ρ 5) fun t5=>asP (ρ 10) fun t10=>asL (ρ 11) fun t11=>qh.j6 d_0 t4 t5 t10 t11 Q w) (Eq.mp (by kernel_rfl) h) ?_
     intro ρ w h
     obtain ⟨d_0,e0,h⟩:=qw h
     obtain ⟨t4,e4,h⟩:=qe h
     obtain ⟨t5,e5,h⟩:=qe h
     obtain ⟨t10,e10,h⟩:=qw h
     obtain ⟨t11,e11,h⟩:=qj h
     refine qb e0 (qb (qa e4 rfl) (qb (qa (qa e5 rfl) rfl) (qb (qa (qa (qa e10 rfl) rfl) rfl) (qb (qa (qa (qa (qa e11 rfl) rfl) rfl) rfl) ?_))))
     refine qr (fun ρ w=>asP (ρ 0) fun d_0=>asI .i64 (ρ 4) fun t4=>asL (ρ 11) fun t11=>qh.j7 d_0 t4 t11 Q w) ?_ ?_
     · skip
       refine qcb ?_
       obtain ⟨I,μ,hI,hr⟩:=h
       refine qhb (α:=Sl) (fun s ρ=>ρ 11=.slice s.a s.len s.cap∧ρ 0=.pointer d_0∧ρ 4=.int .i64 t4∧ρ 5=.int .i64 t5∧ρ 10=.pointer t10) (fun s w=>I s w) (fun s w=>μ s w) t11 ⟨rfl,rfl,rfl,rfl,rfl⟩ hI ?_
       rintro t11 ρ w ⟨e11,e0,e4,e5,e10⟩ hI
       have h:=hr t11 w hI
       clear hr
       obtain ⟨nx1,hnx⟩:∃ nx:OAd→Int→Int→OAd→Sl→World→Prop,nx=(fun d_0' t4' t5' t10' t11' w'=>(d_0'=d_0∧t4'=t4∧t5'=t5∧t10'=t10)∧I t11' w'∧μ t11' w' < μ t11 w):=⟨_,rfl⟩
       rw [← hnx] at h
       refine qob (M:=fun ρ w=>asP (ρ 0) fun d_0=>asI .i64 (ρ 4) fun t4=>asI .i64 (ρ 5) fun t5=>asP (ρ 10) fun t10=>asL (ρ 11) fun t11=>nx1 d_0 t4 t5 t10 t11 w) ?_ (fun ρ w h=>?_)
       · skip
         refine qb e0 (qb (qa e4 rfl) (qb (qa (qa e5 rfl) rfl) (qb (qa (qa (qa e10 rfl) rfl) rfl) (qb (qa (qa (qa (qa e11 rfl) rfl) rfl) rfl) ?_))))
         refine qr (fun ρ w=>asP (ρ 0) fun d_0=>asI .i64 (ρ 4) fun t4=>asI .i64 (ρ 5) fun t5=>asP (ρ 10) fun t10=>asL (ρ 11) fun t11=>qh.j8 d_0 t4 t5 t10 t11 Q nx1 w) ?_ ?_
         · skip
           exact qg qpb _ (Eq.mp (by kernel_rfl) h)
         · intro ρ w h
           obtain ⟨d_0,e0,h⟩:=qw h
           obtain ⟨t4,e4,h⟩:=qe h
           obtain ⟨t5,e5,h⟩:=qe h
           obtain ⟨t10,e10,h⟩:=qw h
           obtain ⟨t11,e11,h⟩:=qj h
           refine qb e0 (qb (qa e4 rfl) (qb (qa (qa e5 rfl) rfl) (qb (qa (qa (qa e10 rfl) rfl) rfl) (qb (qa (qa (qa (qa e11 rfl) rfl) rfl) rfl) ?_))))
           refine qcb ?_
           refine qib qpb (fun ρ w=>asP (ρ 0) fun d_0=>asI .i64 (ρ 4) fun t4=>asI .i64 (ρ 5) fun t5=>asP (ρ 10) fun t10=>asL (ρ 11) fun t11=>asI .i64 (ρ 12) fun t12=>asI .i64 (ρ 13) fun t13=>qh.j9 d_0 t4 t5 t10 t11 t12 t13 Q nx1 w) (Eq.mp (by kernel_rfl) h) ?_
           intro ρ w h
           obtain ⟨d_0,e0,h⟩:=qw h
           obtain ⟨t4,e4,h⟩:=qe h
           obtain ⟨t5,e5,h⟩:=qe h
           obtain ⟨t10,e10,h⟩:=qw h
           obtain ⟨t11,e11,h⟩:=qj h
           obtain ⟨t12,e12,h⟩:=qe h
           obtain ⟨t13,e13,h⟩:=qe h
           refine qb e0 (qb (qa e4 rfl) (qb (qa (qa e5 rfl) rfl) (qb (qa (qa (qa e10 rfl) rfl) rfl) (qb (qa (qa (qa (qa e11 rfl) rfl) rfl) rfl) (qb (qa (qa (qa (qa (qa e12 rfl) rfl) rfl) rfl) rfl) (qb (qa (qa (qa (qa (qa (qa e13 rfl) rfl) rfl) rfl) rfl) rfl) ?_))))))
           exact qg qpb _ (Eq.mp (by kernel_rfl) h)
       · skip
         obtain ⟨d_0',e0',h⟩:=qw h
         obtain ⟨t4',e4',h⟩:=qe h
         obtain ⟨t5',e5',h⟩:=qe h
         obtain ⟨t10',e10',h⟩:=qw h
         obtain ⟨t11',e11',h⟩:=qj h
         rw [hnx] at h
         obtain ⟨hu,hI2,hμ⟩:=h
         obtain ⟨rfl,rfl,rfl,rfl⟩:=hu
         exact ⟨t11',⟨e11',e0',e4',e5',e10'⟩,hI2,hμ⟩
     · intro ρ w h
       obtain ⟨d_0,e0,h⟩:=qw h
       obtain ⟨t4,e4,h⟩:=qe h
       obtain ⟨t11,e11,h⟩:=qj h
       refine qb e0 (qb (qa e4 rfl) (qb (qa (qa e11 rfl) rfl) ?_))
       exact qg qpb _ (Eq.mp (by kernel_rfl) h)
end Go.Proofs.Ythdmmmfgjmmelaa
namespace Go.Proofs.Ythdmmmfgjmmelaa
open Go Go.Proofs
set_option linter.unusedVariables false
set_option maxRecDepth 100000
def qlk (x_0 y_1:Int) (Q:VWP) (w:World):Prop :=
 Calls Try.prog 191 ⟨[.int .u64 x_0,.int .u64 y_1]⟩ w fun e1 w2 =>
 ∃ r3:Int,∃ r4:Int,e1=.returned (.tuple ⟨[.int .u64 r3,.int .u64 r4]⟩) ∧
 Q (.tuple ⟨[.int .u64 r3,.int .u64 r4]⟩) w2
theorem qlk.ok (x_0:Int) (y_1:Int) (Q:VWP) (w:World) (h:qlk x_0 y_1 Q w):Calls Try.prog 189 ⟨[.int .u64 x_0,.int .u64 y_1]⟩ w (Ret Q):=by
 refine qn [.tmp 4,.tmp 5] Try.func189 rfl rfl rfl rfl ?_
 exact qg qpb _ (Eq.mp (by kernel_rfl) h)
def qkk (x_0 y_1:Int) (Q:VWP) (w:World):Prop :=
 lt (andV .u64 x_0 4294967295) fun x1 =>
 (0:Int)≤32 ∧
 lt (shrV .u64 x_0 32) fun x2 =>
 lt (andV .u64 y_1 4294967295) fun x3 =>
 (0:Int)≤32 ∧
 lt (shrV .u64 y_1 32) fun x4 =>
 lt (IntKind.u64.wrap (x1 * x3)) fun x5 =>
 lt (IntKind.u64.wrap (x2 * x3)) fun x6 =>
 (0:Int)≤32 ∧
 lt (shrV .u64 x5 32) fun x7 =>
 lt (IntKind.u64.wrap (x6+x7)) fun x8 =>
 lt (andV .u64 x8 4294967295) fun x9 =>
 (0:Int)≤32 ∧
 lt (shrV .u64 x8 32) fun x10 =>
 lt (IntKind.u64.wrap (x1 * x4)) fun x11 =>
 lt (IntKind.u64.wrap (x9+x11)) fun x12 =>
 lt (IntKind.u64.wrap (x2 * x4)) fun x13 =>
 lt (IntKind.u64.wrap (x13+x10)) fun x14 =>
 (0:Int)≤32 ∧
 lt (shrV .u64 x12 32) fun x15 =>
 lt (IntKind.u64.wrap (x14+x15)) fun x16 =>
 lt (IntKind.u64.wrap (x_0 * y_1)) fun x17 =>
 Q (.tuple ⟨[.int .u64 x16,.int .u64 x17]⟩) w
theorem qkk.ok (x_0:Int) (y_1:Int) (Q:VWP) (w:World) (h:qkk x_0 y_1 Q w):Calls Try.prog 191 ⟨[.int .u64 x_0,.int .u64 y_1]⟩ w (Ret Q):=by
 refine qn [.tmp 4,.tmp 5] Try.func191 rfl rfl rfl rfl ?_
 exact qg qpb _ (Eq.mp (by kernel_rfl) h)
end Go.Proofs.Ythdmmmfgjmmelaa
namespace Go.Proofs.Ythdmmmfgjmmelaa
open Go Go.Proofs
set_option linter.unusedVariables false
set_option linter.unusedSimpArgs false
attribute [local irreducible] apK cpK mkK br
def qvf:List Int:=[16,17,18,0,8,7,9,6,10,5,11,4,12,3,13,2,14,1,15]
def zclr (B:List Bool) (z:Z):Nat→List Int × Z
 | 0=>(List.replicate 19 0,z)
 | k+1=>((zclr B z k).1.set (qvf.getD k 0).toNat (qhe B 3 (zclr B z k).2).1,(qhe B 3 (zclr B z k).2).2)
def zagain (B:List Bool) (sym:Int) (l:List Int) (z:Z):(Int × Int) × Z :=
 if sym=16 then (if l.length=0 then ((0,0),qod 2 z) else ((l.getD (l.length - 1) 0,3+(qhe B 2 z).1),(qhe B 2 z).2))
 else if sym=17 then ((0,3+(qhe B 3 z).1),(qhe B 3 z).2)
 else if sym=18 then ((0,11+(qhe B 7 z).1),(qhe B 7 z).2)
 else ((sym,1),z)
def zllS (cl:List Int) (B:List Bool) (N:Nat) (l:List Int) (z:Z):List Int × Z :=
 let s:=qdj cl B z
 let a:=zagain B s.1 l s.2
 let z3:=if (N:Int) - l.length < a.1.2 then qod 2 a.2 else a.2
 (if z3.2.2=0 then l ++ List.replicate a.1.2.toNat a.1.1 else l,z3)
def zll (cl:List Int) (B:List Bool) (N:Nat):Nat→List Int→Z→List Int × Z
 | 0,l,z=>(l,z)
 | f+1,l,z=>if z.2.2 ≠ 0 ∨ N≤l.length then (l,z) else zll cl B N f (zllS cl B N l z).1 (zllS cl B N l z).2
def zcodeH (ls:List Int) (half:Bool) (z:Z):Z:=if z.2.2=0∧qih ls half ≠ 0 then qod 2 z else z
def zlens (B:List Bool) (z:Z):(List Int × List Int) × Z :=
 let g1:=qhe B 5 z
 let nl:=g1.1+257
 let g2:=qhe B 5 (if 286 < nl then qod 2 g1.2 else g1.2)
 let nd:=g2.1+1
 let g3:=qhe B 4 (if 30 < nd then qod 2 g2.2 else g2.2)
 let c:=zclr B g3.2 (g3.1+4).toNat
 let r:=zll c.1 B (nl+nd).toNat ((nl+nd).toNat+1) [] (zcodeH c.1 false c.2)
 if r.2.2.2 ≠ 0 then (([],[]),r.2) else ((r.1.take nl.toNat,r.1.drop nl.toNat),r.2)
def qdd (B:List Bool) (most:Int) (z:Z):Bool × Z :=
 let a:=qhe B 1 z
 let k:=qhe B 2 a.2
 if k.2.2.2 ≠ 0 then (false,k.2) else if k.1=0 then (a.1 == 1,zstored B most k.2) else if k.1=1 then (a.1 == 1,zblk qkg qxd B most k.2)
 else if k.1=2 then (a.1 == 1,let q:=zlens B k.2; if q.2.2.2 ≠ 0 then q.2 else zblk q.1.1 q.1.2 B most q.2) else (a.1 == 1,qod 2 k.2)
inductive ZAll (B:List Bool) (most:Int):Nat→Z→Z→Prop
 | bad {z:Z} (he:(qdd B most z).2.2.2 ≠ 0):ZAll B most 0 z (qdd B most z).2
 | last {z:Z} (he:(qdd B most z).2.2.2=0) (hl:(qdd B most z).1=true):ZAll B most 0 z (qdd B most z).2
 | next {n:Nat} {z z':Z} (he:(qdd B most z).2.2.2=0) (hl:(qdd B most z).1=false) (hr:ZAll B most n (qdd B most z).2 z'):ZAll B most (n+1) z z'
section
variable {B:List Bool} {most:Int} {z:Z}
theorem qzi (n:Int) (h:z.1≤B.length):z.1≤(qhe B n z).2.1∧(qhe B n z).2.1≤B.length:=qpm n h
theorem zclr_len (k:Nat):(zclr B z k).1.length=19:=by
 induction k with
 | zero=>rfl
 | succ k ih=>rw [zclr,List.length_set,ih]
theorem zclr_p (h:z.1≤B.length) (k:Nat):z.1≤(zclr B z k).2.1∧(zclr B z k).2.1≤B.length:=by
 induction k with
 | zero=>exact ⟨Nat.le_refl _,h⟩
 | succ k ih =>
   have:=qzi (B:=B) (z:=(zclr B z k).2) 3 ih.2
   rw [zclr]
   exact ⟨by simp only; omega,this.2⟩
theorem zagain_p (sym:Int) (l:List Int) (h:z.1≤B.length):z.1≤(zagain B sym l z).2.1∧(zagain B sym l z).2.1≤B.length:=by
 unfold zagain
 split
 · split
   · exact ⟨Nat.le_refl _,h⟩
   · exact qzi 2 h
 · split
   · exact qzi 3 h
   · split
     · exact qzi 7 h
     · exact ⟨Nat.le_refl _,h⟩
theorem qgf (n:Int) (hn:n≤16):0≤(qhe B n z).1∧(qhe B n z).1 < 65536:=by
 have h1:=qrk (B:=B) (z:=z) n
 have h2:(2:Int) ^ n.toNat≤(65536:Int):=by
  have:=pow_leI (a:=n.toNat) (b:=16) (c:=65536) (by omega) (by decide)
  exact this
 omega
theorem zagain_n (sym:Int) (l:List Int):0≤(zagain B sym l z).1.2∧(zagain B sym l z).1.2≤70000∧((zagain B sym l z).2.2.2=0→1≤(zagain B sym l z).1.2):=by
 unfold zagain
 split
 · split
   · exact ⟨Int.le_refl _,(show (0:Int)≤70000 by decide),fun h=>absurd h (qjh (by decide))⟩
   · have:=qgf (B:=B) (z:=z) 2 (by decide)
     simp only; omega
 · split
   · have:=qgf (B:=B) (z:=z) 3 (by decide)
     simp only; omega
   · split
     · have:=qgf (B:=B) (z:=z) 7 (by decide)
       simp only; omega
     · simp only; omega
theorem zllS_p {cl:List Int} {N:Nat} (l:List Int) (h:z.1≤B.length):z.1≤(zllS cl B N l z).2.1∧(zllS cl B N l z).2.1≤B.length:=by
 unfold zllS
 simp only
 have h1:=zsym_fwd (B:=B) cl (z:=z) h
 have h2:=zagain_p (B:=B) (qdj cl B z).1 l (z:=(qdj cl B z).2) h1.2
 have h3:=h1.1
 split
 · rw [qbn]; omega
 · omega
theorem zll_p {cl:List Int} {N:Nat}:∀ (f:Nat) (l:List Int) (z:Z),z.1≤B.length→z.1≤(zll cl B N f l z).2.1∧(zll cl B N f l z).2.1≤B.length:=by
 intro f
 induction f with
 | zero=>intro l z h; exact ⟨Nat.le_refl _,h⟩
 | succ f ih =>
   intro l z h
   rw [zll]
   split
   · exact ⟨Nat.le_refl _,h⟩
   · have h1:=zllS_p (cl:=cl) (N:=N) l h
     have:=ih (zllS cl B N l z).1 (zllS cl B N l z).2 h1.2
     omega
theorem zcodeH_p (ls:List Int) (half:Bool):(zcodeH ls half z).1=z.1:=by unfold zcodeH; split <;> rfl
theorem zlens_p (h:z.1≤B.length):z.1≤(zlens B z).2.1∧(zlens B z).2.1≤B.length:=by
 unfold zlens
 simp only
 have h1:=qzi (B:=B) (z:=z) 5 h
 generalize qhe B 5 z=g1 at h1 ⊢
 have e1:(if 286 < g1.1+257 then qod 2 g1.2 else g1.2).1=g1.2.1:=by split <;> rfl
 generalize (if 286 < g1.1+257 then qod 2 g1.2 else g1.2)=y1 at e1 ⊢
 have h2:=qzi (B:=B) (z:=y1) 5 (by omega)
 generalize qhe B 5 y1=g2 at h2 ⊢
 have e2:(if 30 < g2.1+1 then qod 2 g2.2 else g2.2).1=g2.2.1:=by split <;> rfl
 generalize (if 30 < g2.1+1 then qod 2 g2.2 else g2.2)=y2 at e2 ⊢
 have h3:=qzi (B:=B) (z:=y2) 4 (by omega)
 generalize qhe B 4 y2=g3 at h3 ⊢
 have h4:=zclr_p (B:=B) (z:=g3.2) h3.2 (g3.1+4).toNat
 generalize zclr B g3.2 (g3.1+4).toNat=c at h4 ⊢
 have e5:=zcodeH_p (z:=c.2) c.1 false
 have h5:=zll_p (cl:=c.1) (N:=(g1.1+257+(g2.1+1)).toNat) (B:=B) ((g1.1+257+(g2.1+1)).toNat+1) [] (zcodeH c.1 false c.2) (by omega)
 split
 · simp only; omega
 · simp only; omega
theorem zllS_out {cl:List Int} {N:Nat} (l:List Int):(zllS cl B N l z).2.2.1=z.2.1:=by
 have ha:∀ (sym:Int) (l:List Int) (z:Z),(zagain B sym l z).2.2.1=z.2.1:=by
  intro sym l z
  unfold zagain
  split
  · split
    · rfl
    · exact qyc _
  · split
    · exact qyc _
    · split
      · exact qyc _
      · rfl
 unfold zllS
 simp only
 split
 · show (zagain _ _ _ _).2.2.1=_
   rw [ha,qlg]
 · rw [ha,qlg]
theorem qan:(zlens B z).2.2.1=z.2.1:=by
 have hcl:∀ k (z:Z),(zclr B z k).2.2.1=z.2.1:=by
  intro k z
  induction k with
  | zero=>rfl
  | succ k ih=>rw [zclr]; simp only; rw [qyc,ih]
 have hll:∀ cl N f l (z:Z),(zll cl B N f l z).2.2.1=z.2.1:=by
  intro cl N f
  induction f with
  | zero=>intro l z; rfl
  | succ f ih =>
    intro l z
    rw [zll]
    split
    · rfl
    · rw [ih,zllS_out]
 have hc:∀ ls half (z:Z),(zcodeH ls half z).2.1=z.2.1:=by intro ls half z; unfold zcodeH; split <;> rfl
 unfold zlens
 simp only
 have h1:=qyc (B:=B) (z:=z) 5
 generalize qhe B 5 z=g1 at h1 ⊢
 have e1:(if 286 < g1.1+257 then qod 2 g1.2 else g1.2).2.1=g1.2.2.1:=by split <;> rfl
 generalize (if 286 < g1.1+257 then qod 2 g1.2 else g1.2)=y1 at e1 ⊢
 have h2:=qyc (B:=B) (z:=y1) 5
 generalize qhe B 5 y1=g2 at h2 ⊢
 have e2:(if 30 < g2.1+1 then qod 2 g2.2 else g2.2).2.1=g2.2.2.1:=by split <;> rfl
 generalize (if 30 < g2.1+1 then qod 2 g2.2 else g2.2)=y2 at e2 ⊢
 have h3:=qyc (B:=B) (z:=y2) 4
 generalize qhe B 4 y2=g3 at h3 ⊢
 have h4:=hcl (g3.1+4).toNat g3.2
 generalize zclr B g3.2 (g3.1+4).toNat=c at h4 ⊢
 have h5:=hll c.1 (g1.1+257+(g2.1+1)).toNat ((g1.1+257+(g2.1+1)).toNat+1) [] (zcodeH c.1 false c.2)
 rw [hc] at h5
 split
 · simp only; rw [h5,h4,h3,e2,h2,e1,h1]
 · simp only; rw [h5,h4,h3,e2,h2,e1,h1]
theorem zll_len {cl:List Int} {N:Nat}:∀ (f:Nat) (l:List Int) (z:Z),l.length≤N→N < f+l.length→(zll cl B N f l z).2.2.2=0→(zll cl B N f l z).1.length=N:=by
 intro f
 induction f with
 | zero=>intro l z h1 h2 _; omega
 | succ f ih =>
   intro l z h1 h2 h3
   rw [zll] at h3 ⊢
   split at h3
   · rename_i hc
     rw [if_pos hc]
     rcases hc with hc | hc
     · exact absurd h3 hc
     · simp only; omega
   · rename_i hc
     rw [if_neg hc]
     have hstep:(zllS cl B N l z).1.length≤N∧((zllS cl B N l z).2.2.2=0→l.length < (zllS cl B N l z).1.length):=by
      have hn:=zagain_n (B:=B) (z:=(qdj cl B z).2) (qdj cl B z).1 l
      unfold zllS
      simp only
      split
      · rw [if_neg (qjh (by decide))]
        exact ⟨h1,fun h=>absurd h (qjh (by decide))⟩
      · rename_i hle
        split
        · rename_i h0
          have:=hn.2.2 h0
          rw [List.length_append,List.length_replicate]
          exact ⟨by omega,fun _=>by omega⟩
        · rename_i h0
          exact ⟨h1,fun h=>absurd h h0⟩
     by_cases h0:(zllS cl B N l z).2.2.2=0
     · exact ih _ _ hstep.1 (by have:=hstep.2 h0; omega) h3
     · exfalso
       have:∀ f l (z:Z),z.2.2 ≠ 0→zll cl B N f l z=(l,z):=by
        intro f l z hz
        cases f with
        | zero=>rfl
        | succ f=>rw [zll,if_pos (Or.inl hz)]
       rw [this _ _ _ h0] at h3
       exact h0 h3
theorem zlens_len (h:(zlens B z).2.2.2=0):257≤(zlens B z).1.1.length:=by
 unfold zlens at h ⊢
 simp only at h ⊢
 have hg1:=qgf (B:=B) (z:=z) 5 (by decide)
 generalize qhe B 5 z=g1 at h hg1 ⊢
 generalize (if 286 < g1.1+257 then qod 2 g1.2 else g1.2)=y1 at h ⊢
 have hg2:=qgf (B:=B) (z:=y1) 5 (by decide)
 generalize qhe B 5 y1=g2 at h hg2 ⊢
 generalize zclr B (qhe B 4 (if 30 < g2.1+1 then qod 2 g2.2 else g2.2)).2 ((qhe B 4 (if 30 < g2.1+1 then qod 2 g2.2 else g2.2)).1+4).toNat=c at h ⊢
 have hl:=zll_len (cl:=c.1) (B:=B) (N:=(g1.1+257+(g2.1+1)).toNat) ((g1.1+257+(g2.1+1)).toNat+1) [] (zcodeH c.1 false c.2) (by simp) (by simp)
 generalize zll c.1 B (g1.1+257+(g2.1+1)).toNat ((g1.1+257+(g2.1+1)).toNat+1) [] (zcodeH c.1 false c.2)=r at h hl ⊢
 split at h
 · rename_i h0
   exact absurd h h0
 · rename_i h0
   rw [if_neg h0]
   have:=hl (Classical.byContradiction h0)
   simp only [List.length_take]
   omega
theorem zblk_len2 {ll dl:List Int} (hm:most≤1000000) (h:z.2.1.length≤1000000):(zblk ll dl B most z).2.1.length≤1000000:=by
 unfold zblk
 simp only
 have e1:(qcg dl (qcg ll (if z.2.2=0∧ll.getD 256 0=0 then qod 2 z else z))).2.1.length≤1000000:=by
  rw [qyk,qyk]
  split <;> exact h
 generalize qcg dl (qcg ll (if z.2.2=0∧ll.getD 256 0=0 then qod 2 z else z))=z3 at e1 ⊢
 split
 · exact e1
 · exact zcoded_len hm _ _ e1
end
section
variable {F0:List Nat} {w0 w:World} {ps rest:List As} {s:Sl}
theorem St.cp {k:IntKind} {zs ys:List Int} {K:World→Prop} (h:St F0 w0 w (qdc 1 s (ivs k zs) :: ps)) (o:Nat) (ho:o+ys.length≤zs.length) (hk:∀ w',St F0 w0 w' (qdc 1 s (ivs k (zs.take o ++ ys ++ zs.drop (o+ys.length))) :: ps)→K w'):cpK w (qzf s.a s.cap o 1) ⟨ivs k ys⟩ K:=by
 unfold cpK
 have hl:=h.len
 rw [qx] at hl
 obtain ⟨f,hown,hst⟩:=h.step
 rcases hown with ⟨rfl,hnil,rfl⟩ | ⟨ob,rs,h1,hb,h2,h3,rfl⟩
 · have hz:zs=[]:=by simpa using hnil
   subst hz
   have hy:ys=[]:=List.length_eq_zero_iff.1 (by simp only [List.length_nil] at ho; omega)
   subst hy
   have e:qzf (none:Option Addr) 0 o 1=none:=by unfold qzf; split <;> rfl
   simp only [e]
   have:=hk w (by simpa using h)
   exact this
 · rw [List.length_append] at h3
   rw [qx] at h2 h3
   have e:qzf s.a s.cap o 1=some ⟨ob,if s.cap=o then 0 else o,none⟩:=by
    unfold qzf
    rw [h1]
    split
    · rfl
    · rw [Option.map_some,qme,Nat.zero_add,Nat.mul_one]
   rw [e]
   simp only
   by_cases hc:s.cap=o
   · have hy:ys=[]:=List.length_eq_zero_iff.1 (by omega)
     subst hy
     rw [if_pos hc]
     refine qnn hb (by simp) (by simp) fun w' hm hb'=>?_
     refine hk w' (hst w' [ob] _ hm (Gr.refl _ _) (Or.inr ⟨ob,rs,h1,?_,?_,?_,rfl⟩))
     · simpa using hb'
     · simp only [List.append_nil,List.length_nil,Nat.add_zero,List.take_append_drop]; rw [qx]; omega
     · simp only [List.append_nil,List.length_nil,Nat.add_zero,List.take_append_drop]; rw [List.length_append,qx]; omega
   · rw [if_neg hc]
     refine qnn hb (by show o+(ivs k ys).length≤_; rw [qx,List.length_append,qx]; omega) qof fun w' hm hb'=>?_
     have e2:(ivs k zs ++ rs).take o ++ (ivs k ys) ++ (ivs k zs ++ rs).drop (o+(ivs k ys).length)=ivs k (zs.take o ++ ys ++ zs.drop (o+ys.length)) ++ rs:=by
      rw [qx,List.take_append,List.drop_append,qx,show o - zs.length=0 by omega,show o+ys.length - zs.length=0 by omega,List.take_zero,List.append_nil,List.drop_zero,qhl,ivs_drop,ivs_app]
      rw [← List.append_assoc,ivs_app]
     have hb'':Blk w' ob (ivs k (zs.take o ++ ys ++ zs.drop (o+ys.length)) ++ rs):=by rw [← e2]; exact hb'
     refine hk w' (hst w' [ob] _ hm (Gr.refl _ _) (Or.inr ⟨ob,rs,h1,hb'',?_,?_,rfl⟩))
     · rw [qx]; simp only [List.length_append,List.length_take,List.length_drop]; omega
     · rw [List.length_append,qx]; simp only [List.length_append,List.length_take,List.length_drop]; omega
theorem St.cut0 {sz c:Nat} {cs:List Value} (h:St F0 w0 w (qdc sz s cs :: ps)):qzf s.a c 0 sz=s.a:=by
 obtain ⟨F,hown⟩:=h.own
 unfold qzf
 split
 · rfl
 · rcases hown with ⟨rfl,_,_⟩ | ⟨ob,rs,h1,_⟩
   · rfl
   · rw [h1,Option.map_some,qme,Nat.zero_mul]
theorem Rd.rdOp {w:World} {s:Sl} {cs:List Value} {k:Nat} {K:Array Value→Prop} (h:Rd w 1 s cs) (hk:k≤cs.length) (hK:K ⟨cs.take k⟩):Go.Proofs.Ythdmmmfgjmmelaa.rdO w s.a k K:=by
 refine Rd.rdO (s:=⟨s.a,k,0⟩) (sz:=1) (cs:=cs.take k) ⟨by rw [List.length_take,Nat.mul_one]; exact Nat.min_eq_left hk,fun i hi=>?_⟩ (by rw [List.length_take]; omega) hK
 rw [List.length_take] at hi
 obtain ⟨a,ha,hc⟩:=h.2 i (by omega)
 exact ⟨a,ha,by rw [hc,List.getElem?_take,if_pos (by omega)]⟩
theorem qlk.c {n:Nat} {K:Ending→World→Prop} (hn:n < 4294967296) (hk:K (.returned (.tuple ⟨[.int .u64 0,.int .u64 n]⟩)) w):Calls Try.prog 189 ⟨[.int .u64 1,.int .u64 n]⟩ w K:=by
 refine qoc (qlk.ok _ _ _ _ ?_)
 unfold qlk
 refine qoc (qkk.ok _ _ _ _ ?_)
 unfold qkk
 have a1:andV .u64 (n:Int) 4294967295=n:=by
  have:=qym .u64 (n:Int) (t:=32) (by decide)
  rw [show ((2:Int) ^ 32 - 1)=4294967295 by decide] at this
  rw [this]
  omega
 have s1:∀ x:Int,0≤x→x < 4294967296→shrV .u64 x 32=0:=by
  intro x h0 h1
  have:=qdl .u64 x (t:=32) (by decide)
  rw [show ((32:Nat):Int)=32 from rfl] at this
  rw [this]
  show x / 4294967296=0
  omega
 have w0':IntKind.u64.wrap 0=0:=by decide
 refine qy (show _=(1:Int) by decide) ⟨by decide,?_⟩
 refine qy (s1 1 (by decide) (by decide)) ?_
 refine qy a1 ⟨by decide,?_⟩
 refine qy (s1 _ (by omega) (by omega)) ?_
 refine qy (show IntKind.u64.wrap (1 * (n:Int))=n by rw [Int.one_mul]; exact qin (by omega) (by omega)) ?_
 refine qy (show IntKind.u64.wrap (0 * (n:Int))=0 by rw [Int.zero_mul]; exact w0') ⟨by decide,?_⟩
 refine qy (s1 _ (by omega) (by omega)) ?_
 refine qy (show _=(0:Int) by decide) (qy (show _=(0:Int) by decide) ⟨by decide,?_⟩)
 refine qy (s1 0 (by decide) (by decide)) ?_
 refine qy (show _=(0:Int) by decide) (qy (show _=(0:Int) by decide) (qy (show _=(0:Int) by decide) (qy (show _=(0:Int) by decide) ⟨by decide,?_⟩)))
 refine qy (s1 0 (by decide) (by decide)) ?_
 refine qy (show _=(0:Int) by decide) ?_
 refine qy (show IntKind.u64.wrap (1 * (n:Int))=n by rw [Int.one_mul]; exact qin (by omega) (by omega)) ⟨_,_,rfl,hk⟩
theorem qgb.c {x:Int} {n:Nat} {K:Ending→World→Prop} (h:St F0 w0 w ps) [Rdb F0 w0 s ps 1 (ivs .i64 [x])] (hn:n≤1000000)
 (hk:∀ t w',t.len=n→St F0 w0 w' (qdc 1 t (ivs .i64 (List.replicate n x)) :: ps)→K (.returned (.slice t.a t.len t.cap)) w'):Calls Try.prog 188 ⟨[.slice s.a s.len s.cap,.int .i64 n]⟩ w K:=by
 have hl:=(h.rdb s).1
 have hl:s.len=1:=by
  have h2:(ivs .i64 [x]).length=s.len * 1:=hl
  simp at h2
  omega
 refine qoc (qgb.ok _ _ _ _ ?_)
 unfold qgb
 refine qzc (fun g=>by omega) (fun _=>?_)
 unfold qgb.j1
 rw [hl]
 refine qy (show _=(1:Int) by decide) ?_
 refine qy (qin (by omega) (by omega)) ?_
 refine qlk.c (by omega) ⟨_,_,rfl,?_⟩
 refine qzc (fun g=>by omega) (fun _=>?_)
 refine qzc (fun g=>by omega) (fun _=>?_)
 unfold qgb.j2
 refine qy (qk (by omega) (by omega)) ?_
 refine h.makeI (n:=n) rfl rfl (by omega) fun t w ht htc h=>?_
 rw [hl]
 have hmin:Nat.min 1 t.len=min 1 n:=by rw [ht]
 rw [hmin,Nat.mul_one]
 refine (h.drop.rdb s).rdOp (by rw [qx]; exact Nat.min_le_left _ _) ?_
 rw [qhl]
 have e1:[x].take (min 1 n)=List.replicate (min 1 n) x:=by
  rcases Nat.lt_or_ge n 1 with h0 | h0
  · have:n=0:=by omega
    subst this; rfl
  · rw [Nat.min_eq_left h0]; rfl
 rw [e1]
 rw [← h.cut0 (c:=t.cap)]
 refine h.cp 0 (by simp only [List.length_replicate]; omega) fun w h=>?_
 rw [List.take_zero,List.nil_append,Nat.zero_add,List.length_replicate,List.drop_replicate] at h
 unfold qgb.j3
 refine qsf (fun (k:Nat) (k':Int) w'=>k'=k∧k≤n∧(1≤n→1≤k)∧St F0 w0 w' (qdc 1 t (ivs .i64 (List.replicate k x ++ List.replicate (n - k) 0)) :: ps)) (fun k=>n - k) (min 1 n) ⟨by omega,by omega,fun h=>by omega,h⟩ ?_
 clear h
 rintro k k' wL I μ ⟨rfl,hk1,hk2,h⟩ hin
 unfold qgb.b1
 refine qzc (fun g=>?_) (fun g=>?_)
 · refine h.drewK fun w h=>?_
   refine bd_i (n:=k) rfl (by omega) (qcj (bd_i (n:=k) rfl (by omega) (qcj ?_)))
   dsimp only
   have hm:Nat.min (k - 0) (t.len - k)=min k (n - k):=by rw [ht,Nat.sub_zero]
   rw [hm,Nat.mul_one,h.cut0]
   refine h.ord.rdOp (by rw [qx]; simp only [List.length_append,List.length_replicate]; omega) ?_
   rw [qhl]
   have e2:(List.replicate k x ++ List.replicate (n - k) 0).take (min k (n - k))=List.replicate (min k (n - k)) x:=by
    rw [List.take_append_of_le_length (by rw [List.length_replicate]; omega),List.take_replicate]
    congr 1
    omega
   rw [e2]
   refine h.cp k (by simp only [List.length_append,List.length_replicate]; omega) fun w h=>?_
   refine qy (qk (by omega) (by omega)) ?_
   have hk3:=hk2 (by omega)
   refine ⟨rfl,hin (k+min k (n - k)) _ _ ⟨by omega,by omega,fun _=>by omega,?_⟩ (by omega)⟩
   have e3:(List.replicate k x ++ List.replicate (n - k) 0).take k ++ List.replicate (min k (n - k)) x ++ (List.replicate k x ++ List.replicate (n - k) 0).drop (k+(List.replicate (min k (n - k)) x).length)=List.replicate (k+min k (n - k)) x ++ List.replicate (n - (k+min k (n - k))) 0:=by
    rw [List.take_left' (by rw [List.length_replicate]),List.length_replicate,← List.drop_drop,List.drop_left' (by rw [List.length_replicate]),List.drop_replicate,List.replicate_append_replicate]
    congr 2
    omega
   rw [e3] at h
   exact h
 · have:k=n:=by omega
   subst this
   unfold qgb.j4
   rw [Nat.sub_self,List.replicate_zero,List.append_nil] at h
   exact hk t wL ht h
end
end Go.Proofs.Ythdmmmfgjmmelaa
namespace Go.Proofs.Ythdmmmfgjmmelaa
open Go Go.Proofs
set_option linter.unusedVariables false
set_option linter.unusedSimpArgs false
attribute [local irreducible] apK cpK mkK br
section
variable {F0:List Nat} {w0 w:World} {ps rest rest2:List As} {sb rb V N:Nat} {most:Int} {z:Z}
theorem zc_19:zc Try.prog 244=⟨ivs .i64 (List.replicate 19 0)⟩:=by kernel_rfl
theorem qtf.c {K:Ending→World→Prop} (h:St F0 w0 w ps) (hk:∀ w',St F0 w0 w' ps→K (.returned (.agg ⟨ivs .i64 qvf⟩)) w'):Calls Try.prog 186 ⟨[]⟩ w K:=by
 refine qoc (qtf.ok _ _ ?_)
 unfold qtf
 refine h.new fun nb w h=>⟨rfl,?_⟩
 rw [zc_19] at h
 have h:St F0 w0 w (qxc nb (ivs .i64 (List.replicate 19 0)) :: ps):=h
 refine St.sA (n:=19) (l':=ivs .i64 qvf) h (by rfl) (by rfl) qof fun w h=>?_
 refine h.lA (b:=nb) rfl ?_
 exact hk w h.drop
theorem qvd.c {s:Sl} {sym:Int} {l:List Int} {K:Ending→World→Prop} (h:St F0 w0 w (ztA sb rb V N most z :: ps)) [Rdb F0 w0 s ps 1 (ivs .i64 l)] (hN:N≤137438953472) (hp:z.1≤8 * N) (hl:l.length≤1000000)
 (hk:∀ w',(zagain (qo V (8 * N)) sym l z).2.1≤8 * N→St F0 w0 w' (ztA sb rb V N most (zagain (qo V (8 * N)) sym l z).2 :: ps)→K (.returned (.tuple ⟨[.int .i64 (zagain (qo V (8 * N)) sym l z).1.1,.int .i64 (zagain (qo V (8 * N)) sym l z).1.2]⟩)) w') :
 Calls Try.prog 187 ⟨[.pointer (some ⟨sb,0,none⟩),.int .i64 sym,.slice s.a s.len s.cap]⟩ w K:=by
 have hls:=(h.rdb s).1
 rw [qx] at hls
 have hp':=(zagain_p (B:=qo V (8 * N)) (z:=z) sym l (by rw [ql]; exact hp)).2
 rw [ql] at hp'
 have hk:=fun w'=>hk w' hp'
 clear hp'
 refine qoc (qvd.ok _ _ _ _ _ ?_)
 unfold qvd
 unfold zagain at hk
 have b2:=qgf (B:=qo V (8 * N)) (z:=z) 2 (by decide)
 have b3:=qgf (B:=qo V (8 * N)) (z:=z) 3 (by decide)
 have b7:=qgf (B:=qo V (8 * N)) (z:=z) 7 (by decide)
 refine qpf (fun g=>?_) (fun g=>?_)
 · have g:sym=16:=by simpa using g
   rw [if_pos g] at hk
   refine qpf (fun g2=>?_) (fun g2=>?_)
   · have g2:(s.len:Int)=0:=by simpa using g2
     rw [if_pos (by omega)] at hk
     exact qqb.c h fun w h=>⟨rfl,hk w h⟩
   · have g2:(s.len:Int) ≠ 0:=by simpa using g2
     rw [if_neg (by omega)] at hk
     refine h.drewK fun w h=>?_
     refine qy (qk (by omega) (by omega)) ?_
     have hr:=h.rdb s
     refine hr.ix (by decide) (by omega) (by omega) fun a ha=>?_
     have ei:((s.len:Int) - 1).toNat * 1=l.length - 1:=by omega
     rw [ei]
     refine ⟨?_,?_⟩
     · refine hr.ldI ha (qul (by omega)) ?_
       refine qvb.c h hN hp fun w _ h=>⟨_,rfl,?_⟩
       exact qy (qk (by omega) (by omega)) (hk w h)
     · refine qvb.c h hN hp fun w _ h=>⟨_,rfl,?_⟩
       refine qy (qk (by omega) (by omega)) ?_
       exact (h.rdb s).ldI ha (qul (by omega)) (hk w h)
 have g:sym ≠ 16:=by simpa using g
 rw [if_neg g] at hk
 refine qpf (fun g=>?_) (fun g=>?_)
 · have g:sym=17:=by simpa using g
   rw [if_pos g] at hk
   refine qvb.c h hN hp fun w _ h=>⟨_,rfl,?_⟩
   exact qy (qk (by omega) (by omega)) (hk w h)
 have g:sym ≠ 17:=by simpa using g
 rw [if_neg g] at hk
 refine qpf (fun g=>?_) (fun g=>?_)
 · have g:sym=18:=by simpa using g
   rw [if_pos g] at hk
   refine qvb.c h hN hp fun w _ h=>⟨_,rfl,?_⟩
   exact qy (qk (by omega) (by omega)) (hk w h)
 have g:sym ≠ 18:=by simpa using g
 rw [if_neg g] at hk
 exact hk w h
theorem qh.loop {cb:Option Addr} {cl:List Int} {nl nd:Nat} {K:Ending→World→Prop} (h:St F0 w0 w (ztA sb rb V N most z :: ps)) (hc:z.2.2=0→∃ b,cb=some ⟨b,0,none⟩∧∃ rest,PkF hcA b ps cl rest) (hN:N≤137438953472) (hp:z.1≤8 * N) (hn:nl+nd≤200000)
 (hk0:∀ (t11:Sl) w',(zll cl (qo V (8 * N)) (nl+nd) (nl+nd+1) [] z).2.2.2=0→t11.len=nl+nd→t11.len≤t11.cap→St F0 w0 w' (ztA sb rb V N most (zll cl (qo V (8 * N)) (nl+nd) (nl+nd+1) [] z).2 :: rdA 1 t11 (ivs .i64 (zll cl (qo V (8 * N)) (nl+nd) (nl+nd+1) [] z).1) :: ps)→K (.returned (.tuple ⟨[.slice (qzf t11.a t11.cap 0 1) (nl - 0) (t11.cap - 0),.slice (qzf t11.a t11.cap nl 1) (t11.len - nl) (t11.cap - nl)]⟩)) w')
 (hk1:∀ w',(zll cl (qo V (8 * N)) (nl+nd) (nl+nd+1) [] z).2.2.2 ≠ 0→St F0 w0 w' (ztA sb rb V N most (zll cl (qo V (8 * N)) (nl+nd) (nl+nd+1) [] z).2 :: ps)→K (.returned (.tuple ⟨[.slice none 0 0,.slice none 0 0]⟩)) w') :
 qh.j6 (some ⟨sb,0,none⟩) (nl:Int) (nd:Int) cb ⟨none,0,0⟩ (fun v w'=>K (.returned v) w') w:=by
 have hBl:(qo (V:Int) (8 * N)).length=8 * N:=ql _ _
 generalize hR:zll cl (qo V (8 * N)) (nl+nd) (nl+nd+1) [] z=R at hk0 hk1
 have hRl:=zll_len (cl:=cl) (B:=qo V (8 * N)) (N:=nl+nd) (nl+nd+1) [] z (by simp) (by simp)
 rw [hR] at hRl
 unfold qh.j6
 refine qsf (fun (a:Nat × List Int × Z) (t11:Sl) w'=>zll cl (qo V (8 * N)) (nl+nd) a.1 a.2.1 a.2.2=R∧a.2.2.1≤8 * N∧a.2.1.length≤nl+nd∧(a.2.2.2.2=0→z.2.2=0∧nl+nd < a.1+a.2.1.length)∧St F0 w0 w' (ztA sb rb V N most a.2.2 :: qdc 1 t11 (ivs .i64 a.2.1) :: ps)) (fun a=>a.1) (nl+nd+1,[],z) ⟨hR,hp,by simp,fun e=>⟨e,by simp⟩,(h.nil 1).at1⟩ ?_
 clear h hp hR
 rintro ⟨f,l,y⟩ t11 wL I μ ⟨hR,hp,hl,hf,h⟩ hin
 simp only at hR hp hl hf h hin ⊢
 have hol:=h.drop.len
 rw [qx] at hol
 have h0:=h
 unfold qh.b1
 obtain ⟨o,h⟩:=qvo h
 refine qrd (h.fI ?_)
 have stop:(y.2.2 ≠ 0 ∨ nl+nd≤l.length)→qh.j7 (some ⟨sb,0,none⟩) (nl:Int) t11 (fun v w'=>K (.returned v) w') wL:=by
  intro hc
  have e:R=(l,y):=by
   rw [← hR]
   cases f with
   | zero=>rfl
   | succ f=>rw [zll,if_pos hc]
  rw [e] at hk0 hk1 hRl
  simp only at hk0 hk1 hRl
  unfold qh.j7
  refine qrd (h.fI ?_)
  refine qpf (fun g=>?_) (fun g=>?_)
  · have g:y.2.2 ≠ 0:=by simpa using g
    exact hk1 wL g (h0.tail fun _ _ _ h=>h.drop)
  · have g:y.2.2=0:=by simpa using g
    have hll:=hRl g
    have hcap:=h0.drop.cap (by decide)
    refine h0.drewK fun w h0=>?_
    refine bd_i (n:=nl) rfl (by omega) (qcj ?_)
    refine bd_i (n:=nl) rfl (by omega) (qcj ?_)
    exact hk0 t11 w g (by omega) hcap (h0.tail fun _ _ _ h=>h.ro)
 refine qpf (fun g=>?_) (fun g=>stop (Or.inl (by simpa using g)))
 have g:y.2.2=0:=by simpa using g
 refine qy (qk (by omega) (by omega)) ?_
 refine qzc (fun g1=>?_) (fun g1=>stop (Or.inr (by omega)))
 obtain ⟨hz0,hfl⟩:=hf g
 obtain ⟨b,rfl,rest,ipk⟩:=hc hz0
 obtain ⟨f,rfl⟩:∃ f',f=f'+1:=⟨f - 1,by omega⟩
 rw [zll,if_neg (fun e=>by rcases e with e | e; exact e g; omega)] at hR
 unfold zllS at hR
 simp only at hR
 unfold qh.j8
 refine qld.c (cb:=b) (ls:=cl) h0 hN hp fun w hle h=>⟨_,rfl,?_⟩
 generalize qdj cl (qo V (8 * N)) y=s at h hR hle ⊢
 refine qvd.c (s:=t11) (l:=l) h hN hle (by omega) fun w hle2 h=>⟨_,_,rfl,?_⟩
 have hna:=zagain_n (B:=qo V (8 * N)) (z:=s.2) s.1 l
 generalize zagain (qo V (8 * N)) s.1 l s.2=a at h hR hle2 hna ⊢
 refine qy (qk (by omega) (by omega)) ?_
 refine qy (qk (by omega) (by omega)) ?_
 have main:∀ (z3:Z) w,z3=(if ((nl+nd:Nat):Int) - l.length < a.1.2 then qod 2 a.2 else a.2)→z3.1≤8 * N→St F0 w0 w (ztA sb rb V N most z3 :: qdc 1 t11 (ivs .i64 l) :: ps) →
  qh.j9 (some ⟨sb,0,none⟩) (nl:Int) (nd:Int) (some ⟨b,0,none⟩) t11 a.1.1 a.1.2 (fun v w'=>K (.returned v) w') (fun d_0' t4' t5' t10' t11' w'=>(d_0'=some ⟨sb,0,none⟩∧t4'=(nl:Int)∧t5'=(nd:Int)∧t10'=some ⟨b,0,none⟩)∧I t11' w'∧μ t11' w' < μ t11 wL) w:=by
  intro z3 w e hz3 h
  rw [← e] at hR
  have h0:=h
  unfold qh.j9
  obtain ⟨o,h⟩:=qvo h
  refine qrd (h.fI ?_)
  refine qpf (fun g2=>?_) (fun g2=>?_)
  · have g2:z3.2.2=0:=by simpa using g2
    have hle3:a.1.2≤((nl+nd:Nat):Int) - l.length∧a.2.2.2=0:=by
     by_cases hc:((nl+nd:Nat):Int) - l.length < a.1.2
     · rw [if_pos hc] at e
       rw [e] at g2
       exact absurd g2 (qjh (by decide))
     · rw [if_neg hc] at e
       exact ⟨by omega,by rw [← e]; exact g2⟩
    have hn1:=hna.2.2 hle3.2
    rw [if_pos g2] at hR
    have h:=h0
    refine h.new fun nb w h=>?_
    have h:St F0 w0 w (qxc nb (ivs .i64 [a.1.1]) :: ztA sb rb V N most z3 :: qdc 1 t11 (ivs .i64 l) :: ps):=h
    have h:=h.ownB (n:=1) rfl
    have en:a.1.2=((a.1.2.toNat:Nat):Int):=by omega
    rw [en]
    refine qgb.c (s:=⟨some ⟨nb,0,none⟩,1,1⟩) (x:=a.1.1) h (by omega) fun t w ht h=>⟨t,rfl,?_⟩
    refine h.appI (s:=t11) (s2:=t) (by rw [List.length_replicate]; omega) fun t2 w h=>?_
    refine ⟨⟨rfl,rfl,rfl,rfl⟩,hin (f,l ++ List.replicate a.1.2.toNat a.1.1,z3) _ _ ⟨hR,hz3,by simp only [List.length_append,List.length_replicate]; omega,fun _=>⟨hz0,by simp only [List.length_append,List.length_replicate]; omega⟩,?_⟩ (by simp only; omega)⟩
    exact h.sub
  · have g2:z3.2.2 ≠ 0:=by simpa using g2
    rw [if_neg g2] at hR
    exact ⟨⟨rfl,rfl,rfl,rfl⟩,hin (f,l,z3) _ _ ⟨hR,hz3,by simp only; omega,fun e=>absurd e g2,h0⟩ (by simp only; omega)⟩
 refine qzc (fun g2=>?_) (fun g2=>?_)
 · refine qqb.c h fun w h=>⟨rfl,?_⟩
   exact main (qod 2 a.2) w (by rw [if_pos (by omega)]) hle2 h
 · exact main a.2 w (by rw [if_neg (by omega)]) hle2 h
theorem zord_lt:∀ k,k < 19→0≤qvf.getD k 0∧qvf.getD k 0 < 19:=by decide
theorem cutP_zero (b c:Nat) (hc:c ≠ 0):cutP ⟨b,0,none⟩ c 0 1=some ⟨b,0,none⟩:=by
 unfold cutP
 rw [if_neg hc,qme]
theorem blk_rdbp {nb n c:Nat} {k:IntKind} {l:List Int} [PkB nb ps (ivs k l) rest] (hn:n≤l.length):Rdb F0 w0 ⟨some ⟨nb,0,none⟩,n,c⟩ ps 1 (ivs k (l.take n)):=⟨fun h=>by
 have hb:=(h.toB nb).blk
 refine ⟨by rw [qx,List.length_take,Nat.mul_one]; exact Nat.min_eq_left hn,fun i hi=>⟨_,rfl,?_⟩⟩
 rw [qx,List.length_take] at hi
 rw [qme,Nat.zero_add,hb.cell,← qhl,List.getElem?_take,if_pos (by omega)]⟩
theorem qzj {l:List Int} {n k:Nat} (h:k < n):(l.take n).getD k 0=l.getD k 0:=by simp [List.getD,List.getElem?_take,h]
theorem qh.c {K:Ending→World→Prop} (h:St F0 w0 w (ztA sb rb V N most z :: ps)) (hN:N≤137438953472) (hp:z.1≤8 * N)
 (hk0:∀ (t11:Sl) (l:List Int) (nl:Nat) w',(zlens (qo V (8 * N)) z).2.2.2=0→t11.len=l.length→nl≤t11.len→t11.len≤t11.cap→(zlens (qo V (8 * N)) z).1=(l.take nl,l.drop nl)→St F0 w0 w' (ztA sb rb V N most (zlens (qo V (8 * N)) z).2 :: rdA 1 t11 (ivs .i64 l) :: ps)→K (.returned (.tuple ⟨[.slice (qzf t11.a t11.cap 0 1) (nl - 0) (t11.cap - 0),.slice (qzf t11.a t11.cap nl 1) (t11.len - nl) (t11.cap - nl)]⟩)) w')
 (hk1:∀ w',(zlens (qo V (8 * N)) z).2.2.2 ≠ 0→St F0 w0 w' (ztA sb rb V N most (zlens (qo V (8 * N)) z).2 :: ps)→K (.returned (.tuple ⟨[.slice none 0 0,.slice none 0 0]⟩)) w') :
 Calls Try.prog 177 ⟨[.pointer (some ⟨sb,0,none⟩)]⟩ w K:=by
 have hBl:(qo (V:Int) (8 * N)).length=8 * N:=ql _ _
 refine qoc (qh.ok _ _ _ ?_)
 unfold qh qh.j1
 generalize hZ:zlens (qo V (8 * N)) z=Zr at hk0 hk1
 unfold zlens at hZ
 simp only at hZ
 refine qvb.c h hN hp fun w hp1 h=>⟨_,rfl,?_⟩
 have hg1:=qgf (B:=qo V (8 * N)) (z:=z) 5 (by decide)
 generalize qhe (qo V (8 * N)) 5 z=g1 at h hZ hp1 hg1 ⊢
 refine qy (qk (by omega) (by omega)) ?_
 have j2:∀ (y1:Z) w,y1=(if 286 < g1.1+257 then qod 2 g1.2 else g1.2)→y1.1≤8 * N→St F0 w0 w (ztA sb rb V N most y1 :: ps)→qh.j2 (some ⟨sb,0,none⟩) (g1.1+257) (fun v w'=>K (.returned v) w') w:=by
  intro y1 w e hp1 h
  rw [← e] at hZ
  unfold qh.j2
  refine qvb.c h hN hp1 fun w hp2 h=>⟨_,rfl,?_⟩
  have hg2:=qgf (B:=qo V (8 * N)) (z:=y1) 5 (by decide)
  generalize qhe (qo V (8 * N)) 5 y1=g2 at h hZ hp2 hg2 ⊢
  refine qy (qk (by omega) (by omega)) ?_
  have j3:∀ (y2:Z) w,y2=(if 30 < g2.1+1 then qod 2 g2.2 else g2.2)→y2.1≤8 * N→St F0 w0 w (ztA sb rb V N most y2 :: ps)→qh.j3 (some ⟨sb,0,none⟩) (g1.1+257) (g2.1+1) (fun v w'=>K (.returned v) w') w:=by
   intro y2 w e hp2 h
   rw [← e] at hZ
   unfold qh.j3
   refine h.new fun cb w h=>?_
   rw [zc_19] at h
   refine qtf.c h fun w h=>⟨_,rfl,?_⟩
   refine h.new fun ob w h=>⟨rfl,?_⟩
   rw [zc_19] at h
   have h:St F0 w0 w (qxc ob (ivs .i64 (List.replicate 19 0)) :: qxc cb (ivs .i64 (List.replicate 19 0)) :: ztA sb rb V N most y2 :: ps):=h
   refine St.sA (n:=19) (l':=ivs .i64 qvf) h (by rfl) (by rfl) qof fun w h=>?_
   have h:St F0 w0 w (ztA sb rb V N most y2 :: qxc cb (ivs .i64 (List.replicate 19 0)) :: qxc ob (ivs .i64 qvf) :: ps):=h.sub
   unfold qh.j4
   refine qvb.c h hN hp2 fun w hp3 h=>⟨_,rfl,?_⟩
   have hg3:=qrk (B:=qo V (8 * N)) (z:=y2) 4
   rw [show ((2:Int) ^ (4:Int).toNat)=16 by decide] at hg3
   generalize qhe (qo V (8 * N)) 4 y2=g3 at h hZ hp3 hg3 ⊢
   refine qy (qk (by omega) (by omega)) ?_
   refine bd_i (n:=(g3.1+4).toNat) (by omega) (by omega) (qcj ?_)
   rw [cutP_zero _ _ (by decide)]
   unfold qh.j10
   refine qsf (fun (k:Nat) (k':Int) w'=>k'=k∧k≤(g3.1+4).toNat∧(zclr (qo V (8 * N)) g3.2 k).2.1≤8 * N∧St F0 w0 w' (ztA sb rb V N most (zclr (qo V (8 * N)) g3.2 k).2 :: qxc cb (ivs .i64 (zclr (qo V (8 * N)) g3.2 k).1) :: qxc ob (ivs .i64 qvf) :: ps)) (fun k=>(g3.1+4).toNat - k) 0 ⟨rfl,by omega,hp3,h⟩ ?_
   clear h
   rintro k k' wL I μ ⟨rfl,hkn,hpk,h⟩ hin
   unfold qh.b2
   refine qzc (fun g=>?_) (fun g=>?_)
   · have g:(k:Int) < (((g3.1+4).toNat - 0:Nat):Int):=g
     have hk19:k < 19:=by omega
     have hz:=zord_lt k hk19
     have hcl:=zclr_len (B:=qo V (8 * N)) (z:=g3.2) k
     haveI:Rdb F0 w0 ⟨some ⟨ob,0,none⟩,(g3.1+4).toNat - 0,19 - 0⟩ (ztA sb rb V N most (zclr (qo V (8 * N)) g3.2 k).2 :: qxc cb (ivs .i64 (zclr (qo V (8 * N)) g3.2 k).1) :: qxc ob (ivs .i64 qvf) :: ps) 1 (ivs .i64 (qvf.take ((g3.1+4).toNat - 0))):=blk_rdbp (show _≤19 by omega)
     refine h.lx (s:=⟨some ⟨ob,0,none⟩,(g3.1+4).toNat - 0,19 - 0⟩) k rfl (by rw [List.length_take]; show k < min _ 19; omega) ?_
     rw [qzj (by omega)]
     refine qvb.c h hN hpk fun w hpk2 h=>⟨_,rfl,?_⟩
     refine St.sa (b:=cb) (zs:=(zclr (qo V (8 * N)) g3.2 k).1) h (qvf.getD k 0).toNat (by omega) hcl (by omega) fun w h=>?_
     refine qy (qk (by omega) (by omega)) ?_
     refine ⟨⟨rfl,rfl,rfl,rfl,rfl,rfl⟩,hin (k+1) _ _ ⟨by omega,by omega,?_,?_⟩ (by omega)⟩
     · rw [zclr]; exact hpk2
     · rw [zclr]
       exact h.sub
   · have:k=(g3.1+4).toNat:=by
      have g:¬ (k:Int) < (((g3.1+4).toNat - 0:Nat):Int):=g
      omega
     subst this
     clear hin
     have hcl:=zclr_len (B:=qo V (8 * N)) (z:=g3.2) (g3.1+4).toNat
     generalize zclr (qo V (8 * N)) g3.2 (g3.1+4).toNat=c at h hZ hpk hcl ⊢
     unfold qh.j5
     rw [cutP_zero _ _ (by decide)]
     refine qcj ?_
     haveI:Rdb F0 w0 ⟨some ⟨cb,0,none⟩,19 - 0,19 - 0⟩ (qxc cb (ivs .i64 c.1) :: qxc ob (ivs .i64 qvf) :: ps) 1 (ivs .i64 c.1):=by
      have:=blk_rdbp (F0:=F0) (w0:=w0) (nb:=cb) (n:=19 - 0) (c:=19 - 0) (k:=.i64) (l:=c.1) (ps:=qxc cb (ivs .i64 c.1) :: qxc ob (ivs .i64 qvf) :: ps) (by omega)
      rwa [List.take_of_length_le (by omega)] at this
     obtain ⟨n1,hn1⟩:∃ n1:Nat,g1.1+257=n1:=⟨(g1.1+257).toNat,by omega⟩
     obtain ⟨n2,hn2⟩:∃ n2:Nat,g2.1+1=n2:=⟨(g2.1+1).toNat,by omega⟩
     rw [hn1,hn2] at hZ
     rw [hn1,hn2]
     have e12:((n1:Int)+(n2:Int)).toNat=n1+n2:=by omega
     rw [e12,Int.toNat_natCast] at hZ
     have fin:∀ (y4:Z) (cbo:Option Addr) (qs:List As) w,y4=zcodeH c.1 false c.2→y4.1≤8 * N→(y4.2.2=0→∃ b,cbo=some ⟨b,0,none⟩∧∃ rest,PkF hcA b qs c.1 rest)→(∀ (F0:List Nat) (w0 w:World),St F0 w0 w qs→St F0 w0 w ps)→St F0 w0 w (ztA sb rb V N most y4 :: qs)→qh.j6 (some ⟨sb,0,none⟩) (n1:Int) (n2:Int) cbo ⟨none,0,0⟩ (fun v w'=>K (.returned v) w') w:=by
      intro y4 cbo qs w e hp4 hcb hq h
      rw [← e] at hZ
      refine qh.loop (nl:=n1) (nd:=n2) (cl:=c.1) h hcb hN hp4 (by omega) (fun t11 w g ht hc h=>?_) (fun w g h=>?_)
      · rw [if_neg (fun e=>e g)] at hZ
        have hzl:=zll_len (cl:=c.1) (B:=qo V (8 * N)) (N:=n1+n2) (n1+n2+1) [] y4 (by simp) (by simp) g
        subst hZ
        refine hk0 t11 _ n1 w g (by omega) (by omega) hc rfl (h.tail fun _ _ _ h=>h.tail fun _ _ _ h=>hq _ _ _ h)
      · rw [if_pos g] at hZ
        subst hZ
        exact hk1 w g (h.tail fun _ _ _ h=>hq _ _ _ h)
     refine qlc.c (s:=⟨some ⟨cb,0,none⟩,19 - 0,19 - 0⟩) (half:=false) h (fun hb w g0 gn h=>⟨_,rfl,?_⟩) (fun w g0 gn h=>⟨_,rfl,?_⟩) (fun g=>⟨_,rfl,?_⟩)
     · refine fin c.2 _ (hcA hb c.1 :: qxc cb (ivs .i64 c.1) :: qxc ob (ivs .i64 qvf) :: ps) w (by unfold zcodeH; rw [if_neg (fun e=>e.2 gn)]) hpk (fun _=>⟨hb,rfl,_,PkF.hd⟩) (fun _ _ _ h=>h.drop.drop.drop) h
     · refine fin (qod 2 c.2) _ (qxc cb (ivs .i64 c.1) :: qxc ob (ivs .i64 qvf) :: ps) w (by unfold zcodeH; rw [if_pos ⟨g0,gn⟩]) hpk (fun e=>absurd e (qjh (by decide))) (fun _ _ _ h=>h.drop.drop) h
     · refine fin c.2 _ (qxc cb (ivs .i64 c.1) :: qxc ob (ivs .i64 qvf) :: ps) _ (by unfold zcodeH; rw [if_neg (fun e=>g e.1)]) hpk (fun e=>absurd e g) (fun _ _ _ h=>h.drop.drop) h
  refine qzc (fun g=>?_) (fun g=>?_)
  · refine qqb.c h fun w h=>⟨rfl,?_⟩
    exact j3 (qod 2 g2.2) w (by rw [if_pos (by omega)]) hp2 h
  · exact j3 g2.2 w (by rw [if_neg (by omega)]) hp2 h
 refine qzc (fun g=>?_) (fun g=>?_)
 · refine qqb.c h fun w h=>⟨rfl,?_⟩
   exact j2 (qod 2 g1.2) w (by rw [if_pos (by omega)]) hp1 h
 · exact j2 g1.2 w (by rw [if_neg (by omega)]) hp1 h
end
end Go.Proofs.Ythdmmmfgjmmelaa
namespace Go.Proofs.Ythdmmmfgjmmelaa
open Go Go.Proofs
set_option linter.unusedVariables false
set_option linter.unusedSimpArgs false
attribute [local irreducible] apK cpK mkK br
section
variable {B:List Bool} {most:Int} {z:Z}
theorem zst_p:∀ (n:Nat) (z:Z),z.1≤B.length→z.1≤(zst B most n z).1∧(zst B most n z).1≤B.length:=by
 intro n
 induction n with
 | zero=>intro z h; exact ⟨Nat.le_refl _,h⟩
 | succ n ih =>
   intro z h
   have h1:=qzi (B:=B) (z:=z) 8 h
   have:=ih (zput most (qhe B 8 z).1 (qhe B 8 z).2) (by rw [qdm]; exact h1.2)
   rw [qdm] at this
   rw [zst]
   omega
theorem zstored_p {N:Nat} (hB:B.length=8 * N) (h:z.1≤B.length):z.1≤(zstored B most z).1∧(zstored B most z).1≤B.length:=by
 unfold zstored
 simp only
 have h1:=qzi (B:=B) (z:=(8 * ((z.1+7) / 8),z.2.1,z.2.2)) 16 (by simp only; omega)
 generalize qhe B 16 (8 * ((z.1+7) / 8),z.2.1,z.2.2)=g at h1 ⊢
 simp only at h1
 have h2:=qzi (B:=B) (z:=g.2) 16 h1.2
 generalize qhe B 16 g.2=g2 at h2 ⊢
 split
 · omega
 · split
   · rw [qbn]; omega
   · split
     · rw [qbn]; omega
     · have:=zst_p (B:=B) (most:=most) g.1.toNat g2.2 h2.2
       omega
theorem zcoded_p {ll dl:List Int}:∀ (f:Nat) (z:Z),z.1≤B.length→z.1≤(qqd ll dl B most f z).1∧(qqd ll dl B most f z).1≤B.length:=by
 intro f
 induction f with
 | zero=>intro z h; exact ⟨Nat.le_refl _,h⟩
 | succ f ih =>
   intro z h
   rw [qqd]
   split
   · exact ⟨Nat.le_refl _,h⟩
   · simp only
     have h1:=zsym_fwd (B:=B) ll (z:=z) h
     generalize qdj ll B z=s at h1 ⊢
     unfold zfwd at h1
     split
     · exact h1
     · split
       · have:=ih (zput most s.1 s.2) (by rw [qdm]; exact h1.2)
         rw [qdm] at this
         omega
       · have h2:=qgn (B:=B) (most:=most) dl s.1 (z:=s.2) h1.2
         unfold zfwd at h2
         have:=ih (zbehind dl B most s.1 s.2) h2.2
         omega
theorem zblk_p3 {ll dl:List Int} (h:z.1≤B.length):z.1≤(zblk ll dl B most z).1∧(zblk ll dl B most z).1≤B.length:=by
 unfold zblk
 simp only
 have e1:(qcg dl (qcg ll (if z.2.2=0∧ll.getD 256 0=0 then qod 2 z else z))).1=z.1:=by
  rw [zcode_p,zcode_p]
  split <;> rfl
 generalize qcg dl (qcg ll (if z.2.2=0∧ll.getD 256 0=0 then qod 2 z else z))=z3 at e1 ⊢
 split
 · omega
 · have:=zcoded_p (B:=B) (most:=most) (ll:=ll) (dl:=dl) (B.length+1) z3 (by omega)
   omega
theorem zget_on {n:Int} (h:(qhe B n z).2.2.2=0):(qhe B n z).2.1=z.1+n.toNat∧z.2.2=0:=by
 have h0:=zget_err h
 refine ⟨?_,h0⟩
 unfold qhe at h ⊢
 rw [if_neg (fun e=>e h0)] at h ⊢
 split at h
 · rename_i hc
   rw [if_pos hc]
 · simp at h
theorem qzk {N:Nat} (hB:B.length=8 * N) (h:z.1≤B.length):z.1≤(qdd B most z).2.1∧(qdd B most z).2.1≤B.length∧((qdd B most z).2.2.2=0→z.1 < (qdd B most z).2.1):=by
 unfold qdd
 simp only
 have h1:=qzi (B:=B) (z:=z) 1 h
 generalize qhe B 1 z=a at h1 ⊢
 have h2:=qzi (B:=B) (z:=a.2) 2 h1.2
 have h3:=zget_on (B:=B) (z:=a.2) (n:=2)
 generalize qhe B 2 a.2=k at h2 h3 ⊢
 split
 · rename_i hk
   exact ⟨by simp only; omega,by simp only; omega,fun e=>absurd e hk⟩
 · rename_i hk
   have h3:=(h3 (Classical.byContradiction hk)).1
   have e2:(2:Int).toNat=2:=rfl
   rw [e2] at h3
   split
   · have:=zstored_p (B:=B) (most:=most) (z:=k.2) hB h2.2
     simp only; omega
   · split
     · have:=zblk_p3 (B:=B) (most:=most) (ll:=qkg) (dl:=qxd) (z:=k.2) h2.2
       simp only; omega
     · split
       · have h4:=zlens_p (B:=B) (z:=k.2) h2.2
         generalize zlens B k.2=q at h4 ⊢
         split
         · simp only; omega
         · have:=zblk_p3 (B:=B) (most:=most) (ll:=q.1.1) (dl:=q.1.2) (z:=q.2) h4.2
           simp only; omega
       · rw [qbn]
         simp only; omega
theorem qli (hm:most≤1000000) (h:z.2.1.length≤1000000):(qdd B most z).2.2.1.length≤1000000:=by
 have hst:∀ n (z:Z),z.2.1.length≤1000000→(zst B most n z).2.1.length≤1000000:=fun n z=>zst_len hm n z
 unfold qdd
 simp only
 have h1:(qhe B 1 z).2.2.1.length≤1000000:=by rw [qyc]; exact h
 generalize qhe B 1 z=a at h1 ⊢
 have h2:(qhe B 2 a.2).2.2.1.length≤1000000:=by rw [qyc]; exact h1
 generalize qhe B 2 a.2=k at h2 ⊢
 split
 · exact h2
 · split
   · unfold zstored
     simp only
     have h3:(qhe B 16 (8 * ((k.2.1+7) / 8),k.2.2.1,k.2.2.2)).2.2.1.length≤1000000:=by rw [qyc]; exact h2
     generalize qhe B 16 (8 * ((k.2.1+7) / 8),k.2.2.1,k.2.2.2)=g at h3 ⊢
     have h4:(qhe B 16 g.2).2.2.1.length≤1000000:=by rw [qyc]; exact h3
     generalize qhe B 16 g.2=g2 at h4 ⊢
     split
     · exact h4
     · split
       · exact h4
       · split
         · exact h4
         · exact hst _ _ h4
   · split
     · exact zblk_len2 hm h2
     · split
       · have h5:(zlens B k.2).2.2.1.length≤1000000:=by rw [qan]; exact h2
         generalize zlens B k.2=q at h5 ⊢
         split
         · exact h5
         · exact zblk_len2 hm h5
       · exact h2
theorem ZAll.out {n:Nat} {z z':Z} (h:ZAll B most n z z') (hm:most≤1000000) (hL:z.2.1.length≤1000000):z'.2.1.length≤1000000:=by
 induction h with
 | bad he=>exact qli hm hL
 | last he hl=>exact qli hm hL
 | next he hl hr ih=>exact ih (qli hm hL)
end
section
variable {F0:List Nat} {w0 w:World} {ps rest rest2:List As} {sb rb V N:Nat} {most:Int} {z:Z}
theorem qp.bad {K:Ending→World→Prop} (h:St F0 w0 w (ztA sb rb V N most z :: ps)) (hz:z.2.2 ≠ 0)
 (hk:∀ w',St F0 w0 w' (ztA sb rb V N most z :: ps)→K (.returned (.tuple ⟨[]⟩)) w') :
 Calls Try.prog 176 ⟨[.pointer (some ⟨sb,0,none⟩),.slice none 0 0,.slice none 0 0]⟩ w K:=by
 refine qoc (qp.ok _ ⟨none,0,0⟩ ⟨none,0,0⟩ _ _ ?_)
 unfold qp
 have h0:=h
 obtain ⟨o,h⟩:=qvo h
 refine qrd (h.fI ?_)
 refine br_no (by simpa using hz) ?_
 unfold qp.j1
 haveI:Rdb F0 w0 ⟨none,0,0⟩ ps 1 (ivs .i64 []):=Rdb.nil 0
 refine qlc.c (s:=⟨none,0,0⟩) (ls:=[]) (half:=true) h0 (fun cb w e1 e3 h=>absurd e1 hz) (fun w e1 e3 h=>absurd e1 hz) (fun _=>⟨_,rfl,?_⟩)
 refine qlc.c (s:=⟨none,0,0⟩) (ls:=[]) (half:=true) h0 (fun cb w e1 e3 h=>absurd e1 hz) (fun w e1 e3 h=>absurd e1 hz) (fun _=>⟨_,rfl,?_⟩)
 refine qrd (h.fI ?_)
 exact qam (by simpa using hz) (hk w h0)
theorem qud.a {K:Ending→World→Prop} (h:St F0 w0 w (ztA sb rb V N most z :: ps)) (hN:N≤137438953472) (hp:z.1≤8 * N) (hm:most≤1000000) (hm0:0≤most) (hL:z.2.1.length≤1000000)
 (hk:∀ w',St F0 w0 w' (ztA sb rb V N most (qdd (qo V (8 * N)) most z).2 :: ps)→K (.returned (.bool (qdd (qo V (8 * N)) most z).1)) w') :
 Calls Try.prog 156 ⟨[.pointer (some ⟨sb,0,none⟩)]⟩ w K:=by
 have hBl:(qo (V:Int) (8 * N)).length=8 * N:=ql _ _
 refine qoc (qud.ok _ _ _ ?_)
 unfold qud
 unfold qdd at hk
 simp only at hk
 refine qvb.c h hN hp fun w hg h=>⟨_,rfl,?_⟩
 have go:=qyc (B:=qo V (8 * N)) (z:=z) 1
 generalize qhe (qo V (8 * N)) 1 z=a at h hk hg go ⊢
 refine qvb.c h hN hg fun w hg2 h=>⟨_,rfl,?_⟩
 have go2:=qyc (B:=qo V (8 * N)) (z:=a.2) 2
 generalize qhe (qo V (8 * N)) 2 a.2=k at h hk hg2 go2 ⊢
 have hkL:k.2.2.1.length≤1000000:=by rw [go2,go]; exact hL
 have h0:=h
 obtain ⟨o,h⟩:=qvo h
 refine qrd (h.fI ?_)
 refine qpf (fun g=>?_) (fun g=>?_)
 · have g:k.2.2.2 ≠ 0:=by simpa using g
   rw [if_pos g] at hk
   exact hk w h0
 have g:k.2.2.2=0:=by simpa using g
 rw [if_neg (by simpa using g)] at hk
 refine qpf (fun g1=>?_) (fun g1=>?_)
 · have g1:k.1=0:=by simpa using g1
   rw [if_pos g1] at hk
   exact qnb.c h0 hN hg2 hm hm0 hkL fun w hle h=>⟨rfl,hk w h⟩
 have g1:¬ k.1=0:=by simpa using g1
 rw [if_neg g1] at hk
 refine qpf (fun g3=>?_) (fun g3=>?_)
 · have g3:k.1=1:=by simpa using g3
   rw [if_pos g3] at hk
   refine qu.c h0 fun s t w hs ht h=>⟨s,t,rfl,?_⟩
   have h:St F0 w0 w (ztA sb rb V N most k.2 :: rdA 1 s (ivs .i64 qkg) :: rdA 1 t (ivs .i64 qxd) :: ps):=h.at2
   refine qp.c (s:=s) (t:=t) (ll:=qkg) (dl:=qxd) h (by rw [qgh]; decide) hN hg2 hm hkL fun w h=>⟨rfl,?_⟩
   exact hk w (h.tail fun _ _ _ h=>h.drop.drop)
 have g3:¬ k.1=1:=by simpa using g3
 rw [if_neg g3] at hk
 refine qpf (fun g4=>?_) (fun g4=>?_)
 · have g4:k.1=2:=by simpa using g4
   rw [if_pos g4] at hk
   have hlp:=zlens_p (B:=qo V (8 * N)) (z:=k.2) (by rw [hBl]; exact hg2)
   have hlo:=qan (B:=qo V (8 * N)) (z:=k.2)
   have hll:=zlens_len (B:=qo V (8 * N)) (z:=k.2)
   rw [hBl] at hlp
   refine qh.c h0 hN hg2 (fun t11 l nl w e0 ht hnl hcap el h=>⟨⟨qzf t11.a t11.cap 0 1,nl - 0,t11.cap - 0⟩,⟨qzf t11.a t11.cap nl 1,t11.len - nl,t11.cap - nl⟩,rfl,?_⟩) (fun w e0 h=>⟨⟨none,0,0⟩,⟨none,0,0⟩,rfl,?_⟩)
   · have hll:=hll e0
     rw [if_neg (fun e=>e e0)] at hk
     rw [el] at hk hll
     simp only at hk hll
     haveI:=h.drop.cutR t11 0 nl (t11.cap - 0) (ys:=l.take nl) hnl (by omega) hcap (by rw [List.drop_zero,Nat.sub_zero])
     haveI:=h.drop.cutR t11 nl t11.len (t11.cap - nl) (ys:=l.drop nl) (by omega) hnl hcap (by rw [List.take_of_length_le (by rw [List.length_drop]; omega)])
     refine qp.c (s:=⟨qzf t11.a t11.cap 0 1,nl - 0,t11.cap - 0⟩) (t:=⟨qzf t11.a t11.cap nl 1,t11.len - nl,t11.cap - nl⟩) (ll:=l.take nl) (dl:=l.drop nl) h (by omega) hN hlp.2 hm (by rw [hlo]; exact hkL) fun w h=>⟨rfl,?_⟩
     exact hk w (h.tail fun _ _ _ h=>h.drop)
   · rw [if_pos e0] at hk
     refine qp.bad h e0 fun w h=>⟨rfl,?_⟩
     exact hk w h
 have g4:¬ k.1=2:=by simpa using g4
 rw [if_neg g4] at hk
 exact qqb.c h0 fun w h=>⟨rfl,hk w h⟩
def zinf (V N:Nat) (most:Int) (z':Z):Prop:=∃ n,ZAll (qo V (8 * N)) most n (0,[],0) z'
theorem qmb.a {s:Sl} {K:Ending→World→Prop} {z':Z} (h:St F0 w0 w ps) [Rdb F0 w0 s ps 1 (u8s (byt V N))] (hN:N≤137438953472) (hm:most≤262144) (hm0:0≤most) (hr:zinf V N most z')
 (hk:∀ t w',z'.2.2=0→t.len=z'.2.1.length→St F0 w0 w' (rdA 1 t (u8s z'.2.1) :: ps)→K (.returned (.tuple ⟨[.slice t.a t.len t.cap,.int .i64 (((z'.1+7) / 8:Nat):Int),.int .i64 0]⟩)) w')
 (hk2:∀ w',z'.2.2 ≠ 0→St F0 w0 w' ps→K (.returned (.tuple ⟨[.slice none 0 0,.int .i64 0,.int .i64 z'.2.2]⟩)) w') :
 Calls Try.prog 119 ⟨[.slice s.a s.len s.cap,.int .i64 most]⟩ w K:=by
 have hBl:(qo (V:Int) (8 * N)).length=8 * N:=ql _ _
 obtain ⟨n,hr⟩:=hr
 refine qoc (qmb.ok _ _ _ _ ?_)
 unfold qmb qmb.j1
 refine qzc (fun g=>by omega) fun _=>?_
 refine qzc (fun g=>by omega) fun _=>?_
 refine qif.c (V:=V) (N:=N) (s:=s) h (h.rdb s) hN fun rb w h=>⟨_,rfl,?_⟩
 refine h.new fun sb w h=>?_
 have h:=(h.nil 1).at2.at2
 have h:St F0 w0 w (ztA sb rb V N most (0,[],0) :: ps):=zt_c (o:=⟨none,0,0⟩) (p:=0) (out:=[]) (err:=0) h
 unfold qmb.j2 qmb.j4
 refine qsf (fun (a:Nat × Z × Bool) (b:Bool) w'=>b=a.2.2∧a.2.1.1≤8 * N∧a.2.1.2.1.length≤1000000∧a.2.1.2.2=0∧(a.2.2=false→∃ n,n < a.1∧ZAll (qo V (8 * N)) most n a.2.1 z')∧(a.2.2=true→a.2.1=z')∧St F0 w0 w' (ztA sb rb V N most a.2.1 :: ps)) (fun a=>a.1) (n+1,(0,[],0),false) ⟨rfl,Nat.zero_le _,by simp,rfl,fun _=>⟨n,by simp,hr⟩,fun e=>by simp at e,h⟩ ?_
 clear h hr
 rintro ⟨m,z,b⟩ b' wL I μ ⟨rfl,hp,hL,he0,hr,hd,h⟩ hin
 simp only at hp hL he0 hr hd h hin ⊢
 unfold qmb.b1
 cases b' with
 | false =>
   refine qnm ?_
   obtain ⟨n,hn,hr⟩:=hr rfl
   refine qud.a h hN hp (by omega) hm0 hL fun w h=>⟨_,rfl,?_⟩
   have hL2:=qli (B:=qo V (8 * N)) (most:=most) (by omega) hL
   have hle:=(qzk (most:=most) hBl (by rw [hBl]; exact hp)).2.1
   rw [hBl] at hle
   have h0:=h
   obtain ⟨o,h⟩:=qvo h
   refine qrd (h.fI ?_)
   refine qpf (fun g=>?_) (fun g=>?_)
   · have g:(qdd (qo V (8 * N)) most z).2.2.2 ≠ 0:=by simpa using g
     refine h.drewK fun w h=>?_
     refine qrd (h.fI ?_)
     cases hr with
     | bad he=>exact hk2 w g h.drop.drop.drop
     | last he _=>exact absurd he g
     | next he _ _=>exact absurd he g
   · have g:(qdd (qo V (8 * N)) most z).2.2.2=0:=by simpa using g
     cases hr with
     | bad he=>exact absurd g he
     | last he hl =>
       refine ⟨rfl,hin (0,(qdd (qo V (8 * N)) most z).2,true) _ _ ⟨hl,hle,hL2,g,fun e=>by simp at e,fun _=>rfl,h0⟩ (by simp only; omega)⟩
     | next he hl hr =>
       rename_i n2
       refine ⟨rfl,hin (n2+1,(qdd (qo V (8 * N)) most z).2,false) _ _ ⟨hl,hle,hL2,g,fun _=>⟨n2,by simp,hr⟩,fun e=>by simp at e,h0⟩ (by simp only; omega)⟩
 | true =>
   refine qkl ?_
   have hd:=hd rfl
   subst hd
   unfold qmb.j3
   refine h.drewK fun w h=>?_
   obtain ⟨o,h⟩:=qvo h
   have hcap:=h.at2.cap (by decide)
   have hol:=h.at2.len
   rw [qx] at hol
   refine qrd (h.fL (qrd ⟨?_,?_⟩))
   · refine qcd.c h.at2.ro hcap fun t h1 h2 h=>⟨t,rfl,?_⟩
     refine h.at1.fP ?_
     refine qtd.c (rb:=rb) (V:=V) (N:=N) (at':=z.1) h.at2 (by omega) fun h=>⟨_,rfl,?_⟩
     have h1:t.len=o.len:=h1
     exact hk t w he0 (by omega) (h.at1.tail fun _ _ _ h=>h.drop.drop)
   · refine h.fP ?_
     refine qcd.c h.at2.ro hcap fun t h1 h2 h=>⟨t,rfl,?_⟩
     refine qtd.c (rb:=rb) (V:=V) (N:=N) (at':=z.1) h.at2 (by omega) fun h=>⟨_,rfl,?_⟩
     have h1:t.len=o.len:=h1
     exact hk t w he0 (by omega) (h.at1.tail fun _ _ _ h=>h.drop.drop)
end
end Go.Proofs.Ythdmmmfgjmmelaa
namespace Go.Proofs.Ythdmmmfgjmmelaa
open Go Go.Proofs
set_option linter.unusedVariables false
set_option linter.unusedSimpArgs false
def ofG (tab:Int→Int × Int × Bool) (v:Int):Nat→Int→Int × Int × Int→Int × Int × Int
 | 0,_,p=>p
 | f+1,k,p=>if (tab k).2.2=false ∨ v < (tab k).1 then p else ofG tab v f (k+1) (k,v - (tab k).1,(tab k).2.1)
def ofLen (v:Int):Int × Int × Int:=ofG quh v 40 257 (0,0,0)
def ofDis (v:Int):Int × Int × Int:=ofG qvh v 40 0 (0,0,0)
theorem ofG_row {tab:Int→Int × Int × Bool} {Bs Xs:Nat→Int} {fr:Int} {m:Nat} {v:Int} (hrow:∀ j:Nat,j < m→tab (fr+j)=(Bs j,Xs j,true)) (hend:(tab (fr+m)).2.2=false) (h0:Bs 0≤v) (hm:0 < m) :
 ∀ (f j:Nat) (p:Int × Int × Int),j≤m→m < f+j→(0 < j→p=(fr+((j - 1:Nat):Int),v - Bs (j - 1),Xs (j - 1))∧Bs (j - 1)≤v) →
 ∃ i,i < m∧ofG tab v f (fr+j) p=(fr+(i:Int),v - Bs i,Xs i)∧Bs i≤v∧(i+1=m ∨ v < Bs (i+1)):=by
 intro f
 induction f with
 | zero=>intro j p h1 h2; omega
 | succ f ih =>
   intro j p h1 h2 h3
   rw [ofG]
   by_cases hj:j=m
   · subst hj
     rw [if_pos (Or.inl hend)]
     obtain ⟨h4,h5⟩:=h3 hm
     exact ⟨j - 1,by omega,h4,h5,Or.inl (by omega)⟩
   · have hr:=hrow j (by omega)
     rw [hr]
     simp only
     by_cases hv:v < Bs j
     · rw [if_pos (Or.inr hv)]
       have hj0:0 < j:=by
        rcases Nat.eq_zero_or_pos j with e | e
        · subst e; omega
        · exact e
       obtain ⟨h4,h5⟩:=h3 hj0
       exact ⟨j - 1,by omega,h4,h5,Or.inr (by rw [show j - 1+1=j by omega]; exact hv)⟩
     · rw [if_neg (by rintro (e | e); cases e; exact hv e)]
       have:=ih (j+1) (fr+(j:Int),v - Bs j,Xs j) (by omega) (by omega) (fun _=>⟨by simp,by simp; omega⟩)
       rw [show fr+((j+1:Nat):Int)=fr+(j:Int)+1 by omega] at this
       exact this
theorem qdk {v:Int} (h1:3≤v) (h2:v≤258):symP v false (ofLen v).1 (ofLen v).2.1 (ofLen v).2.2:=by
 have ch:∀ j:Nat,j < 28→tLenB.getD (j+1) 0≤tLenB.getD j 0+2 ^ (tLenX.getD j 0).toNat:=by decide
 have nn:∀ j:Nat,j < 29→0≤tLenX.getD j 0:=by decide
 obtain ⟨i,hi,he,hb,hn⟩:=ofG_row (tab:=quh) (Bs:=fun j=>tLenB.getD j 0) (Xs:=fun j=>tLenX.getD j 0) (fr:=257) (m:=29) (v:=v) (fun j hj=>by
  rw [zlen_t (by omega) (by omega),show (257+(j:Int) - 257).toNat=j by omega]) (by decide) h1 (by decide) 40 0 (0,0,0) (by decide) (by decide) (fun h=>by omega)
 have he:ofLen v=(257+(i:Int),v - tLenB.getD i 0,tLenX.getD i 0):=he
 rw [he]
 refine Or.inr ⟨rfl,by simp only; omega,by simp only; omega,tLenB.getD i 0,?_,rfl,hb,?_,nn i hi⟩
 · simp only
   rw [zlen_t (by omega) (by omega),show (257+(i:Int) - 257).toNat=i by omega]
 · show v < tLenB.getD i 0+2 ^ (tLenX.getD i 0).toNat
   rcases hn with hn | hn
   · have:i=28:=by omega
     subst this
     have e:tLenB.getD 28 0+2 ^ (tLenX.getD 28 0).toNat=259:=by decide
     omega
   · have:=ch i (by
      rcases Nat.lt_or_ge i 28 with h | h
      · exact h
      · have:i=28:=by omega
        subst this
        have e:tLenB.getD (28+1) 0=0:=by decide
        omega)
     omega
theorem qgi {v:Int} (h1:1≤v) (h2:v≤32768):symP v true (ofDis v).1 (ofDis v).2.1 (ofDis v).2.2:=by
 have ch:∀ j:Nat,j < 29→tDisB.getD (j+1) 0≤tDisB.getD j 0+2 ^ (tDisX.getD j 0).toNat:=by decide
 have nn:∀ j:Nat,j < 30→0≤tDisX.getD j 0:=by decide
 obtain ⟨i,hi,he,hb,hn⟩:=ofG_row (tab:=qvh) (Bs:=fun j=>tDisB.getD j 0) (Xs:=fun j=>tDisX.getD j 0) (fr:=0) (m:=30) (v:=v) (fun j hj=>by
  rw [zdis_t (by omega) (by omega),show (0+(j:Int)).toNat=j by omega]) (by decide) h1 (by decide) 40 0 (0,0,0) (by decide) (by decide) (fun h=>by omega)
 have he:ofDis v=(0+(i:Int),v - tDisB.getD i 0,tDisX.getD i 0):=he
 rw [he]
 refine Or.inl ⟨rfl,by simp only; omega,by simp only; omega,tDisB.getD i 0,?_,rfl,hb,?_,nn i hi⟩
 · simp only
   rw [zdis_t (by omega) (by omega),show (0+(i:Int)).toNat=i by omega]
 · show v < tDisB.getD i 0+2 ^ (tDisX.getD i 0).toNat
   rcases hn with hn | hn
   · have:i=29:=by omega
     subst this
     have e:tDisB.getD 29 0+2 ^ (tDisX.getD 29 0).toNat=32769:=by decide
     omega
   · have:=ch i (by
      rcases Nat.lt_or_ge i 29 with h | h
      · exact h
      · have:i=29:=by omega
        subst this
        have e:tDisB.getD (29+1) 0=0:=by decide
        omega)
     omega
def okC (ls:List Int):Prop:=okL ls∧kr ls≤32768
def inC (ls:List Int) (s:Nat):Prop:=s < ls.length∧0 < ls.getD s 0
inductive Gx (ll dl:List Int):List Bool→List Int→Prop
 | nil:Gx ll dl [] []
 | lit {bits:List Bool} {out:List Int} {b:Int} (h:Gx ll dl bits out) (h0:0≤b) (h1:b < 256) (hl:inC ll b.toNat):Gx ll dl (bits ++ qhc ll b.toNat) (out ++ [b])
 | copy {bits:List Bool} {out:List Int} {n d s e x s2 e2 x2:Int} (h:Gx ll dl bits out) (h3:3≤n) (h258:n≤258) (hd:1≤d) (hdo:d≤out.length) (hs:symP n false s e x) (hs2:symP d true s2 e2 x2) (hl:inC ll s.toNat) (hdl:inC dl s2.toNat) :
    Gx ll dl (bits ++ (qhc ll s.toNat ++ (qo e x.toNat ++ (qhc dl s2.toNat ++ qo e2 x2.toNat)))) (tkCopy d n.toNat out)
section
variable {B:List Bool} {most:Int} {ll dl:List Int}
theorem qbi {ls:List Int} {s:Nat} (h:inC ls s):1≤(qhc ls s).length:=by
 rw [qug]
 have:=h.2
 omega
theorem qgj {ls:List Int} {p s:Nat} {r:List Bool} {out:List Int} (hc:okC ls) (hs:inC ls s) (h:B.drop p=qhc ls s ++ r):qdj ls B (p,out,0)=((s:Int),(p+(qhc ls s).length,out,0)) :=
 zsym_at hc.1 hc.2 hs.1 hs.2 h
theorem qzo {p:Nat} {r:List Bool} {out:List Int} {n d s e x s2 e2 x2:Int} (hc:okC dl) (hn:3≤n) (hs:symP n false s e x) (hs2:symP d true s2 e2 x2) (hi:inC dl s2.toNat) (hd:1≤d) (hp:p≤B.length)
 (h:B.drop p=qo e x.toNat ++ (qhc dl s2.toNat ++ (qo e2 x2.toNat ++ r))) :
 zbehind dl B most s (p,out,0)=zcp most d n.toNat (if (out.length:Int) < d then qod 2 (p+((qo e x.toNat).length+((qhc dl s2.toNat).length+(qo e2 x2.toNat).length)),out,0) else (p+((qo e x.toNat).length+((qhc dl s2.toNat).length+(qo e2 x2.toNat).length)),out,0)):=by
 rcases hs with ⟨h1,_⟩ | ⟨_,hs0,hs1,b,hz,he,hb1,hb2,hx0⟩
 · cases h1
 rcases hs2 with ⟨_,hs20,hs21,b2,hz2,he2,hb3,hb4,hx20⟩ | ⟨h1,_⟩
 rotate_left
 · cases h1
 have hx:=zlen_x s
 have hx2:=zdis_x s2
 rw [hz] at hx
 rw [hz2] at hx2
 simp only at hx hx2
 have l1:=qic h
 have h':=qac h
 have l2:=qic h'
 have h'':=qac h'
 have l3:=qic h''
 unfold zbehind
 simp only [hz]
 unfold zok
 simp only [if_true]
 rw [qwe h (by rw [ql]; omega) (by rw [ql]; omega) hp]
 simp only
 rw [qgj hc hi h']
 simp only
 rw [show ((s2.toNat:Nat):Int)=s2 by omega]
 simp only [hz2]
 simp only [if_true]
 rw [qwe h'' (by rw [ql]; omega) (by rw [ql]; omega) (by omega)]
 simp only
 rw [qce (by omega) (by omega),qce (by omega) (by omega),show b2+e2=d by omega,show b+e=n by omega]
 rw [show p+(qo e x.toNat).length+(qhc dl s2.toNat).length+(qo e2 x2.toNat).length=p+((qo e x.toNat).length+((qhc dl s2.toNat).length+(qo e2 x2.toNat).length)) by omega]
theorem qdn {p:Nat} {r:List Bool} {out:List Int} {b:Int} (hc:okC ll) (hi:inC ll b.toNat) (h0:0≤b) (h1:b < 256) (f:Nat) (h:B.drop p=qhc ll b.toNat ++ r) :
 qqd ll dl B most (f+1) (p,out,0)=qqd ll dl B most f (zput most b (p+(qhc ll b.toNat).length,out,0)):=by
 rw [qqd,if_neg (by simp)]
 simp only
 rw [qgj hc hi h]
 simp only
 rw [if_neg (by omega),if_pos (by omega),show ((b.toNat:Nat):Int)=b by omega]
theorem qem {p:Nat} {r:List Bool} {out:List Int} {s:Int} (hc:okC ll) (hi:inC ll s.toNat) (h0:257≤s) (h1:s≤285) (f:Nat) (h:B.drop p=qhc ll s.toNat ++ r) :
 qqd ll dl B most (f+1) (p,out,0)=qqd ll dl B most f (zbehind dl B most s (p+(qhc ll s.toNat).length,out,0)):=by
 rw [qqd,if_neg (by simp)]
 simp only
 rw [qgj hc hi h]
 simp only
 rw [if_neg (by omega),if_neg (by omega),show ((s.toNat:Nat):Int)=s by omega]
theorem zcodedG_end {p:Nat} {r:List Bool} {out:List Int} (hc:okC ll) (hi:inC ll 256) (f:Nat) (h:B.drop p=qhc ll 256 ++ r) :
 qqd ll dl B most (f+1) (p,out,0)=(p+(qhc ll 256).length,out,0):=by
 rw [qqd,if_neg (by simp)]
 simp only
 rw [qgj hc hi h]
 simp only
 rw [if_pos (show (0:Int) ≠ 0 ∨ ((256:Nat):Int)=256 from Or.inr rfl)]
theorem qen (f:Nat) {z:Z} (h:z.2.2 ≠ 0):qqd ll dl B most f z=z:=by
 cases f with
 | zero=>rfl
 | succ f=>rw [qqd,if_pos h]
theorem Gx.dec {bits:List Bool} {out:List Int} (hcl:okC ll) (hcd:okC dl) (h:Gx ll dl bits out):∀ {p:Nat} {r:List Bool},p≤B.length→B.drop p=bits ++ r→(out.length:Int)≤most →
 ∃ k,k≤bits.length∧∀ f,qqd ll dl B most (f+k) (p,[],0)=qqd ll dl B most f (p+bits.length,out,0):=by
 induction h with
 | nil=>intro p r hp hd hm; exact ⟨0,Nat.le_refl _,fun f=>rfl⟩
 | @lit bits out b h h0 h1 hl ih =>
   intro p r hp hd hm
   rw [List.length_append,List.length_singleton] at hm
   rw [List.append_assoc] at hd
   obtain ⟨k,hk,ih⟩:=ih hp hd (by omega)
   have hs:=qbi hl
   refine ⟨k+1,by rw [List.length_append]; omega,fun f=>?_⟩
   rw [show f+(k+1)=(f+1)+k by omega,ih,qdn hcl hl h0 h1 f (qac hd)]
   unfold zput
   rw [if_neg (by simp),if_neg (by simp only; omega),List.length_append,Nat.add_assoc]
 | @copy bits out n d s e x s2 e2 x2 h h3 h258 hdd hdo hs hs2 hl hdl ih =>
   intro p r hp hd hm
   rw [qwg] at hm
   rw [List.append_assoc] at hd
   obtain ⟨k,hk,ih⟩:=ih hp hd (by omega)
   have hr:=qak hs
   have hsp:=qbi hl
   refine ⟨k+1,by simp only [List.length_append]; omega,fun f=>?_⟩
   have l1:=qic hd
   have hd2:=qac hd
   rw [List.append_assoc] at hd2
   have l2:=qic hd2
   have hd3:=qac hd2
   simp only [List.append_assoc] at hd3
   rw [show f+(k+1)=(f+1)+k by omega,ih,qem hcl hl hr.1 hr.2 f hd2,qzo hcd h3 hs hs2 hdl hdd (by omega) hd3,if_neg (by omega),zcp_full _ _ _ _ (by omega)]
   simp only [List.length_append,Nat.add_assoc]
theorem Gx.short {bits:List Bool} {out:List Int} (hcl:okC ll) (hcd:okC dl) (h:Gx ll dl bits out):∀ {p:Nat} {r:List Bool},p≤B.length→B.drop p=bits ++ r→0≤most→most < (out.length:Int) →
 ∀ f,(qqd ll dl B most (f+bits.length) (p,[],0)).2.2=5:=by
 induction h with
 | nil=>intro p r hp hd h0 hm; simp at hm; omega
 | @lit bits out b h h0 h1 hl ih =>
   intro p r hp hd hm0 hm
   rw [List.append_assoc] at hd
   have hs:=qbi hl
   intro f
   rw [List.length_append]
   by_cases hle:(out.length:Int)≤most
   · obtain ⟨k,hk,hdec⟩:=Gx.dec (most:=most) hcl hcd h hp hd hle
     rw [List.length_append,List.length_singleton] at hm
     rw [show f+(bits.length+(qhc ll b.toNat).length)=((f+(bits.length - k)+((qhc ll b.toNat).length - 1))+1)+k by omega,hdec,qdn hcl hl h0 h1 _ (qac hd)]
     unfold zput
     rw [if_neg (by simp),if_pos (by simp only; omega),qen _ (by simp)]
   · rw [show f+(bits.length+(qhc ll b.toNat).length)=(f+(qhc ll b.toNat).length)+bits.length by omega]
     exact ih hp hd hm0 (by omega) _
 | @copy bits out n d s e x s2 e2 x2 h h3 h258 hdd hdo hs hs2 hl hdl ih =>
   intro p r hp hd hm0 hm
   rw [List.append_assoc] at hd
   have hr:=qak hs
   have hsp:=qbi hl
   intro f
   rw [qwg] at hm
   rw [List.length_append,List.length_append]
   by_cases hle:(out.length:Int)≤most
   · obtain ⟨k,hk,hdec⟩:=Gx.dec (most:=most) hcl hcd h hp hd hle
     have l1:=qic hd
     have hd2:=qac hd
     rw [List.append_assoc] at hd2
     have l2:=qic hd2
     have hd3:=qac hd2
     simp only [List.append_assoc] at hd3
     generalize (qo e x.toNat ++ (qhc dl s2.toNat ++ qo e2 x2.toNat)).length=q
     rw [show f+(bits.length+((qhc ll s.toNat).length+q))=((f+(bits.length - k)+((qhc ll s.toNat).length - 1)+q)+1)+k by omega,hdec,qem hcl hl hr.1 hr.2 _ hd2,qzo hcd h3 hs hs2 hdl hdd (by omega) hd3,if_neg (by omega)]
     have h5:=zcp_short (most:=most) (p+bits.length+(qhc ll s.toNat).length+((qo e x.toNat).length+((qhc dl s2.toNat).length+(qo e2 x2.toNat).length))) d n.toNat out hle (by omega)
     rw [qen _ (by rw [h5]; decide),h5]
   · rw [show f+(bits.length+((qhc ll s.toNat).length+(qo e x.toNat ++ (qhc dl s2.toNat ++ qo e2 x2.toNat)).length))=(f+((qhc ll s.toNat).length+(qo e x.toNat ++ (qhc dl s2.toNat ++ qo e2 x2.toNat)).length))+bits.length by omega]
     exact ih hp hd hm0 (by omega) _
theorem qqm {ls:List Int} (h:qih ls true=0) (z:Z):qcg ls z=z:=by
 unfold qcg
 rw [if_neg (fun e=>e.2 h)]
theorem zblk_good {bits:List Bool} {out:List Int} {p:Nat} {r:List Bool} (hcl:okC ll) (hcd:okC dl) (hnl:qih ll true=0) (hnd:qih dl true=0) (h:Gx ll dl bits out) (hi:inC ll 256) (hp:p≤B.length) (hd:B.drop p=(bits ++ qhc ll 256) ++ r) (hm:(out.length:Int)≤most) :
 zblk ll dl B most (p,[],0)=(p+(bits ++ qhc ll 256).length,out,0):=by
 have hl:=qic hd
 rw [List.append_assoc] at hd
 rw [List.length_append] at hl
 have h256:¬ ((0:Int)=0∧ll.getD 256 0=0):=fun e=>by have:=hi.2; omega
 have ez:(if (((p,[],0):Z)).2.2=0∧ll.getD 256 0=0 then qod 2 (p,[],0) else (p,[],0))=((p,[],0):Z):=if_neg h256
 unfold zblk
 rw [ez]
 rw [qqm hnl,qqm hnd]
 simp only
 rw [if_neg (fun e=>e rfl)]
 obtain ⟨k,hk,hdec⟩:=Gx.dec (most:=most) hcl hcd h hp hd hm
 have hs:=qbi hi
 rw [show B.length+1=((B.length - k)+1)+k by omega,hdec,zcodedG_end hcl hi _ (qac hd),List.length_append,Nat.add_assoc]
theorem qyo {bits:List Bool} {out:List Int} {p:Nat} {r:List Bool} (hcl:okC ll) (hcd:okC dl) (hnl:qih ll true=0) (hnd:qih dl true=0) (h:Gx ll dl bits out) (hi:inC ll 256) (hp:p≤B.length) (hd:B.drop p=(bits ++ qhc ll 256) ++ r) (h0:0≤most) (hm:most < (out.length:Int)) :
 (zblk ll dl B most (p,[],0)).2.2=5:=by
 have hl:=qic hd
 rw [List.append_assoc] at hd
 rw [List.length_append] at hl
 have h256:¬ ((0:Int)=0∧ll.getD 256 0=0):=fun e=>by have:=hi.2; omega
 have ez:(if (((p,[],0):Z)).2.2=0∧ll.getD 256 0=0 then qod 2 (p,[],0) else (p,[],0))=((p,[],0):Z):=if_neg h256
 unfold zblk
 rw [ez]
 rw [qqm hnl,qqm hnd]
 simp only
 rw [if_neg (fun e=>e rfl)]
 rw [show B.length+1=(B.length+1 - bits.length)+bits.length by omega]
 exact Gx.short (most:=most) hcl hcd h hp hd h0 hm _
end
def tkB (ll dl:List Int) (t:Tk):List Bool :=
 if t.2.1=0 then qhc ll t.1.toNat
 else qhc ll (ofLen t.2.1).1.toNat ++ (qo (ofLen t.2.1).2.1 (ofLen t.2.1).2.2.toNat ++ (qhc dl (ofDis t.2.2).1.toNat ++ qo (ofDis t.2.2).2.1 (ofDis t.2.2).2.2.toNat))
def tksB (ll dl:List Int) (L:List Tk):List Bool:=L.flatMap (tkB ll dl)
def tkIn (ll dl:List Int) (t:Tk):Prop:=if t.2.1=0 then inC ll t.1.toNat else inC ll (ofLen t.2.1).1.toNat∧inC dl (ofDis t.2.2).1.toNat
theorem tks_gx {ll dl:List Int} {b:List Int} (hb:∀ x ∈ b,0≤x∧x < 256):∀ {n m:Nat} {L:List Tk},que b n L m→n≤b.length→∀ {bits:List Bool},Gx ll dl bits (b.take n)→(∀ t ∈ L,tkIn ll dl t)→Gx ll dl (bits ++ tksB ll dl L) (b.take m):=by
 intro n m L h
 induction h with
 | nil n=>intro hn bits hg _; simpa [tksB] using hg
 | @lit n m r h hr ih =>
   intro hn bits hg hin
   have h1:=hb _ (List.getElem_mem h)
   have e1:b[n]=b.getD n 0:=by simp [List.getD,h]
   rw [e1] at h1
   have ht:=hin _ (List.mem_cons_self ..)
   have ht:inC ll (b.getD n 0).toNat:=ht
   have hg2:=Gx.lit hg h1.1 h1.2 ht
   rw [← qmf h] at hg2
   have:=ih (by omega) hg2 (fun t h=>hin t (List.mem_cons_of_mem _ h))
   rw [List.append_assoc] at this
   exact this
 | @copy n m k d r h3 h258 hd hdn hdf hk hs hr ih =>
   intro hn bits hg hin
   have ht:=hin _ (List.mem_cons_self ..)
   have hk0:¬ ((k:Int)=0):=by omega
   unfold tkIn at ht
   rw [if_neg hk0] at ht
   have hl:(b.take n).length=n:=by rw [List.length_take]; omega
   have hg2:=Gx.copy (n:=(k:Int)) (d:=(d:Int)) hg (by omega) (by omega) (by omega) (by omega) (qdk (by omega) (by omega)) (qgi (by omega) (by omega)) ht.1 ht.2
   rw [show ((k:Int)).toNat=k from rfl,qmp hd k n hdn hk hs] at hg2
   have:=ih hk hg2 (fun t h=>hin t (List.mem_cons_of_mem _ h))
   rw [List.append_assoc] at this
   show Gx ll dl (bits ++ (tkB ll dl (0,(k:Int),(d:Int)) ++ tksB ll dl r)) _
   unfold tkB
   rw [if_neg hk0]
   exact this
end Go.Proofs.Ythdmmmfgjmmelaa
namespace Go.Proofs.Ythdmmmfgjmmelaa
open Go Go.Proofs
set_option linter.unusedVariables false
set_option linter.unusedSimpArgs false
abbrev Pc:=Int × Int × Int
inductive Runs (l:List Int):Nat→List Pc→Prop
 | nil:Runs l l.length []
 | one {i:Nat} {r:List Pc} (h:i < l.length) (h0:0≤l.getD i 0) (h1:l.getD i 0 < 16):Runs l (i+1) r→Runs l i ((l.getD i 0,0,0) :: r)
 | old {i k:Nat} {r:List Pc} (hi:0 < i) (h3:3≤k) (h6:k≤6) (hk:i+k≤l.length) (hs:∀ j,j < k→l.getD (i+j) 0=l.getD (i - 1) 0):Runs l (i+k) r→Runs l i ((16,(k:Int) - 3,2) :: r)
 | few {i k:Nat} {r:List Pc} (h3:3≤k) (h10:k≤10) (hk:i+k≤l.length) (hs:∀ j,j < k→l.getD (i+j) 0=0):Runs l (i+k) r→Runs l i ((17,(k:Int) - 3,3) :: r)
 | many {i k:Nat} {r:List Pc} (h11:11≤k) (h138:k≤138) (hk:i+k≤l.length) (hs:∀ j,j < k→l.getD (i+j) 0=0):Runs l (i+k) r→Runs l i ((18,(k:Int) - 11,7) :: r)
theorem Runs.le {l:List Int} {i:Nat} {ps:List Pc} (h:Runs l i ps):i+ps.length≤l.length:=by
 induction h with
 | nil=>simp
 | one h _ _ _ ih=>rw [List.length_cons]; omega
 | old _ h3 _ _ _ _ ih=>rw [List.length_cons]; omega
 | few h3 _ _ _ _ ih=>rw [List.length_cons]; omega
 | many h3 _ _ _ _ ih=>rw [List.length_cons]; omega
def pcOk (p:Pc):Prop:=0≤p.1∧p.1 < 19∧0≤p.2.2∧p.2.2≤7
theorem Runs.ok {l:List Int} {i:Nat} {ps:List Pc} (h:Runs l i ps):∀ p ∈ ps,pcOk p:=by
 induction h with
 | nil=>intro p hp; cases hp
 | one h h0 h1 _ ih=>intro p hp; exact (List.mem_cons.1 hp).elim (fun e=>by subst e; exact ⟨h0,by simp only; omega,by simp,by simp⟩) (ih p)
 | old _ h3 _ _ _ _ ih=>intro p hp; exact (List.mem_cons.1 hp).elim (fun e=>by subst e; exact ⟨by simp,by simp,by simp,by simp⟩) (ih p)
 | few h3 _ _ _ _ ih=>intro p hp; exact (List.mem_cons.1 hp).elim (fun e=>by subst e; exact ⟨by simp,by simp,by simp,by simp⟩) (ih p)
 | many h3 _ _ _ _ ih=>intro p hp; exact (List.mem_cons.1 hp).elim (fun e=>by subst e; exact ⟨by simp,by simp,by simp,by simp⟩) (ih p)
theorem take_rep {l:List Int} {i:Nat} {v:Int}:∀ {k:Nat},i+k≤l.length→(∀ j,j < k→l.getD (i+j) 0=v)→l.take (i+k)=l.take i ++ List.replicate k v:=by
 intro k
 induction k with
 | zero=>intro _ _; simp
 | succ k ih =>
   intro h hs
   rw [show i+(k+1)=(i+k)+1 by omega,qmf (by omega),ih (by omega) (fun j hj=>hs j (by omega)),hs k (by omega),List.append_assoc,List.replicate_succ']
def pcB (cl:List Int) (p:Pc):List Bool:=qhc cl p.1.toNat ++ qo p.2.1 p.2.2.toNat
def pcsB (cl:List Int) (ps:List Pc):List Bool:=ps.flatMap (pcB cl)
section
variable {B:List Bool} {most:Int} {cl l:List Int} {out:List Int}
theorem qxk {N:Nat} {l:List Int} {p q q2 k:Nat} {s v:Int} (hs:qdj cl B (p,out,0)=(s,(q,out,0))) (ha:zagain B s l (q,out,0)=((v,(k:Int)),(q2,out,0))) (hk:l.length+k≤N) :
 zllS cl B N l (p,out,0)=(l ++ List.replicate k v,(q2,out,0)):=by
 unfold zllS
 simp only
 rw [hs]
 simp only
 rw [ha]
 simp only
 have e:(if (N:Int) - (l.length:Int) < (k:Int) then qod 2 (q2,out,0) else (q2,out,0))=((q2,out,0):Z):=if_neg (by omega)
 rw [e,if_pos rfl,Int.toNat_natCast]
theorem qom {N f:Nat} {l l2:List Int} {z z2:Z} (h0:z.2.2=0) (hN:l.length < N) (h:zllS cl B N l z=(l2,z2)):zll cl B N (f+1) l z=zll cl B N f l2 z2:=by
 rw [zll,if_neg (by omega),h]
theorem zll_runs {i:Nat} {ps:List Pc} (hc:okC cl) (hr:Runs l i ps):(∀ p ∈ ps,inC cl p.1.toNat)→∀ {p:Nat} {r:List Bool},p≤B.length→B.drop p=pcsB cl ps ++ r→∀ f,ps.length≤f →
 zll cl B l.length f (l.take i) (p,out,0)=(l,(p+(pcsB cl ps).length,out,0)):=by
 induction hr with
 | nil =>
   intro _ p r hp hd f hf
   rw [List.take_length]
   cases f with
   | zero=>rfl
   | succ f=>rw [zll,if_pos (Or.inr (Nat.le_refl _))]; rfl
 | @one i rr h h0 h1 hr ih =>
   intro hin p r hp hd f hf
   rw [List.length_cons] at hf
   obtain ⟨f,rfl⟩:∃ g,f=g+1:=⟨f - 1,by omega⟩
   have hi:inC cl (l.getD i 0).toNat:=hin _ (List.mem_cons_self ..)
   have e:pcsB cl ((l.getD i 0,0,0) :: rr)=qhc cl (l.getD i 0).toNat ++ pcsB cl rr:=by
    show (qhc cl (l.getD i 0).toNat ++ qo 0 (0:Int).toNat) ++ pcsB cl rr=_
    rw [show qo 0 (0:Int).toNat=[] from rfl,List.append_nil]
   rw [e,List.append_assoc] at hd
   have hl:=qic hd
   have hs:=qgj hc hi hd (out:=out)
   have hll:(l.take i).length=i:=by rw [List.length_take]; omega
   have st:=qxk (N:=l.length) (l:=l.take i) (k:=1) (v:=l.getD i 0) hs (by
    unfold zagain
    rw [if_neg (by omega),if_neg (by omega),if_neg (by omega),show (((l.getD i 0).toNat:Nat):Int)=l.getD i 0 by omega]
    rfl) (by omega)
   rw [qom rfl (by omega) st,show l.take i ++ List.replicate 1 (l.getD i 0)=l.take (i+1) from (qmf h).symm,ih (fun p hp=>hin p (List.mem_cons_of_mem _ hp)) (by omega) (qac hd) f (by omega),e,List.length_append,Nat.add_assoc]
 | @old i k rr hi0 h3 h6 hk hs hr ih =>
   intro hin p r hp hd f hf
   rw [List.length_cons] at hf
   obtain ⟨f,rfl⟩:∃ g,f=g+1:=⟨f - 1,by omega⟩
   have hi:inC cl 16:=hin _ (List.mem_cons_self ..)
   have e:pcsB cl ((16,(k:Int) - 3,2) :: rr)=qhc cl 16 ++ (qo ((k:Int) - 3) 2 ++ pcsB cl rr):=List.append_assoc ..
   rw [e,List.append_assoc,List.append_assoc] at hd
   have hl:=qic hd
   have hs1:=qgj hc hi hd (out:=out)
   have hd2:=qac hd
   have hl2:=qic hd2
   have hg:=qwe (out:=out) (n:=2) hd2 (by rw [ql]; rfl) (by rw [ql]; omega) (by omega)
   have vs:=qce (e:=(k:Int) - 3) (x:=2) (by omega) (by show (k:Int) - 3 < 4; omega)
   rw [show (2:Int).toNat=2 from rfl] at vs
   rw [vs] at hg
   have hll:(l.take i).length=i:=by rw [List.length_take]; omega
   have st:=qxk (N:=l.length) (l:=l.take i) (k:=k) (v:=l.getD (i - 1) 0) hs1 (by
    unfold zagain
    rw [if_pos (show ((16:Nat):Int)=16 from rfl),if_neg (by omega),hll,qln (by omega),hg]
    simp only
    rw [show (3:Int)+((k:Int) - 3)=k by omega]) (by omega)
   rw [qom rfl (by omega) st,← take_rep hk hs,ih (fun p hp=>hin p (List.mem_cons_of_mem _ hp)) (by omega) (qac hd2) f (by omega),e,List.length_append,List.length_append,Nat.add_assoc,Nat.add_assoc]
 | @few i k rr h3 h10 hk hs hr ih =>
   intro hin p r hp hd f hf
   rw [List.length_cons] at hf
   obtain ⟨f,rfl⟩:∃ g,f=g+1:=⟨f - 1,by omega⟩
   have hi:inC cl 17:=hin _ (List.mem_cons_self ..)
   have e:pcsB cl ((17,(k:Int) - 3,3) :: rr)=qhc cl 17 ++ (qo ((k:Int) - 3) 3 ++ pcsB cl rr):=List.append_assoc ..
   rw [e,List.append_assoc,List.append_assoc] at hd
   have hl:=qic hd
   have hs1:=qgj hc hi hd (out:=out)
   have hd2:=qac hd
   have hl2:=qic hd2
   have hg:=qwe (out:=out) (n:=3) hd2 (by rw [ql]; rfl) (by rw [ql]; omega) (by omega)
   have vs:=qce (e:=(k:Int) - 3) (x:=3) (by omega) (by show (k:Int) - 3 < 8; omega)
   rw [show (3:Int).toNat=3 from rfl] at vs
   rw [vs] at hg
   have hll:(l.take i).length=i:=by rw [List.length_take]; omega
   have st:=qxk (N:=l.length) (l:=l.take i) (k:=k) (v:=0) hs1 (by
    unfold zagain
    rw [if_neg (by decide),if_pos (show ((17:Nat):Int)=17 from rfl),hg]
    simp only
    rw [show (3:Int)+((k:Int) - 3)=k by omega]) (by omega)
   rw [qom rfl (by omega) st,← take_rep hk hs,ih (fun p hp=>hin p (List.mem_cons_of_mem _ hp)) (by omega) (qac hd2) f (by omega),e,List.length_append,List.length_append,Nat.add_assoc,Nat.add_assoc]
 | @many i k rr h11 h138 hk hs hr ih =>
   intro hin p r hp hd f hf
   rw [List.length_cons] at hf
   obtain ⟨f,rfl⟩:∃ g,f=g+1:=⟨f - 1,by omega⟩
   have hi:inC cl 18:=hin _ (List.mem_cons_self ..)
   have e:pcsB cl ((18,(k:Int) - 11,7) :: rr)=qhc cl 18 ++ (qo ((k:Int) - 11) 7 ++ pcsB cl rr):=List.append_assoc ..
   rw [e,List.append_assoc,List.append_assoc] at hd
   have hl:=qic hd
   have hs1:=qgj hc hi hd (out:=out)
   have hd2:=qac hd
   have hl2:=qic hd2
   have hg:=qwe (out:=out) (n:=7) hd2 (by rw [ql]; rfl) (by rw [ql]; omega) (by omega)
   have vs:=qce (e:=(k:Int) - 11) (x:=7) (by omega) (by show (k:Int) - 11 < 128; omega)
   rw [show (7:Int).toNat=7 from rfl] at vs
   rw [vs] at hg
   have hll:(l.take i).length=i:=by rw [List.length_take]; omega
   have st:=qxk (N:=l.length) (l:=l.take i) (k:=k) (v:=0) hs1 (by
    unfold zagain
    rw [if_neg (by decide),if_neg (by decide),if_pos (show ((18:Nat):Int)=18 from rfl),hg]
    simp only
    rw [show (11:Int)+((k:Int) - 11)=k by omega]) (by omega)
   rw [qom rfl (by omega) st,← take_rep hk hs,ih (fun p hp=>hin p (List.mem_cons_of_mem _ hp)) (by omega) (qac hd2) f (by omega),e,List.length_append,List.length_append,Nat.add_assoc,Nat.add_assoc]
end
theorem tw_spec (v:Int):∀ m:List Int,(m.takeWhile (· == v)).length≤m.length∧(∀ j,j < (m.takeWhile (· == v)).length→m.getD j 0=v)∧((m.takeWhile (· == v)).length < m.length→m.getD (m.takeWhile (· == v)).length 0 ≠ v):=by
 intro m
 induction m with
 | nil=>exact ⟨Nat.le_refl _,fun j hj=>by simp at hj,fun h=>by simp at h⟩
 | cons x m ih =>
   obtain ⟨h1,h2,h3⟩:=ih
   by_cases hx:x=v
   · rw [List.takeWhile_cons_of_pos (by simpa using hx)]
     refine ⟨by simp only [List.length_cons]; omega,fun j hj=>?_,fun h=>?_⟩
     · cases j with
       | zero=>simpa using hx
       | succ j=>simp only [List.length_cons] at hj; simpa using h2 j (by omega)
     · simp only [List.length_cons] at h ⊢
       simpa using h3 (by omega)
   · rw [List.takeWhile_cons_of_neg (by simpa using hx)]
     exact ⟨by simp,fun j hj=>by simp at hj,fun h=>by simpa using hx⟩
def qoh (l:List Int) (i:Nat):Nat:=((l.drop (i+1)).takeWhile (· == l.getD i 0)).length+1
theorem qpn {l:List Int} {i:Nat} (hi:i < l.length):i+qoh l i≤l.length∧(∀ j,j < qoh l i→l.getD (i+j) 0=l.getD i 0)∧(i+qoh l i < l.length→l.getD (i+qoh l i) 0 ≠ l.getD i 0):=by
 obtain ⟨h1,h2,h3⟩:=tw_spec (l.getD i 0) (l.drop (i+1))
 rw [List.length_drop] at h1 h3
 have gd:∀ j,(l.drop (i+1)).getD j 0=l.getD (i+(j+1)) 0:=fun j=>by simp [List.getD,List.getElem?_drop]; congr 2; omega
 unfold qoh
 refine ⟨by omega,fun j hj=>?_,fun h=>?_⟩
 · cases j with
   | zero=>rfl
   | succ j=>rw [← gd]; exact h2 j (by omega)
 · rw [← gd]; exact h3 (by omega)
theorem runK_eq {l:List Int} {i n:Nat} (hi:i < l.length) (h1:i+n≤l.length) (h2:∀ j,j < n→l.getD (i+j) 0=l.getD i 0) (h3:i+n < l.length→l.getD (i+n) 0 ≠ l.getD i 0):n=qoh l i:=by
 obtain ⟨g1,g2,g3⟩:=qpn hi
 rcases Nat.lt_trichotomy n (qoh l i) with h | h | h
 · exact absurd (g2 n h) (h3 (by omega))
 · exact h
 · exact absurd (h2 _ h) (g3 (by omega))
theorem runK_pos (l:List Int) (i:Nat):1≤qoh l i:=by unfold qoh; omega
def runP (l:List Int) (i:Nat):Pc × Nat :=
 if l.getD i 0=0∧11≤qoh l i then ((18,((min (qoh l i) 138:Nat):Int) - 11,7),min (qoh l i) 138)
 else if l.getD i 0=0∧3≤qoh l i then ((17,(qoh l i:Int) - 3,3),qoh l i)
 else if (0 < i∧l.getD i 0=l.getD (i - 1) 0)∧3≤qoh l i then ((16,((min (qoh l i) 6:Nat):Int) - 3,2),min (qoh l i) 6)
 else ((l.getD i 0,0,0),1)
def runsF (l:List Int):Nat→Nat→List Pc
 | 0,_=>[]
 | f+1,i=>if l.length≤i then [] else (runP l i).1 :: runsF l f (i+(runP l i).2)
def runsL (l:List Int):List Pc:=runsF l l.length 0
theorem runP_pos (l:List Int) (i:Nat):1≤(runP l i).2:=by
 have:=runK_pos l i
 unfold runP
 split
 · simp only; omega
 · split
   · simp only; omega
   · split
     · simp only; omega
     · simp
theorem runP_le {l:List Int} {i:Nat} (hi:i < l.length):i+(runP l i).2≤l.length:=by
 have:=(qpn hi).1
 unfold runP
 split
 · simp only; omega
 · split
   · simp only; omega
   · split
     · simp only; omega
     · simp only; omega
theorem runsF_runs {l:List Int} (hl:∀ x ∈ l,0≤x∧x < 16):∀ f i,i≤l.length→l.length - i≤f→Runs l i (runsF l f i):=by
 intro f
 induction f with
 | zero =>
   intro i hi hf
   have:i=l.length:=by omega
   subst this; exact Runs.nil
 | succ f ih =>
   intro i hi hf
   rw [runsF]
   by_cases hi2:l.length≤i
   · have:i=l.length:=by omega
     subst this; rw [if_pos hi2]; exact Runs.nil
   · rw [if_neg hi2]
     have hi2:i < l.length:=by omega
     have hp:=runP_pos l i
     have hle:=runP_le hi2
     have ih:=ih (i+(runP l i).2) hle (by omega)
     obtain ⟨g1,g2,g3⟩:=qpn hi2
     revert ih
     generalize runsF l f (i+(runP l i).2)=rr
     unfold runP
     split
     · rename_i h1
       intro ih
       exact Runs.many (by omega) (by omega) (by omega) (fun j hj=>by rw [g2 j (by omega)]; exact h1.1) ih
     · split
       · rename_i h0 h1
         intro ih
         have:qoh l i < 11:=by
          rcases Nat.lt_or_ge (qoh l i) 11 with h | h
          · exact h
          · exact absurd ⟨h1.1,h⟩ h0
         exact Runs.few (by omega) (by omega) (by omega) (fun j hj=>by rw [g2 j (by omega)]; exact h1.1) ih
       · split
         · rename_i h1
           intro ih
           exact Runs.old h1.1.1 (by omega) (by omega) (by omega) (fun j hj=>by rw [g2 j (by omega)]; exact h1.1.2) ih
         · intro ih
           have hx:=hl _ (List.getElem_mem hi2)
           rw [show l[i]=l.getD i 0 by simp [List.getD,hi2]] at hx
           exact Runs.one hi2 hx.1 hx.2 ih
theorem runsL_runs {l:List Int} (hl:∀ x ∈ l,0≤x∧x < 16):Runs l 0 (runsL l):=runsF_runs hl _ _ (Nat.zero_le _) (by omega)
def qxf (l:List Int) (m:Nat):Nat→Nat
 | 0=>0
 | n+1=>if m < n+1∧l.getD n 0=0 then qxf l m n else n+1
theorem trimN_le (l:List Int) (m:Nat):∀ n,qxf l m n≤n:=by
 intro n
 induction n with
 | zero=>exact Nat.le_refl _
 | succ n ih=>rw [qxf]; split <;> omega
theorem trimN_ge (l:List Int) (m:Nat):∀ n,m≤n→m≤qxf l m n:=by
 intro n
 induction n with
 | zero=>intro h; exact h
 | succ n ih=>
   intro h
   rw [qxf]
   split
   · exact ih (by omega)
   · exact h
theorem trimN_no (l:List Int) (m:Nat):∀ n j,qxf l m n≤j→j < n→l.getD j 0=0:=by
 intro n
 induction n with
 | zero=>intro j _ h; omega
 | succ n ih =>
   intro j h1 h2
   rw [qxf] at h1
   split at h1
   · rename_i hc
     rcases Nat.lt_or_ge j n with h | h
     · exact ih j h1 h
     · rw [show j=n by omega]; exact hc.2
   · omega
theorem hc_nought (l:List Int) (n:Nat):hc (l ++ [0]) n=hc l n:=by
 rw [quk,if_neg (by omega),Nat.add_zero]
theorem hf_nought (l:List Int):∀ n,hf (l ++ [0]) n=hf l n:=by
 intro n
 induction n with
 | zero=>rfl
 | succ n ih=>rw [hf,hf,ih,hc_nought]
theorem qwn (l:List Int):kr (l ++ [0])=kr l:=by rw [kr_snoc,if_neg (by omega),Nat.add_zero]
theorem sbits_nought {l:List Int} {s:Nat} (hs:s < l.length):qhc (l ++ [0]) s=qhc l s:=by
 unfold qhc
 rw [qah hs]
 unfold qef
 rw [qah hs,hf_nought,List.take_append_of_le_length (by omega)]
theorem inC_nought {l:List Int} {s:Nat} (h:inC (l ++ [0]) s):inC l s:=by
 obtain ⟨h1,h2⟩:=h
 rw [List.length_append,List.length_singleton] at h1
 rcases Nat.lt_or_ge s l.length with h | h
 · rw [qah h] at h2; exact ⟨h,h2⟩
 · rw [show s=l.length by omega,qil] at h2; omega
theorem okC_nought {l:List Int} (h:okC (l ++ [0])):okC l:=⟨(okL_snoc h.1).1,by have:=h.2; rwa [qwn] at this⟩
theorem hnew_nought {l:List Int} (h:qih (l ++ [0]) true=0):qih l true=0:=by
 obtain ⟨h1,h2,h3,h4⟩:=hchk_ok (hnew_ok h)
 have k1:okL l:=(okL_snoc h1).1
 rw [List.length_append] at h3
 have k2:kr l≤32768:=by rwa [qwn] at h2
 have c:hchk l=(decide (kr l=32768),0):=by
  unfold hchk
  rw [if_neg (by simp at h3; omega),if_neg (by simpa using k1),if_neg (by omega)]
 have c2:hchk (l ++ [0])=(decide (kr l=32768),0):=by
  rw [← qwn l]
  exact Prod.ext h4 (hnew_ok h)
 have hh:hhalf (l ++ [0])=hhalf l:=by
  rw [hhalf_eq h1,hhalf_eq k1]
  simp
 unfold qih at h ⊢
 rw [c2,hh] at h
 rw [c]
 exact h
theorem trim_code {l:List Int} (m:Nat):∀ n,n≤l.length→okC (l.take n)→qih (l.take n) true=0 →
 okC (l.take (qxf l m n))∧qih (l.take (qxf l m n)) true=0∧∀ s,inC (l.take n) s→inC (l.take (qxf l m n)) s∧qhc (l.take (qxf l m n)) s=qhc (l.take n) s:=by
 intro n
 induction n with
 | zero=>intro _ h1 h2; exact ⟨h1,h2,fun s h=>⟨h,rfl⟩⟩
 | succ n ih =>
   intro hn h1 h2
   rw [qxf]
   split
   · rename_i hc
     rw [qmf (by omega),hc.2] at h1 h2 ⊢
     obtain ⟨k1,k2,k3⟩:=ih (by omega) (okC_nought h1) (hnew_nought h2)
     refine ⟨k1,k2,fun s hs=>?_⟩
     have hs:=inC_nought hs
     obtain ⟨k4,k5⟩:=k3 s hs
     exact ⟨k4,by rw [k5,sbits_nought hs.1]⟩
   · exact ⟨h1,h2,fun s h=>⟨h,rfl⟩⟩
end Go.Proofs.Ythdmmmfgjmmelaa
namespace Go.Proofs.Ythdmmmfgjmmelaa
open Go Go.Proofs
set_option linter.unusedVariables false
set_option linter.unusedSimpArgs false
attribute [local irreducible] apK cpK mkK br
section
variable {most:Int} {bits:List Bool} {out:List Int}
theorem Fx.bytes (h:Fx bits out):∀ x ∈ out,0≤x∧x < 256:=by
 induction h with
 | nil=>intro x hx; simp at hx
 | lit h h0 h1 ih =>
   intro x hx
   rcases List.mem_append.1 hx with hx | hx
   · exact ih x hx
   · rw [List.mem_singleton.1 hx]; exact ⟨h0,h1⟩
 | copy h _ _ _ _ _ _ ih=>exact tkCopy_b _ _ _ ih
end
end Go.Proofs.Ythdmmmfgjmmelaa
namespace Go.Proofs.Ythdmmmfgjmmelaa
open Go Go.Proofs
set_option linter.unusedVariables false
set_option linter.unusedSimpArgs false
attribute [local irreducible] apK cpK mkK br
theorem xorV_nat {a b:Nat} (ha:a < 9223372036854775808) (hb:b < 9223372036854775808):xorV .i64 (a:Int) (b:Int)=((a ^^^ b:Nat):Int):=by
 have hx:a ^^^ b < 2 ^ 63:=Nat.xor_lt_two_pow (by simpa using ha) (by simpa using hb)
 have e:(BitVec.ofInt 64 (a:Int) ^^^ BitVec.ofInt 64 (b:Int)).toNat=a ^^^ b:=by
  rw [BitVec.ofInt_natCast,BitVec.ofInt_natCast,BitVec.toNat_xor,BitVec.toNat_ofNat,BitVec.toNat_ofNat,Nat.mod_eq_of_lt (by omega),Nat.mod_eq_of_lt (by omega)]
 show IntKind.i64.wrap (((BitVec.ofInt 64 (a:Int) ^^^ BitVec.ofInt 64 (b:Int)).toNat:Nat):Int)=_
 rw [e]
 generalize a ^^^ b=c at hx
 exact qk (by omega) (by omega)
theorem xor_good {a:Nat} (ha:a < 65536):(65535 ^^^ a) < 65536∧a ^^^ (65535 ^^^ a)=65535:=by
 refine ⟨Nat.xor_lt_two_pow (n:=16) (by decide) ha,?_⟩
 rw [Nat.xor_comm 65535 a,← Nat.xor_assoc,Nat.xor_self,Nat.zero_xor]
inductive ZGo (B:List Bool) (most:Int):Z→Z→Prop
 | refl (z:Z):ZGo B most z z
 | step {z z1:Z} (h:ZGo B most z z1) (h2:znot2 B z1) (he:(zblock B most z1).2.2.2=0) (hl:(zblock B most z1).1=false):ZGo B most z (zblock B most z1).2
theorem ZGo.run {B:List Bool} {most:Int} {z z1 z':Z} (h:ZGo B most z z1):∀ {n:Nat},ZRun B most n z1 z'→∃ m,ZRun B most m z z':=by
 induction h with
 | refl=>intro n hr; exact ⟨n,hr⟩
 | step h h2 he hl ih=>intro n hr; exact ih (ZRun.next h2 he hl hr)
def bb (ys:List Int):List Bool:=ys.flatMap fun x=>qo x 8
theorem qll (ys:List Int):(bb ys).length=8 * ys.length:=by
 induction ys with
 | nil=>rfl
 | cons y ys ih =>
   have:bb (y :: ys)=qo y 8 ++ bb ys:=rfl
   rw [this,List.length_append,ih,ql,List.length_cons]; omega
theorem bb_snoc (ys:List Int) (y:Int):bb (ys ++ [y])=bb ys ++ qo y 8:=by simp [bb]
theorem zst_full {B:List Bool} {most:Int}:∀ (ys:List Int) (p:Nat) (out:List Int) (r:List Bool),(∀ y ∈ ys,0≤y∧y < 256)→p≤B.length→B.drop p=bb ys ++ r→(out.length+ys.length:Int)≤most→zst B most ys.length (p,out,0)=(p+8 * ys.length,out ++ ys,0):=by
 intro ys
 induction ys with
 | nil=>intro p out r _ _ _ _; simp [zst]
 | cons y ys ih =>
   intro p out r hy hp hd hm
   rw [List.length_cons] at hm
   have e:bb (y :: ys)=qo y 8 ++ bb ys:=rfl
   rw [e,List.append_assoc] at hd
   have l1:=qic hd
   have hy0:=hy y (by simp)
   rw [ql] at l1
   have hd2:=qac hd
   rw [ql] at hd2
   rw [List.length_cons,zst,qwe hd (by rw [ql]; rfl) (by rw [ql]; decide) hp]
   simp only
   rw [show (qo y 8:List Bool)=qo y (8:Int).toNat from rfl,qce (x:=8) hy0.1 (by have:(2:Int) ^ (8:Int).toNat=256:=by decide
                                                                                omega)]
   unfold zput
   rw [if_neg (by simp),if_neg (by simp only; omega)]
   simp only
   rw [show (qo y (8:Int).toNat).length=8 from ql _ _]
   by_cases hn:ys=[]
   · subst hn; simp [zst]
   have h3:0 < ys.length:=List.length_pos_iff.2 hn
   have hle:p+8≤B.length:=by omega
   rw [ih (p+8) (out ++ [y]) r (fun x hx=>hy x (by simp [hx])) hle hd2 (by rw [List.length_append,List.length_singleton]; omega)]
   simp only [List.append_assoc,List.singleton_append]
   rw [show p+8+8 * ys.length=p+8 * (ys.length+1) by omega]
theorem zstored_at {B r pd:List Bool} {most:Int} {p c:Nat} {lb:Bool} {out ys:List Int} (hy:∀ y ∈ ys,0≤y∧y < 256) (hp:p≤B.length) (hys:ys.length < 65536) (hc:c < 65536)
 (hpd:pd.length=8 * ((p+3+7) / 8) - (p+3)) (hm:(out.length+ys.length:Int)≤most)
 (hd:B.drop p=[lb] ++ ([false,false] ++ (pd ++ (qo (ys.length:Int) 16 ++ (qo (c:Int) 16 ++ (bb ys ++ r)))))) :
 znot2 B (p,out,0)∧(ys.length ^^^ c ≠ 65535→(zblock B most (p,out,0)).2.2.2=2) ∧
 (ys.length ^^^ c=65535→zblock B most (p,out,0)=(lb,(p+3+pd.length+32+8 * ys.length,out ++ ys,0))):=by
 have l1:=qic hd
 have g1:=qwe (B:=B) (out:=out) (n:=1) hd rfl (by simp) hp
 have hd2:=qac hd
 have l2:=qic hd2
 have g2:=qwe (B:=B) (out:=out) (n:=2) hd2 rfl (by decide) (by simp only [List.length_cons,List.length_nil] at l1 ⊢; omega)
 have hd3:=qac hd2
 have l3:=qic hd3
 have hd4:=qac hd3
 have l4:=qic hd4
 have hd5:=qac hd4
 have l5:=qic hd5
 have hd6:=qac hd5
 simp only [List.length_cons,List.length_nil,ql] at l1 l2 l3 l4 l5 hd2 hd3 hd4 hd5 hd6 g1 g2
 have ep:8 * ((p+3+7) / 8)=p+3+pd.length:=by omega
 have e16:(2:Int) ^ (16:Int).toNat=65536:=by decide
 have g3:=qwe (B:=B) (out:=out) (n:=16) hd4 (by rw [ql]; rfl) (by rw [ql]; decide) (by omega)
 have g4:=qwe (B:=B) (out:=out) (n:=16) hd5 (by rw [ql]; rfl) (by rw [ql]; decide) (by omega)
 rw [show (qo (ys.length:Int) 16:List Bool)=qo (ys.length:Int) (16:Int).toNat from rfl,qce (x:=16) (by omega) (by rw [e16]; omega)] at g3
 rw [show (qo (c:Int) 16:List Bool)=qo (c:Int) (16:Int).toNat from rfl,qce (x:=16) (by omega) (by rw [e16]; omega)] at g4
 rw [ql] at g3 g4
 have e0:(16:Int).toNat=16:=rfl
 rw [e0] at g3 g4
 have st:zstored B most (p+3,out,0)=if ((ys.length ^^^ c:Nat):Int) ≠ 65535 then qod 2 (p+3+pd.length+32,out,0) else zst B most ys.length (p+3+pd.length+32,out,0):=by
  unfold zstored
  simp only
  rw [ep]
  rw [show p+1+2+pd.length=p+3+pd.length by omega] at g3
  rw [show p+1+2+pd.length+16=p+3+pd.length+16 by omega] at g4
  rw [g3]
  simp only
  rw [g4]
  simp only
  rw [if_neg (by simp),xorV_nat (by omega) (by omega),Int.toNat_natCast]
  split
  · rfl
  · rw [if_neg (by omega)]
 have zb:zblock B most (p,out,0)=((val [lb]:Int) == 1,zstored B most (p+3,out,0)):=by
  unfold zblock
  simp only [g1]
  rw [g2]
  simp only
  rw [if_neg (by simp),if_pos (by decide)]
 refine ⟨Or.inr ?_,fun hne=>?_,fun he=>?_⟩
 · rw [g1]
   simp only
   rw [g2]
   simp only
   decide
 · rw [zb,st,if_pos (by omega)]
   rfl
 · rw [zb,st,if_neg (by omega)]
   rw [zst_full ys _ _ r hy (by omega) (by rw [show p+3+pd.length+32=p+1+2+pd.length+16+16 by omega]; exact hd6) hm]
   cases lb <;> rfl
def SGo (l:List Bool) (want:List Int):Prop:=∀ B r:List Bool,B=l ++ r→ZGo B 5000 (0,[],0) (l.length,want,0)
def SEnd (l:List Bool) (Q:Z→Prop):Prop:=∀ B r:List Bool,B=l ++ r→∃ n z',ZRun B 5000 n (0,[],0) z'∧Q z'
def blkBits (l:List Bool) (lb:Bool) (ys:List Int) (c:Nat):List Bool:=[lb] ++ ([false,false] ++ (pad (l ++ [lb] ++ [false,false]) ++ (qo (ys.length:Int) 16 ++ (qo (c:Int) 16 ++ bb ys))))
theorem pad_len (l:List Bool):(pad l).length=8 * ((l.length+7) / 8) - l.length:=by
 unfold pad
 rw [List.length_replicate]
 omega
theorem SGo.blk {l:List Bool} {want ys:List Int} {lb:Bool} {c:Nat} (h:SGo l want) (hy:∀ y ∈ ys,0≤y∧y < 256) (hys:ys.length < 65536) (hc:c < 65536) (hm:want.length+ys.length≤5000) :
 (ys.length ^^^ c ≠ 65535→SEnd (l ++ blkBits l lb ys c) fun z=>z.2.2=2) ∧
 (ys.length ^^^ c=65535→lb=true→SEnd (l ++ blkBits l lb ys c) fun z=>z=((l ++ blkBits l lb ys c).length,want ++ ys,0)) ∧
 (ys.length ^^^ c=65535→lb=false→SGo (l ++ blkBits l lb ys c) (want ++ ys)):=by
 have hpl:(pad (l ++ [lb] ++ [false,false])).length=8 * ((l.length+3+7) / 8) - (l.length+3):=by
  rw [pad_len]
  simp only [List.length_append,List.length_cons,List.length_nil]
 have hlen:(l ++ blkBits l lb ys c).length=l.length+3+(pad (l ++ [lb] ++ [false,false])).length+32+8 * ys.length:=by
  unfold blkBits
  simp only [List.length_append,List.length_cons,List.length_nil,ql,qll]
  omega
 have at':∀ B r:List Bool,B=l ++ blkBits l lb ys c ++ r→_:=fun B r e =>
  zstored_at (B:=B) (r:=r) (pd:=pad (l ++ [lb] ++ [false,false])) (most:=5000) (p:=l.length) (c:=c) (lb:=lb) (out:=want) (ys:=ys) hy (by rw [e]; simp only [List.length_append]; omega) hys hc hpl (by omega) (by
   rw [e,List.append_assoc,List.drop_left' rfl]
   unfold blkBits
   simp only [List.append_assoc])
 refine ⟨fun hne B r e=>?_,fun he hl B r e=>?_,fun he hl B r e=>?_⟩
 · obtain ⟨a1,a2,_⟩:=at' B r e
   obtain ⟨m,hr⟩:=(h B (blkBits l lb ys c ++ r) (by rw [e,List.append_assoc])).run (ZRun.bad a1 (by rw [a2 hne]; decide))
   exact ⟨m,_,hr,a2 hne⟩
 · obtain ⟨a1,_,a3⟩:=at' B r e
   have a3:=a3 he
   obtain ⟨m,hr⟩:=(h B (blkBits l lb ys c ++ r) (by rw [e,List.append_assoc])).run (ZRun.last a1 (by rw [a3]) (by rw [a3]; exact hl))
   exact ⟨m,_,hr,by rw [a3,hlen]⟩
 · obtain ⟨a1,_,a3⟩:=at' B r e
   have a3:=a3 he
   have hg:=ZGo.step (h B (blkBits l lb ys c ++ r) (by rw [e,List.append_assoc])) a1 (by rw [a3]) (by rw [a3]; exact hl)
   rw [a3] at hg
   rw [hlen]
   exact hg
end Go.Proofs.Ythdmmmfgjmmelaa
namespace Go.Proofs.Ythdmmmfgjmmelaa
open Go Go.Proofs
set_option linter.unusedVariables false
set_option linter.unusedSimpArgs false
section
variable {B:List Bool} {most:Int} {cl a b:List Int} {out:List Int}
theorem flat3 {S:List Int} {f:Int→List Bool} (hf:∀ s,(f s).length=3):∀ {p:Nat} {r:List Bool},B.drop p=S.flatMap f ++ r→∀ k,k < S.length→∃ r',B.drop (p+3 * k)=f (S.getD k 0) ++ r':=by
 induction S with
 | nil=>intro p r _ k hk; simp at hk
 | cons s S ih =>
   intro p r hd k hk
   rw [List.flatMap_cons,List.append_assoc] at hd
   cases k with
   | zero=>exact ⟨_,hd⟩
   | succ k =>
     simp only [List.length_cons] at hk
     obtain ⟨r',h⟩:=ih (qac hd) k (by omega)
     rw [hf] at h
     exact ⟨r',by rw [show p+3 * (k+1)=p+3+3 * k by omega,h]; rfl⟩
theorem qdo {S:List Int} {f:Int→List Bool} (hf:∀ s,(f s).length=3):(S.flatMap f).length=3 * S.length:=by
 induction S with
 | nil=>rfl
 | cons s S ih=>rw [List.flatMap_cons,List.length_append,ih,hf,List.length_cons]; omega
def clS (cl:List Int) (k:Nat):List Int:=qek 19 fun s=>if s ∈ (qvf.take k).map Int.toNat then cl.getD s 0 else 0
theorem zord_take {k:Nat} (h:k < 19):qvf.take (k+1)=qvf.take k ++ [qvf.getD k 0]:=qmf h
theorem zord_lt2 {k:Nat} (h:k < 19):(qvf.getD k 0).toNat < 19:=by
 have:∀ k:Nat,k < 19→(qvf.getD k 0).toNat < 19:=by decide
 exact this k h
theorem clS_succ (cl:List Int) {k:Nat} (h:k < 19):(clS cl k).set (qvf.getD k 0).toNat (cl.getD (qvf.getD k 0).toNat 0)=clS cl (k+1):=by
 have h1:=zord_lt2 h
 refine lext (by rw [List.length_set]; exact (quc _ _).trans (quc _ _).symm) fun j hj=>?_
 rw [List.length_set,clS,quc] at hj
 have e2:(clS cl (k+1)).getD j 0=_:=qse hj
 have e1:(clS cl k).getD j 0=_:=qse hj
 have hmem:j ∈ (qvf.take (k+1)).map Int.toNat ↔ j ∈ (qvf.take k).map Int.toNat ∨ j=(qvf.getD k 0).toNat:=by
  rw [zord_take h,List.map_append,List.mem_append]
  simp
 rw [e2]
 by_cases hjk:j=(qvf.getD k 0).toNat
 · subst hjk
   rw [List.getD_eq_getElem?_getD,List.getElem?_set_self (by rw [clS,quc]; exact h1),if_pos (hmem.2 (Or.inr rfl))]
   rfl
 · rw [List.getD_eq_getElem?_getD,List.getElem?_set_ne (by omega),← List.getD_eq_getElem?_getD,e1]
   by_cases hm:j ∈ (qvf.take k).map Int.toNat
   · rw [if_pos hm,if_pos (hmem.2 (Or.inl hm))]
   · rw [if_neg hm,if_neg fun e=>(hmem.1 e).elim hm hjk]
theorem clS_all {n:Nat} (hcl:cl.length=19) (hz:∀ j,n≤j→j < 19→cl.getD (qvf.getD j 0).toNat 0=0):clS cl n=cl:=by
 refine lext (by rw [clS,quc,hcl]) fun s hs=>?_
 rw [clS,quc] at hs
 have e1:(clS cl n).getD s 0=_:=qse hs
 rw [e1]
 split
 · rfl
 · rename_i hm
   have key:∀ s:Nat,s < 19→∃ j:Nat,j < 19∧(qvf.getD j 0).toNat=s:=by decide
   obtain ⟨j,hj,rfl⟩:=key s hs
   rcases Nat.lt_or_ge j n with h | h
   · exact absurd (List.mem_map.2 ⟨qvf.getD j 0,List.mem_iff_getElem?.2 ⟨j,by
      have hjl:j < qvf.length:=hj
      rw [List.getElem?_take,if_pos h]
      simp [List.getD,hjl]⟩,rfl⟩) hm
   · exact (hz j h hj).symm
theorem zclr_at {n p:Nat} {r:List Bool} (hb:∀ j:Nat,0≤cl.getD j 0∧cl.getD j 0 < 8) (hn:n≤19) (hp:p≤B.length)
 (hd:B.drop p=(qvf.take n).flatMap (fun s=>qo (cl.getD s.toNat 0) 3) ++ r):∀ k,k≤n→zclr B (p,out,0) k=(clS cl k,(p+3 * k,out,0)):=by
 have hfl:=qdo (S:=qvf.take n) (f:=fun s=>qo (cl.getD s.toNat 0) 3) (fun s=>ql _ _)
 have hll:(qvf.take n).length=n:=by rw [List.length_take]; exact Nat.min_eq_left hn
 have hdl:=qic hd
 rw [hfl,hll] at hdl
 intro k
 induction k with
 | zero=>intro _; rw [zclr]; exact Prod.ext (by show _=clS cl 0; unfold clS; rfl) rfl
 | succ k ih =>
   intro hk
   obtain ⟨r',hr'⟩:=flat3 (S:=qvf.take n) (f:=fun s=>qo (cl.getD s.toNat 0) 3) (fun s=>ql _ _) hd k (by omega)
   rw [qln (show k < n by omega)] at hr'
   have hx:=hb (qvf.getD k 0).toNat
   have hg:=qwe (out:=out) (n:=3) hr' (by rw [ql]; rfl) (by rw [ql]; decide) (by omega)
   have vs:=qce (e:=cl.getD (qvf.getD k 0).toNat 0) (x:=3) hx.1 hx.2
   rw [show (3:Int).toNat=3 from rfl] at vs
   rw [vs,ql] at hg
   rw [zclr,ih (by omega)]
   simp only
   rw [hg]
   simp only
   rw [clS_succ _ (by omega)]
   rfl
def hdB (a b cl:List Int) (n:Nat) (ps:List Pc):List Bool :=
 qo ((a.length:Int) - 257) 5 ++ (qo ((b.length:Int) - 1) 5 ++ (qo ((n:Int) - 4) 4 ++ ((qvf.take n).flatMap (fun s=>qo (cl.getD s.toNat 0) 3) ++ pcsB cl ps)))
theorem zlens_at {n p:Nat} {ps:List Pc} {r:List Bool} (ha1:257≤a.length) (ha2:a.length≤286) (hb1:1≤b.length) (hb2:b.length≤30) (hcl:cl.length=19) (hcb:∀ j:Nat,0≤cl.getD j 0∧cl.getD j 0 < 8) (hn1:4≤n) (hn2:n≤19)
 (hz:∀ j,n≤j→j < 19→cl.getD (qvf.getD j 0).toNat 0=0) (hc:okC cl) (hnew0:qih cl false=0) (hr:Runs (a ++ b) 0 ps) (hin:∀ q ∈ ps,inC cl q.1.toNat) (hp:p≤B.length)
 (hd:B.drop p=hdB a b cl n ps ++ r):zlens B (p,out,0)=((a,b),(p+(hdB a b cl n ps).length,out,0)):=by
 unfold hdB at hd
 simp only [List.append_assoc] at hd
 have hd1:=qac hd
 have hd2:=qac hd1
 have hd3:=qac hd2
 have hd4:=qac hd3
 have l0:=qic hd
 have l1:=qic hd1
 have l2:=qic hd2
 have l3:=qic hd3
 have hfl:=qdo (S:=qvf.take n) (f:=fun s=>qo (cl.getD s.toNat 0) 3) (fun s=>ql _ _)
 have hll:(qvf.take n).length=n:=by rw [List.length_take]; exact Nat.min_eq_left hn2
 rw [hll] at hfl
 simp only [ql] at hd1 hd2 hd3 hd4 l0 l1 l2 l3
 have g1:=qwe (out:=out) (n:=5) hd (by rw [ql]; rfl) (by rw [ql]; decide) hp
 have g2:=qwe (out:=out) (n:=5) hd1 (by rw [ql]; rfl) (by rw [ql]; decide) (by omega)
 have g3:=qwe (out:=out) (n:=4) hd2 (by rw [ql]; rfl) (by rw [ql]; decide) (by omega)
 have v1:=qce (e:=(a.length:Int) - 257) (x:=5) (by omega) (by show (a.length:Int) - 257 < 32; omega)
 have v2:=qce (e:=(b.length:Int) - 1) (x:=5) (by omega) (by show (b.length:Int) - 1 < 32; omega)
 have v3:=qce (e:=(n:Int) - 4) (x:=4) (by omega) (by show (n:Int) - 4 < 16; omega)
 rw [show (5:Int).toNat=5 from rfl] at v1 v2
 rw [show (4:Int).toNat=4 from rfl] at v3
 rw [v1,ql] at g1
 rw [v2,ql] at g2
 rw [v3,ql] at g3
 have hclr:=zclr_at (out:=out) hcb hn2 (by omega) hd3 n (Nat.le_refl _)
 rw [clS_all hcl hz] at hclr
 rw [hfl] at hd4 l3
 have hzl:=zll_runs (out:=out) hc hr hin (by omega) hd4 (a.length+b.length+1) (by have:=hr.le; rw [List.length_append] at this; omega)
 unfold zlens
 simp only
 have c1:(if (286:Int) < (a.length:Int) - 257+257 then qod 2 (p+5,out,0) else (p+5,out,0))=((p+5,out,0):Z):=if_neg (by omega)
 have c2:(if (30:Int) < (b.length:Int) - 1+1 then qod 2 (p+5+5,out,0) else (p+5+5,out,0))=((p+5+5,out,0):Z):=if_neg (by omega)
 simp only [g1,c1,g2,c2,g3]
 rw [show (((n:Int) - 4)+4).toNat=n by omega,hclr]
 simp only
 have e5:zcodeH cl false (p+5+5+4+3 * n,out,0)=(p+5+5+4+3 * n,out,0):=by unfold zcodeH; rw [if_neg (fun e=>e.2 hnew0)]
 rw [e5,show (((a.length:Int) - 257+257)+((b.length:Int) - 1+1)).toNat=a.length+b.length by omega]
 rw [List.take_zero,List.length_append] at hzl
 rw [hzl]
 simp only
 rw [if_neg (fun e=>e rfl),show ((a.length:Int) - 257+257).toNat=a.length by omega,List.take_left' rfl,List.drop_left' rfl]
 unfold hdB
 simp only [List.length_append,ql]
 rw [hfl]
 refine Prod.ext rfl (Prod.ext ?_ rfl)
 show _=p+_
 simp only
 omega
end
def Dfl (xs:List Int) (D:List Bool):Prop :=
 ∀ (B r:List Bool) (most:Int),B=D ++ r→0≤most→((xs.length:Int)≤most→ZAll B most 0 (0,[],0) (D.length,xs,0))∧(most < xs.length→∃ z',ZAll B most 0 (0,[],0) z'∧z'.2.2=5)
section
variable {B:List Bool} {most:Int} {xs:List Int}
theorem Dfl.of {D:List Bool} (h:∀ (B r:List Bool) (most:Int),B=D ++ r→0≤most→((xs.length:Int)≤most→qdd B most (0,[],0)=(true,(D.length,xs,0)))∧(most < xs.length→(qdd B most (0,[],0)).2.2.2=5)):Dfl xs D:=by
 intro B r most e h0
 obtain ⟨h1,h2⟩:=h B r most e h0
 refine ⟨fun hm=>?_,fun hm=>?_⟩
 · have e:=h1 hm
   have:=ZAll.last (B:=B) (most:=most) (z:=(0,[],0)) (by rw [e]) (by rw [e])
   rwa [e] at this
 · have e:=h2 hm
   exact ⟨_,ZAll.bad (by rw [e]; decide),e⟩
theorem qtl {k:List Bool} {p:Nat} {r:List Bool} (hk:k.length=2) (h:B.drop 0=([true] ++ k) ++ r):qhe B 1 (0,[],0)=(1,(1,[],0))∧qhe B 2 (1,[],0)=((val k:Int),(3,[],0))∧B.drop 3=r∧3≤B.length:=by
 rw [List.append_assoc] at h
 have l:=qic h
 have g1:=qwe (out:=[]) (n:=1) h rfl (by decide) (by omega)
 have h2:=qac h
 have l2:=qic h2
 have g2:=qwe (out:=[]) (n:=2) h2 (by rw [hk]; rfl) (by omega) (by simp only [List.length_singleton] at l ⊢; omega)
 have h3:=qac h2
 rw [hk] at g2 h3 l2
 simp only [List.length_singleton] at l l2
 exact ⟨g1,g2,h3,by omega⟩
theorem zblockA_fix {r:List Bool} (h:B.drop 0=([true] ++ [true,false]) ++ r):qdd B most (0,[],0)=(true,zblk qkg qxd B most (3,[],0)):=by
 obtain ⟨g1,g2,_,_⟩:=qtl (p:=0) rfl h
 unfold qdd
 simp only
 rw [g1]
 simp only
 rw [g2]
 simp only
 rw [if_neg (by simp),if_neg (by decide),if_pos (by decide)]
 rfl
theorem zblockA_dyn {r:List Bool} (h:B.drop 0=([true] ++ [false,true]) ++ r):qdd B most (0,[],0)=(true,let q:=zlens B (3,[],0); if q.2.2.2 ≠ 0 then q.2 else zblk q.1.1 q.1.2 B most q.2):=by
 obtain ⟨g1,g2,_,_⟩:=qtl (p:=0) rfl h
 unfold qdd
 simp only
 rw [g1]
 simp only
 rw [g2]
 simp only
 rw [if_neg (by simp),if_neg (by decide),if_neg (by decide),if_pos (by decide)]
 rfl
theorem zblockA_sto {r:List Bool} (h:B.drop 0=([true] ++ [false,false]) ++ r):qdd B most (0,[],0)=(true,zstored B most (3,[],0)):=by
 obtain ⟨g1,g2,_,_⟩:=qtl (p:=0) rfl h
 unfold qdd
 simp only
 rw [g1]
 simp only
 rw [g2]
 simp only
 rw [if_neg (by simp),if_pos (by decide)]
 rfl
theorem qyi:okC qkg:=⟨by unfold okL; decide +kernel,by decide +kernel⟩
theorem qtj:okC qxd:=⟨by unfold okL; decide +kernel,by decide +kernel⟩
theorem flit_new:qih qkg true=0:=by decide +kernel
theorem qgo:qih qxd true=0:=by decide +kernel
theorem qao {s:Nat} (h:s < 288):inC qkg s:=by
 have:∀ s:Nat,s < 288→s < qkg.length∧0 < qkg.getD s 0:=by decide +kernel
 exact this s h
theorem fdist_in {s:Nat} (h:s < 32):inC qxd s:=by
 have:∀ s:Nat,s < 32→s < qxd.length∧0 < qxd.getD s 0:=by decide +kernel
 exact this s h
def fxB (L:List Tk):List Bool:=[true,true,false] ++ (tksB qkg qxd L ++ qhc qkg 256)
theorem Dfl.fixed {L:List Tk} (hb:∀ x ∈ xs,0≤x∧x < 256) (hL:que xs 0 L xs.length) (hin:∀ t ∈ L,tkIn qkg qxd t):Dfl xs (fxB L):=by
 refine Dfl.of fun B r most e h0=>?_
 have g:=tks_gx hb hL (Nat.zero_le _) Gx.nil hin
 rw [List.nil_append,List.take_length] at g
 have hd:B.drop 0=([true] ++ [true,false]) ++ ((tksB qkg qxd L ++ qhc qkg 256) ++ r):=by
  rw [e]; rfl
 obtain ⟨_,_,hd3,h3⟩:=qtl (p:=0) rfl hd
 rw [zblockA_fix hd]
 refine ⟨fun hm=>?_,fun hm=>?_⟩
 · rw [zblk_good qyi qtj flit_new qgo g (qao (by decide)) h3 hd3 hm]
   refine Prod.ext rfl (Prod.ext ?_ rfl)
   unfold fxB
   simp only [List.length_append,List.length_cons,List.length_nil]
 · have hh:=qyo qyi qtj flit_new qgo g (qao (by decide)) h3 hd3 h0 hm
   revert hh
   generalize zblk qkg qxd B most (3,[],0)=z
   exact id
def dyB (a b cl:List Int) (n:Nat) (ps:List Pc) (L:List Tk):List Bool:=[true,false,true] ++ (hdB a b cl n ps ++ (tksB a b L ++ qhc a 256))
theorem Dfl.dynamic {L:List Tk} {a b cl:List Int} {n:Nat} {ps:List Pc} (hb:∀ x ∈ xs,0≤x∧x < 256) (hL:que xs 0 L xs.length) (hin:∀ t ∈ L,tkIn a b t)
 (ha1:257≤a.length) (ha2:a.length≤286) (hb1:1≤b.length) (hb2:b.length≤30) (hcl:cl.length=19) (hcb:∀ j:Nat,0≤cl.getD j 0∧cl.getD j 0 < 8) (hn1:4≤n) (hn2:n≤19)
 (hz:∀ j,n≤j→j < 19→cl.getD (qvf.getD j 0).toNat 0=0) (hc:okC cl) (hnew0:qih cl false=0) (hr:Runs (a ++ b) 0 ps) (hpi:∀ q ∈ ps,inC cl q.1.toNat)
 (hca:okC a) (hcb2:okC b) (hna:qih a true=0) (hnb:qih b true=0) (hi:inC a 256):Dfl xs (dyB a b cl n ps L):=by
 refine Dfl.of fun B r most e h0=>?_
 have g:=tks_gx hb hL (Nat.zero_le _) Gx.nil hin
 rw [List.nil_append,List.take_length] at g
 have hd:B.drop 0=([true] ++ [false,true]) ++ (hdB a b cl n ps ++ ((tksB a b L ++ qhc a 256) ++ r)):=by
  rw [e]
  unfold dyB
  simp only [List.append_assoc]
  rfl
 obtain ⟨_,_,hd3,h3⟩:=qtl (p:=0) rfl hd
 rw [zblockA_dyn hd]
 have hz:=zlens_at (out:=[]) ha1 ha2 hb1 hb2 hcl hcb hn1 hn2 hz hc hnew0 hr hpi h3 hd3
 have hd4:=qac hd3
 have l3:=qic hd3
 simp only
 rw [hz]
 simp only
 rw [if_neg (fun e=>e rfl)]
 refine ⟨fun hm=>?_,fun hm=>?_⟩
 · rw [zblk_good hca hcb2 hna hnb g hi (by omega) hd4 hm]
   refine Prod.ext rfl (Prod.ext ?_ rfl)
   unfold dyB
   simp only [List.length_append,List.length_cons,List.length_nil]
   omega
 · exact qyo hca hcb2 hna hnb g hi (by omega) hd4 h0 hm
def sdB (xs:List Int):List Bool:=[true,false,false] ++ (List.replicate 5 false ++ (qo (xs.length:Int) 16 ++ (qo ((65535 ^^^ xs.length:Nat):Int) 16 ++ bb xs)))
theorem Dfl.stored (hb:∀ x ∈ xs,0≤x∧x < 256) (hl:xs.length < 65536):Dfl xs (sdB xs):=by
 refine Dfl.of fun B r most e h0=>?_
 obtain ⟨x1,x2⟩:=xor_good hl
 generalize hcx:65535 ^^^ xs.length=c at x1 x2
 have hd:B.drop 0=([true] ++ [false,false]) ++ (List.replicate 5 false ++ (qo (xs.length:Int) 16 ++ (qo (c:Int) 16 ++ (bb xs ++ r)))):=by
  rw [e]
  unfold sdB
  rw [hcx]
  simp only [List.append_assoc]
  rfl
 obtain ⟨_,_,hd3,h3⟩:=qtl (p:=0) rfl hd
 rw [zblockA_sto hd]
 have l3:=qic hd3
 have hd4:=qac hd3
 rw [List.length_replicate] at hd4 l3
 have l4:=qic hd4
 have hd5:=qac hd4
 rw [ql] at hd5 l4
 have l5:=qic hd5
 have hd6:=qac hd5
 rw [ql] at hd6 l5
 have e16:(2:Int) ^ (16:Int).toNat=65536:=by decide
 have g3:=qwe (B:=B) (out:=[]) (n:=16) hd4 (by rw [ql]; rfl) (by rw [ql]; decide) (by omega)
 have g4:=qwe (B:=B) (out:=[]) (n:=16) hd5 (by rw [ql]; rfl) (by rw [ql]; decide) (by omega)
 have v1:=qce (e:=(xs.length:Int)) (x:=16) (by omega) (by rw [e16]; omega)
 have v2:=qce (e:=(c:Int)) (x:=16) (by omega) (by rw [e16]; omega)
 rw [show (16:Int).toNat=16 from rfl] at v1 v2
 rw [v1,ql] at g3
 rw [v2,ql] at g4
 have st:zstored B most (3,[],0)=if most - ([]:List Int).length < (xs.length:Int) then qod 5 (40,[],0) else zst B most xs.length (40,[],0):=by
  unfold zstored
  simp only
  rw [show 8 * ((3+7) / 8)=3+5 from rfl,g3]
  simp only
  rw [g4]
  simp only
  rw [if_neg (by simp),xorV_nat (by omega) (by omega),x2,if_neg (by decide),Int.toNat_natCast]
 rw [st]
 refine ⟨fun hm=>?_,fun hm=>?_⟩
 · rw [if_neg (by simp; omega),zst_full xs 40 [] r hb (by omega) hd6 (by simpa using hm)]
   refine Prod.ext rfl (Prod.ext ?_ rfl)
   unfold sdB
   simp only [List.length_append,List.length_cons,List.length_nil,List.length_replicate,ql,qll]
   omega
 · rw [if_pos (by simp; omega)]
   rfl
end
end Go.Proofs.Ythdmmmfgjmmelaa
namespace Go.Proofs.Ythdmmmfgjmmelaa
open Go Go.Proofs
set_option linter.unusedVariables false
set_option linter.unusedSimpArgs false
attribute [local irreducible] apK cpK mkK
def lf (x n:Int):Int:=orV .u32 (qej .u32 x n) (shrV .u32 x (32 - n))
def no32 (b:Int):Int:=xorV .u32 4294967295 b
def mixF (t:Nat) (b c d:Int):Int × Int :=
 if t < 20 then (orV .u32 (andV .u32 b c) (andV .u32 (no32 b) d),1518500249)
 else if t < 40 then (xorV .u32 (xorV .u32 b c) d,1859775393)
 else if t < 60 then (orV .u32 (orV .u32 (andV .u32 b c) (andV .u32 b d)) (andV .u32 c d),2400959708)
 else (xorV .u32 (xorV .u32 b c) d,3395469782)
structure W5 where
 a:Int
 b:Int
 c:Int
 d:Int
 e:Int
def stepF (t:Nat) (x:Int) (s:W5):W5 :=
 ⟨IntKind.u32.wrap (IntKind.u32.wrap (IntKind.u32.wrap (IntKind.u32.wrap (lf s.a 5+(mixF t s.b s.c s.d).1)+s.e)+(mixF t s.b s.c s.d).2)+x),s.a,lf s.b 30,s.c,s.d⟩
def rounds (l:List Int):Nat→W5→W5
 | 0,s=>s
 | n+1,s=>stepF n (l.getD n 0) (rounds l n s)
def nextW (l:List Int):Int:=lf (xorV .u32 (xorV .u32 (xorV .u32 (l.getD (l.length - 3) 0) (l.getD (l.length - 8) 0)) (l.getD (l.length - 14) 0)) (l.getD (l.length - 16) 0)) 1
def growW:Nat→List Int→List Int
 | 0,l=>l
 | n+1,l=>growW n (l ++ [nextW l])
def be (l:List Int):Int:=l.foldl (fun a x=>a * 256+x) 0
theorem be_snoc (l:List Int) (x:Int):be (l ++ [x])=be l * 256+x:=by simp [be]
def base16 (p:List Int):List Int:=(List.range 16).map fun t=>be ((p.drop (4 * t)).take 4)
def addW (s x:W5):W5:=⟨IntKind.u32.wrap (s.a+x.a),IntKind.u32.wrap (s.b+x.b),IntKind.u32.wrap (s.c+x.c),IntKind.u32.wrap (s.d+x.d),IntKind.u32.wrap (s.e+x.e)⟩
def blkF (s:W5) (p:List Int):W5:=addW s (rounds (growW 64 (base16 p)) 80 s)
def W5.l (s:W5):List Int:=[s.a,s.b,s.c,s.d,s.e]
def init5:W5:=⟨1732584193,4023233417,2562383102,271733878,3285377520⟩
def hs (xs:List Int):Nat→W5
 | 0=>init5
 | n+1=>blkF (hs xs n) ((xs.drop (64 * n)).take 64)
def be8 (n:Int):List Int:=(List.range 8).map fun i=>n / 2 ^ (8 * (7 - i)) % 256
def zeros (n:Nat):List Int:=List.replicate ((119 - n % 64) % 64) 0
def padded (xs:List Int):List Int:=xs ++ [128] ++ zeros xs.length ++ be8 (8 * xs.length)
def sumW (xs:List Int):W5:=hs (padded xs) ((padded xs).length / 64)
def word4 (x:Int):List Int:=[x / 2 ^ 24 % 256,x / 2 ^ 16 % 256,x / 2 ^ 8 % 256,x % 256]
def sumB (xs:List Int):List Int:=(sumW xs).l.flatMap word4
section
variable {F0:List Nat} {w0 w:World} {ps:List As}
end
end Go.Proofs.Ythdmmmfgjmmelaa
namespace Go.Proofs.Ythdmmmfgjmmelaa
open Go Go.Proofs
set_option linter.unusedVariables false
set_option linter.unusedSimpArgs false
attribute [local irreducible] apK cpK mkK
attribute [local irreducible] rounds growW
def allB (l:List Int):Prop:=∀ x ∈ l,0≤x∧x < 256
theorem be_lt:∀ (l:List Int),allB l→0≤be l∧be l < 256 ^ l.length:=by
 intro l
 have key:∀ (l:List Int) (a:Int) (k:Nat),allB l→0≤a→a < 256 ^ k→0≤l.foldl (fun a x=>a * 256+x) a∧l.foldl (fun a x=>a * 256+x) a < 256 ^ (k+l.length):=by
  intro l
  induction l with
  | nil=>intro a k _ h0 h1; exact ⟨h0,h1⟩
  | cons x l ih =>
    intro a k hb h0 h1
    have hx:=hb x (by simp)
    have:=ih (a * 256+x) (k+1) (fun y hy=>hb y (by simp [hy])) (by omega) (by rw [Int.pow_succ]; omega)
    rw [List.foldl_cons,List.length_cons,show k+(l.length+1)=k+1+l.length by omega]
    exact this
 intro hb
 have:=key l 0 0 hb (by omega) (by decide)
 rwa [Nat.zero_add] at this
section
variable {F0:List Nat} {w0 w:World} {ps:List As}
end
end Go.Proofs.Ythdmmmfgjmmelaa
namespace Go.Proofs.Ythdmmmfgjmmelaa
open Go Go.Proofs
set_option linter.unusedVariables false
set_option maxRecDepth 100000
def qdf.j2 (out_7:Sl) (Q:VWP) (w:World):Prop :=
 Calls Try.prog 51 ⟨[.slice out_7.a out_7.len out_7.cap]⟩ w fun e1 w2 =>
 ∃ r3:Sl,e1=.returned (.slice r3.a r3.len r3.cap) ∧
 Q (.slice r3.a r3.len r3.cap) w2
def qdf.b1 (v_1 bits_2:Int) (out_7:Sl) (Q:VWP) (nx1:Int→Int→Sl→World→Prop) (w:World):Prop :=
 br (decide ((bits_2:Int) > 0)) (
 lt (IntKind.i64.wrap (bits_2 - 8)) fun x4 =>
 (0:Int)≤x4 ∧
 lt (shrV .i64 v_1 x4) fun x5 =>
 lt (IntKind.u8.wrap x5) fun x6 =>
 lt (⟨World.heapSize w,0,none⟩:Addr) fun a7 =>
 lt (World.alloc w (.cells ⟨[.int .u8 x6]⟩ 5)) fun w8 =>
 rdO w8 (some a7) (1 * 1) fun c9 =>
 apK Try.prog 5 w8 out_7.a out_7.len out_7.cap 1 c9 fun s10 w11 =>
 nx1 v_1 x4 s10 w11) (
 qdf.j2 out_7 Q w)
def qdf.l1 (v_1 bits_2:Int) (out_7:Sl) (Q:VWP) (w:World):Prop :=
 ∃ (I:Int→Sl→World→Prop) (μ:Int→Sl→World→Nat),I bits_2 out_7 w∧∀ bits_2:Int,∀ out_7:Sl,∀ w:World,I bits_2 out_7 w→qdf.b1 v_1 bits_2 out_7 Q (fun v_1' bits_2' out_7' w'=>(v_1'=v_1)∧I bits_2' out_7' w'∧μ bits_2' out_7' w' < μ bits_2 out_7 w) w
def qdf.j1 (v_1 bits_2:Int) (out_7:Sl) (Q:VWP) (w:World):Prop :=
 qdf.l1 v_1 bits_2 out_7 Q w
def qdf (b_0:Sl) (v_1:Int) (bits_2:Int) (Q:VWP) (w:World):Prop :=
 Calls Try.prog 50 ⟨[.slice b_0.a b_0.len b_0.cap]⟩ w fun e12 w13 =>
 ∃ r14:Sl,e12=.returned (.slice r14.a r14.len r14.cap) ∧
 qdf.j1 v_1 bits_2 r14 Q w13
theorem qdf.ok (b_0:Sl) (v_1:Int) (bits_2:Int) (Q:VWP) (w:World) (h:qdf b_0 v_1 bits_2 Q w):Calls Try.prog 101 ⟨[.slice b_0.a b_0.len b_0.cap,.int .i64 v_1,.int .i64 bits_2]⟩ w (Ret Q):=by
 refine qn [.tmp 6] Try.func101 rfl rfl rfl rfl ?_
 refine qib qpb (fun ρ w=>asI .i64 (ρ 1) fun v_1=>asI .i64 (ρ 2) fun bits_2=>asL (ρ 7) fun out_7=>qdf.j1 v_1 bits_2 out_7 Q w) (Eq.mp (by kernel_rfl) h) ?_
 intro ρ w h
 obtain ⟨v_1,e1,h⟩:=qe h
 obtain ⟨bits_2,e2,h⟩:=qe h
 obtain ⟨out_7,e7,h⟩:=qj h
 refine qb e1 (qb (qa e2 rfl) (qb (qa (qa e7 rfl) rfl) ?_))
 refine qr (fun ρ w=>asL (ρ 7) fun out_7=>qdf.j2 out_7 Q w) ?_ ?_
 · skip
   refine qcb ?_
   obtain ⟨I,μ,hI,hr⟩:=h
   refine qhb (α:=Int × Sl) (fun s ρ=>ρ 2=.int .i64 s.1∧ρ 7=.slice s.2.a s.2.len s.2.cap∧ρ 1=.int .i64 v_1) (fun s w=>I s.1 s.2 w) (fun s w=>μ s.1 s.2 w) (bits_2,out_7) ⟨rfl,rfl,rfl⟩ hI ?_
   rintro ⟨bits_2,out_7⟩ ρ w ⟨e2,e7,e1⟩ hI
   have h:=hr bits_2 out_7 w hI
   clear hr
   obtain ⟨nx1,hnx⟩:∃ nx:Int→Int→Sl→World→Prop,nx=(fun v_1' bits_2' out_7' w'=>(v_1'=v_1)∧I bits_2' out_7' w'∧μ bits_2' out_7' w' < μ bits_2 out_7 w):=⟨_,rfl⟩
   rw [← hnx] at h
   refine qob (M:=fun ρ w=>asI .i64 (ρ 1) fun v_1=>asI .i64 (ρ 2) fun bits_2=>asL (ρ 7) fun out_7=>nx1 v_1 bits_2 out_7 w) ?_ (fun ρ w h=>?_)
   · skip
     refine qb e1 (qb (qa e2 rfl) (qb (qa (qa e7 rfl) rfl) ?_))
     exact qg qpb _ (Eq.mp (by kernel_rfl) h)
   · skip
     obtain ⟨v_1',e1',h⟩:=qe h
     obtain ⟨bits_2',e2',h⟩:=qe h
     obtain ⟨out_7',e7',h⟩:=qj h
     rw [hnx] at h
     obtain ⟨hu,hI2,hμ⟩:=h
     obtain rfl:=hu
     exact ⟨(bits_2',out_7'),⟨e2',e7',e1'⟩,hI2,hμ⟩
 · intro ρ w h
   obtain ⟨out_7,e7,h⟩:=qj h
   refine qb e7 ?_
   exact qg qpb _ (Eq.mp (by kernel_rfl) h)
def qki (b_0:Sl) (v_1:Int) (Q:VWP) (w:World):Prop :=
 Calls Try.prog 101 ⟨[.slice b_0.a b_0.len b_0.cap,.int .i64 v_1,.int .i64 32]⟩ w fun e1 w2 =>
 ∃ r3:Sl,e1=.returned (.slice r3.a r3.len r3.cap) ∧
 Q (.slice r3.a r3.len r3.cap) w2
theorem qki.ok (b_0:Sl) (v_1:Int) (Q:VWP) (w:World) (h:qki b_0 v_1 Q w):Calls Try.prog 61 ⟨[.slice b_0.a b_0.len b_0.cap,.int .i64 v_1]⟩ w (Ret Q):=by
 refine qn [.tmp 4] Try.func61 rfl rfl rfl rfl ?_
 exact qg qpb _ (Eq.mp (by kernel_rfl) h)
end Go.Proofs.Ythdmmmfgjmmelaa
namespace Go.Proofs.Ythdmmmfgjmmelaa
open Go Go.Proofs
set_option linter.unusedVariables false
set_option linter.unusedSimpArgs false
attribute [local irreducible] apK cpK mkK hs
def beJ (n j:Nat) (v:Int):List Int:=(List.range j).map fun i=>v / 2 ^ (8 * (n - 1 - i)) % 256
theorem qqp (n j:Nat) (v:Int):(beJ n j v).length=j:=by simp [beJ]
theorem beJ_succ (n j:Nat) (v:Int):beJ n (j+1) v=beJ n j v ++ [v / 2 ^ (8 * (n - 1 - j)) % 256]:=by simp [beJ,List.range_succ]
theorem beJ_ok (n j:Nat) (v:Int):allB (beJ n j v):=by
 intro x hx
 obtain ⟨i,_,rfl⟩:=List.mem_map.1 hx
 omega
section
variable {F0:List Nat} {w0 w:World} {ps:List As}
theorem St.blkrd {b n:Nat} {l:List Value} (h:St F0 w0 w (qxc b l :: ps)) (hn:l.length=n):St F0 w0 w (rdA 1 ⟨some ⟨b,0,none⟩,n,n⟩ l :: ps):=by
 refine h.mp ?_
 rintro F ⟨hb,rfl⟩
 exact ⟨by simp [hn],Or.inr ⟨b,0,l,rfl,hb.rb,rfl,fun i hi=>by rw [Nat.zero_add]⟩⟩
theorem qdf.c {s:Sl} {xs:List Int} {v:Int} {n:Nat} {K:Ending→World→Prop} (h:St F0 w0 w ps) (hr:Rd w 1 s (u8s xs)) (hL:xs.length≤1099511627776) (hn:n≤8)
 (hk:∀ s' w',s'.len=xs.length+n→s'.cap=s'.len→St F0 w0 w' (rdA 1 s' (u8s (xs ++ beJ n n v)) :: ps)→K (.returned (.slice s'.a s'.len s'.cap)) w'):Calls Try.prog 101 ⟨[.slice s.a s.len s.cap,.int .i64 v,.int .i64 ((8 * n:Nat):Int)]⟩ w K:=by
 refine qoc (qdf.ok _ _ _ _ _ ?_)
 unfold qdf
 refine qed.c h hr (by omega) fun s1 w h=>⟨s1,rfl,?_⟩
 unfold qdf.j1
 refine loop2 (fun (j:Nat) (b':Int) (o':Sl) w=>b'=((8 * (n - j):Nat):Int)∧j≤n∧St F0 w0 w (qdc 1 o' (u8s (xs ++ beJ n j v)) :: ps)) (fun j=>n - j) 0 ⟨rfl,by omega,by simpa [beJ] using h⟩ ?_
 clear h
 rintro j b' o w I μ ⟨rfl,hj,h⟩ hin
 unfold qdf.b1
 refine qzc (fun h1=>?_) (fun h1=>?_)
 · refine qy (qk (by omega) (by omega)) ?_
   have e:((8 * (n - j):Nat):Int) - 8=((8 * (n - 1 - j):Nat):Int):=by omega
   rw [e]
   refine ⟨by omega,?_⟩
   refine qy (qdl .i64 _ (show 8 * (n - 1 - j)≤64 by omega)) ?_
   refine qy (qhn _) ?_
   refine h.new fun nb w h=>?_
   refine h.rdB rfl ?_
   refine h.drop.append_u8 (by rw [List.length_append,qqp]; omega) rfl fun s2 w h=>?_
   refine ⟨rfl,hin (j+1) _ _ _ ⟨?_,by omega,?_⟩ (by omega)⟩
   · rw [show n - 1 - j=n - (j+1) by omega]
   · rw [beJ_succ,← List.append_assoc]
     exact h
 · have:j=n:=by omega
   subst this
   have hcap:=h.cap (by decide)
   have hlen:=h.len
   rw [qfg,List.length_append,qqp] at hlen
   unfold qdf.j2
   refine qcd.c h.ro hcap fun s3 hs1 hs2 h=>⟨s3,rfl,hk s3 w (by omega) (by omega) h⟩
end
end Go.Proofs.Ythdmmmfgjmmelaa
namespace Go.Proofs.Ythdmmmfgjmmelaa
open Go Go.Proofs
set_option linter.unusedVariables false
set_option maxRecDepth 100000
def qcm (b_0:Sl) (Q:VWP) (w:World):Prop :=
 Calls Try.prog 50 ⟨[.slice b_0.a b_0.len b_0.cap]⟩ w fun e1 w2 =>
 ∃ r3:Sl,e1=.returned (.slice r3.a r3.len r3.cap) ∧
 lt (⟨World.heapSize w2,0,none⟩:Addr) fun a4 =>
 lt (World.alloc w2 (.cells (⟨[.slice r3.a r3.len r3.cap,.int .i64 0,.int .i64 0]⟩:Array Value) 215)) fun w5 =>
 Q (.pointer (some a4)) w5
theorem qcm.ok (b_0:Sl) (Q:VWP) (w:World) (h:qcm b_0 Q w):Calls Try.prog 107 ⟨[.slice b_0.a b_0.len b_0.cap]⟩ w (Ret Q):=by
 refine qn [.tmp 2] Try.func107 rfl rfl rfl rfl ?_
 exact qg qpb _ (Eq.mp (by kernel_rfl) h)
def qkf (r_0:OAd) (Q:VWP) (w:World):Prop :=
 nz r_0 fun a1 =>
 ldI .i64 w (Addr.add a1 2) fun x2 =>
 Q (.int .i64 x2) w
theorem qkf.ok (r_0:OAd) (Q:VWP) (w:World) (h:qkf r_0 Q w):Calls Try.prog 112 ⟨[.pointer r_0]⟩ w (Ret Q):=by
 refine qn [.tmp 2] Try.func112 rfl rfl rfl rfl ?_
 exact qg qpb _ (Eq.mp (by kernel_rfl) h)
def qaf (r_0:OAd) (Q:VWP) (w:World):Prop :=
 nz r_0 fun a1 =>
 ldI .i64 w (Addr.add a1 2) fun x2 =>
 br ((x2:Int) != 0) (
 Q (.int .i64 0) w) (
 lt (World.drew w) fun w3 =>
 nz r_0 fun a4 =>
 ldL w3 (Addr.add a4 0) fun x5 =>
 nz r_0 fun a6 =>
 ldI .i64 w3 (Addr.add a6 1) fun x7 =>
 lt (IntKind.i64.wrap (((x5.len:Nat):Int) - x7)) fun x8 =>
 Q (.int .i64 x8) w3)
theorem qaf.ok (r_0:OAd) (Q:VWP) (w:World) (h:qaf r_0 Q w):Calls Try.prog 173 ⟨[.pointer r_0]⟩ w (Ret Q):=by
 refine qn [.tmp 2] Try.func173 rfl rfl rfl rfl ?_
 exact qg qpb _ (Eq.mp (by kernel_rfl) h)
def qnc.j1 (r_0:OAd) (n_1:Int) (Q:VWP) (w:World):Prop :=
 nz r_0 fun a1 =>
 ldI .i64 w (Addr.add a1 2) fun x2 =>
 br ((x2:Int) != 0) (
 Q (.slice none 0 0) w) (
 nz r_0 fun a3 =>
 ldI .i64 w (Addr.add a3 1) fun x4 =>
 lt (IntKind.i64.wrap (x4+n_1)) fun x5 =>
 nz r_0 fun a6 =>
 st w (Addr.add a6 1) (.int .i64 x5) fun w7 =>
 lt (World.drew w7) fun w8 =>
 nz r_0 fun a9 =>
 ldL w8 (Addr.add a9 0) fun x10 =>
 nz r_0 fun a11 =>
 ldI .i64 w8 (Addr.add a11 1) fun x12 =>
 lt (IntKind.i64.wrap (x12 - n_1)) fun x13 =>
 nz r_0 fun a14 =>
 ldI .i64 w8 (Addr.add a14 1) fun x15 =>
 bd x15 x10.cap fun n16 =>
 bd x13 n16 fun n17 =>
 lt (⟨qzf x10.a x10.cap n17 1,n16 - n17,x10.cap - n17⟩:Sl) fun s18 =>
 Q (.slice s18.a s18.len s18.cap) w8)
def qnc (r_0:OAd) (n_1:Int) (Q:VWP) (w:World):Prop :=
 nz r_0 fun a19 =>
 ldI .i64 w (Addr.add a19 2) fun x20 =>
 br ((x20:Int) == 0) (
 br (decide ((n_1:Int) < 0)) (
 nz r_0 fun a21 =>
 st w (Addr.add a21 2) (.int .i64 3) fun w22 =>
 qnc.j1 r_0 n_1 Q w22) (
 Calls Try.prog 173 ⟨[.pointer r_0]⟩ w fun e23 w24 =>
 ∃ r25:Int,e23=.returned (.int .i64 r25) ∧
 br (decide ((n_1:Int) > r25)) (
 nz r_0 fun a26 =>
 st w24 (Addr.add a26 2) (.int .i64 3) fun w27 =>
 qnc.j1 r_0 n_1 Q w27) (
 qnc.j1 r_0 n_1 Q w24))) (
 qnc.j1 r_0 n_1 Q w)
theorem qnc.ok (r_0:OAd) (n_1:Int) (Q:VWP) (w:World) (h:qnc r_0 n_1 Q w):Calls Try.prog 154 ⟨[.pointer r_0,.int .i64 n_1]⟩ w (Ret Q):=by
 refine qn [.tmp 4] Try.func154 rfl rfl rfl rfl ?_
 refine qib qpb (fun ρ w=>asP (ρ 0) fun r_0=>asI .i64 (ρ 1) fun n_1=>qnc.j1 r_0 n_1 Q w) (Eq.mp (by kernel_rfl) h) ?_
 intro ρ w h
 obtain ⟨r_0,e0,h⟩:=qw h
 obtain ⟨n_1,e1,h⟩:=qe h
 refine qb e0 (qb (qa e1 rfl) ?_)
 exact qg qpb _ (Eq.mp (by kernel_rfl) h)
def qjb.j2 (v_5:Int) (Q:VWP) (w:World):Prop :=
 Q (.int .i64 v_5) w
def qjb.b1 (t10:Sl) (t11:Int) (v_5 t12:Int) (Q:VWP) (nx1:Sl→Int→Int→Int→World→Prop) (w:World):Prop :=
 br (decide ((t12:Int) < t11)) (
 ixS t10.a t10.len t12 1 fun a1 =>
 ldI .u8 w a1 fun x2 =>
 (0:Int)≤8 ∧
 lt (qej .i64 v_5 8) fun x3 =>
 lt (IntKind.i64.wrap x2) fun x4 =>
 lt (orV .i64 x3 x4) fun x5 =>
 lt (IntKind.i64.wrap (t12+1)) fun x6 =>
 nx1 t10 t11 x5 x6 w) (
 qjb.j2 v_5 Q w)
def qjb.l1 (t10:Sl) (t11:Int) (v_5 t12:Int) (Q:VWP) (w:World):Prop :=
 ∃ (I:Int→Int→World→Prop) (μ:Int→Int→World→Nat),I v_5 t12 w∧∀ v_5:Int,∀ t12:Int,∀ w:World,I v_5 t12 w→qjb.b1 t10 t11 v_5 t12 Q (fun t10' t11' v_5' t12' w'=>(t10'=t10∧t11'=t11)∧I v_5' t12' w'∧μ v_5' t12' w' < μ v_5 t12 w) w
def qjb.j3 (v_5:Int) (t10:Sl) (t11 t12:Int) (Q:VWP) (w:World):Prop :=
 qjb.l1 t10 t11 v_5 t12 Q w
def qjb.j1 (r_0:OAd) (n_1:Int) (v_5:Int) (Q:VWP) (w:World):Prop :=
 Calls Try.prog 154 ⟨[.pointer r_0,.int .i64 n_1]⟩ w fun e7 w8 =>
 ∃ r9:Sl,e7=.returned (.slice r9.a r9.len r9.cap) ∧
 qjb.j3 v_5 r9 ((r9.len:Nat):Int) 0 Q w8
def qjb (r_0:OAd) (n_1:Int) (Q:VWP) (w:World):Prop :=
 qjb.j1 r_0 n_1 0 Q w
theorem qjb.ok (r_0:OAd) (n_1:Int) (Q:VWP) (w:World) (h:qjb r_0 n_1 Q w):Calls Try.prog 153 ⟨[.pointer r_0,.int .i64 n_1]⟩ w (Ret Q):=by
 refine qn [.tmp 4] Try.func153 rfl rfl rfl rfl ?_
 refine qib qpb (fun ρ w=>asP (ρ 0) fun r_0=>asI .i64 (ρ 1) fun n_1=>asI .i64 (ρ 5) fun v_5=>qjb.j1 r_0 n_1 v_5 Q w) (Eq.mp (by kernel_rfl) h) ?_
 intro ρ w h
 obtain ⟨r_0,e0,h⟩:=qw h
 obtain ⟨n_1,e1,h⟩:=qe h
 obtain ⟨v_5,e5,h⟩:=qe h
 refine qb e0 (qb (qa e1 rfl) (qb (qa (qa e5 rfl) rfl) ?_))
 refine qr (fun ρ w=>asI .i64 (ρ 5) fun v_5=>qjb.j2 v_5 Q w) ?_ ?_
 · skip
   refine qr (fun ρ w=>asI .i64 (ρ 5) fun v_5=>asL (ρ 10) fun t10=>asI .i64 (ρ 11) fun t11=>asI .i64 (ρ 12) fun t12=>qjb.j3 v_5 t10 t11 t12 Q w) ?_ ?_
   · skip
     exact qg qpb _ (Eq.mp (by kernel_rfl) h)
   · intro ρ w h
     obtain ⟨v_5,e5,h⟩:=qe h
     obtain ⟨t10,e10,h⟩:=qj h
     obtain ⟨t11,e11,h⟩:=qe h
     obtain ⟨t12,e12,h⟩:=qe h
     refine qb e5 (qb (qa e10 rfl) (qb (qa (qa e11 rfl) rfl) (qb (qa (qa (qa e12 rfl) rfl) rfl) ?_)))
     refine qcb ?_
     obtain ⟨I,μ,hI,hr⟩:=h
     refine qhb (α:=Int × Int) (fun s ρ=>ρ 5=.int .i64 s.1∧ρ 12=.int .i64 s.2∧ρ 10=.slice t10.a t10.len t10.cap∧ρ 11=.int .i64 t11) (fun s w=>I s.1 s.2 w) (fun s w=>μ s.1 s.2 w) (v_5,t12) ⟨rfl,rfl,rfl,rfl⟩ hI ?_
     rintro ⟨v_5,t12⟩ ρ w ⟨e5,e12,e10,e11⟩ hI
     have h:=hr v_5 t12 w hI
     clear hr
     obtain ⟨nx1,hnx⟩:∃ nx:Sl→Int→Int→Int→World→Prop,nx=(fun t10' t11' v_5' t12' w'=>(t10'=t10∧t11'=t11)∧I v_5' t12' w'∧μ v_5' t12' w' < μ v_5 t12 w):=⟨_,rfl⟩
     rw [← hnx] at h
     refine qob (M:=fun ρ w=>asL (ρ 10) fun t10=>asI .i64 (ρ 11) fun t11=>asI .i64 (ρ 5) fun v_5=>asI .i64 (ρ 12) fun t12=>nx1 t10 t11 v_5 t12 w) ?_ (fun ρ w h=>?_)
     · skip
       refine qb e5 (qb (qa e10 rfl) (qb (qa (qa e11 rfl) rfl) (qb (qa (qa (qa e12 rfl) rfl) rfl) ?_)))
       exact qg qpb _ (Eq.mp (by kernel_rfl) h)
     · skip
       obtain ⟨t10',e10',h⟩:=qj h
       obtain ⟨t11',e11',h⟩:=qe h
       obtain ⟨v_5',e5',h⟩:=qe h
       obtain ⟨t12',e12',h⟩:=qe h
       rw [hnx] at h
       obtain ⟨hu,hI2,hμ⟩:=h
       obtain ⟨rfl,rfl⟩:=hu
       exact ⟨(v_5',t12'),⟨e5',e12',e10',e11'⟩,hI2,hμ⟩
 · intro ρ w h
   obtain ⟨v_5,e5,h⟩:=qe h
   refine qb e5 ?_
   exact qg qpb _ (Eq.mp (by kernel_rfl) h)
def qjf (r_0:OAd) (Q:VWP) (w:World):Prop :=
 Calls Try.prog 153 ⟨[.pointer r_0,.int .i64 4]⟩ w fun e1 w2 =>
 ∃ r3:Int,e1=.returned (.int .i64 r3) ∧
 Q (.int .i64 r3) w2
theorem qjf.ok (r_0:OAd) (Q:VWP) (w:World) (h:qjf r_0 Q w):Calls Try.prog 108 ⟨[.pointer r_0]⟩ w (Ret Q):=by
 refine qn [.tmp 2] Try.func108 rfl rfl rfl rfl ?_
 exact qg qpb _ (Eq.mp (by kernel_rfl) h)
end Go.Proofs.Ythdmmmfgjmmelaa
namespace Go.Proofs.Ythdmmmfgjmmelaa
open Go Go.Proofs
set_option linter.unusedVariables false
set_option linter.unusedSimpArgs false
attribute [local irreducible] apK cpK mkK
theorem qbp (k:IntKind) {x y:Int} (h:x % 2 ^ k.bits=y % 2 ^ k.bits):k.wrap x=k.wrap y:=by simp only [IntKind.wrap,h]
theorem wrap_mod (k:IntKind) (x:Int):k.wrap x % 2 ^ k.bits=x % 2 ^ k.bits:=by
 simp only [IntKind.wrap]
 split
 · rw [Int.sub_emod_right,Int.emod_emod]
 · rw [Int.emod_emod]
theorem or_byte64 {k:IntKind} (hb:k.bits=64) {v c:Int} (hc:0≤c∧c < 256):orV k (qej k v 8) c=k.wrap (v * 256+c):=by
 obtain ⟨n,rfl⟩:∃ n:Nat,c=n:=⟨c.toNat,by omega⟩
 unfold orV qej
 have h8:min (8:Int).toNat k.bits=8:=by rw [hb]; rfl
 rw [h8]
 have e1:=qtk k.bits (k.wrap (v * 2 ^ 8))
 rw [wrap_mod] at e1
 have e2:(BitVec.ofInt k.bits (n:Int)).toNat=n:=qjg _ _ (by rw [hb]; omega)
 rw [BitVec.toNat_or,e2]
 generalize (BitVec.ofInt k.bits (k.wrap (v * 2 ^ 8))).toNat=A at e1
 have h28:(2:Int) ^ 8=256:=by decide
 have h64:(2:Int) ^ k.bits=18446744073709551616:=by rw [hb]; decide
 rw [h28,h64] at e1
 obtain ⟨q,rfl⟩:∃ q,A=2 ^ 8 * q:=⟨A / 256,by omega⟩
 have:=Nat.two_pow_add_eq_or_of_lt (i:=8) (b:=n) (by omega) q
 rw [← this]
 apply qbp
 rw [h64]
 have h28n:(2:Nat) ^ 8=256:=by decide
 rw [h28n] at e1 ⊢
 omega
theorem be_fold (k:IntKind) (hb:k.bits=64) (a:Int) (l:List Int) (c:Int) (hc:0≤c∧c < 256):orV k (qej k (k.wrap (be l)) 8) c=k.wrap (be (l ++ [c])):=by
 rw [or_byte64 hb hc,be_snoc]
 apply qbp
 have h64:(2:Int) ^ k.bits=18446744073709551616:=by rw [hb]; decide
 have:=wrap_mod k (be l)
 rw [h64] at this ⊢
 omega
theorem be_beJ (n:Nat) (v:Int):∀ j,j≤n→be (beJ n j v)=v / 2 ^ (8 * (n - j)) % 2 ^ (8 * j):=by
 intro j
 induction j with
 | zero=>intro _; simp [beJ,be,Int.emod_one]
 | succ j ih =>
   intro hj
   rw [beJ_succ,be_snoc,ih (by omega),show n - 1 - j=n - (j+1) by omega]
   have e1:v / 2 ^ (8 * (n - j))=v / 2 ^ (8 * (n - (j+1))) / 256:=by
    rw [show 8 * (n - j)=8 * (n - (j+1))+8 by omega,Int.pow_add,show (2:Int) ^ 8=256 by decide,Int.ediv_ediv_of_nonneg (Int.le_of_lt (Int.pow_pos (by decide)))]
   have e2:(2:Int) ^ (8 * (j+1))=256 * 2 ^ (8 * j):=by rw [show 8 * (j+1)=8+8 * j by omega,Int.pow_add]; rfl
   rw [e1,e2]
   generalize v / 2 ^ (8 * (n - (j+1)))=x
   have hp:(0:Int) < 2 ^ (8 * j):=Int.pow_pos (by decide)
   generalize (2:Int) ^ (8 * j)=m at hp
   have h1:=Int.mul_ediv_add_emod (x / 256) m
   have h2:=Int.mul_ediv_add_emod x 256
   have h3:=Int.emod_lt_of_pos (x / 256) hp
   have h4:=Int.emod_nonneg (x / 256) (show m ≠ 0 by omega)
   have h5:x=(x / 256 % m * 256+x % 256)+(x / 256 / m) * (256 * m):=by
    have e:(x / 256 / m) * (256 * m)=256 * (m * (x / 256 / m)):=by rw [← Int.mul_assoc,Int.mul_comm (x / 256 / m) 256,Int.mul_assoc,Int.mul_comm (x / 256 / m) m]
    rw [e]; omega
   have h6:=Int.add_mul_emod_self_right (x / 256 % m * 256+x % 256) (x / 256 / m) (256 * m)
   rw [← h5] at h6
   have h7:(x / 256 % m * 256+x % 256) % (256 * m)=x / 256 % m * 256+x % 256:=Int.emod_eq_of_lt (by omega) (by omega)
   rw [h6,h7]
theorem be_beJ' (n:Nat) (v:Int):be (beJ n n v)=v % 2 ^ (8 * n):=by
 rw [be_beJ n v n (Nat.le_refl _),Nat.sub_self,Nat.mul_zero,Int.pow_zero,Int.ediv_one]
theorem be_lt8 {l:List Int} (h:allB l) {n:Nat} (hn:l.length≤n):0≤be l∧be l < 2 ^ (8 * n):=by
 have:=be_lt l h
 refine ⟨this.1,Int.lt_of_lt_of_le this.2 ?_⟩
 have e:(256:Int) ^ l.length=2 ^ (8 * l.length):=by rw [show (256:Int)=2 ^ 8 by decide,← Int.pow_mul]
 rw [e]
 exact_mod_cast Nat.pow_le_pow_right (by decide) (show 8 * l.length≤8 * n by omega)
def tkS (xs:List Int) (at':Nat) (err n:Int):List Int × Nat × Int :=
 if err=0∧0≤n∧n≤xs.length - at' then ((xs.drop at').take n.toNat,at'+n.toNat,0) else ([],at',if err=0 then 3 else err)
def nuS (xs:List Int) (at':Nat) (err:Int) (n:Nat):Int × Nat × Int :=
 if 9223372036854775807 < be (tkS xs at' err n).1 then (0,at',5) else (be (tkS xs at' err n).1,(tkS xs at' err n).2)
def brA (rb:Nat) (x:List Int × Nat × Int):As:=exA fun s:Sl=>ifA (x.2.1≤x.1.length∧s.len≤s.cap∧allB x.1∧x.1.length≤1099511627776) <| andA (qxc rb [.slice s.a s.len s.cap,.int .i64 (x.2.1:Int),.int .i64 x.2.2]) (qdc 1 s (u8s x.1))
section
variable {F0:List Nat} {w0 w:World} {ps rest:List As} {rb at':Nat} {xs:List Int} {err:Int}
theorem brA_o (h:St F0 w0 w ps) [PkF brA rb ps (xs,at',err) rest]:∃ s:Sl,at'≤xs.length∧s.len≤s.cap∧s.len=xs.length∧allB xs∧xs.length≤1099511627776∧St F0 w0 w (qxc rb [.slice s.a s.len s.cap,.int .i64 (at':Int),.int .i64 err] :: qdc 1 s (u8s xs) :: rest):=by
 obtain ⟨s,h⟩:=(h.toF brA rb).exE
 obtain ⟨⟨h1,h2,h3,h4⟩,h⟩:=h.ifE
 have h:=h.split
 have hl:=h.at1.len
 rw [qx] at hl
 exact ⟨s,h1,h2,by simp only at hl; omega,h3,h4,h⟩
theorem brA_i {s:Sl} (h1:at'≤xs.length) (h2:s.len≤s.cap) (h3:allB xs) (h4:xs.length≤1099511627776) (h:St F0 w0 w (qxc rb [.slice s.a s.len s.cap,.int .i64 (at':Int),.int .i64 err] :: qdc 1 s (u8s xs) :: rest)):St F0 w0 w (brA rb (xs,at',err) :: rest) :=
 (h.join.ifI (c:=at'≤xs.length∧s.len≤s.cap∧allB xs∧xs.length≤1099511627776) ⟨h1,h2,h3,h4⟩).exI (p:=fun s:Sl=>ifA (at'≤xs.length∧s.len≤s.cap∧allB xs∧xs.length≤1099511627776) <| andA (qxc rb [.slice s.a s.len s.cap,.int .i64 (at':Int),.int .i64 err]) (qdc 1 s (u8s xs))) s
theorem qcm.c {s:Sl} {K:Ending→World→Prop} (h:St F0 w0 w ps) [Rdb F0 w0 s ps 1 (u8s xs)] (hx:allB xs) (hL:xs.length≤1099511627776)
 (hk:∀ nb w',St F0 w0 w' (brA nb (xs,0,0) :: ps)→K (.returned (.pointer (some ⟨nb,0,none⟩))) w'):Calls Try.prog 107 ⟨[.slice s.a s.len s.cap]⟩ w K:=by
 refine qoc (qcm.ok _ _ _ ?_)
 unfold qcm
 refine qed.c h (h.rdb s) (by omega) fun s1 w h=>⟨s1,rfl,?_⟩
 have hc:=h.cap (by decide)
 refine h.new fun nb w h=>?_
 exact hk nb w (brA_i (Nat.zero_le _) hc hx hL h)
theorem qkf.c {K:Ending→World→Prop} (h:St F0 w0 w ps) [PkF brA rb ps (xs,at',err) rest] (hk:K (.returned (.int .i64 err)) w):Calls Try.prog 112 ⟨[.pointer (some ⟨rb,0,none⟩)]⟩ w K:=by
 refine qoc (qkf.ok _ _ _ ?_)
 unfold qkf
 obtain ⟨s,h1,h2,h3,h4,h5,h⟩:=brA_o (rb:=rb) h
 exact qrd (h.fI hk)
theorem qaf.r {s:Sl} {K:Ending→World→Prop} (h:St F0 w0 w (qxc rb [.slice s.a s.len s.cap,.int .i64 (at':Int),.int .i64 err] :: rest)) (hl:at'≤s.len) (hL:s.len≤1099511627776)
 (hk:∀ w',St F0 w0 w' (qxc rb [.slice s.a s.len s.cap,.int .i64 (at':Int),.int .i64 err] :: rest)→K (.returned (.int .i64 (if err=0 then (s.len:Int) - at' else 0))) w'):Calls Try.prog 173 ⟨[.pointer (some ⟨rb,0,none⟩)]⟩ w K:=by
 refine qoc (qaf.ok _ _ _ ?_)
 unfold qaf
 refine qrd (h.fI (qpf (fun g=>?_) (fun g=>?_)))
 · rw [if_neg (by simpa using g)] at hk
   exact hk w h
 · rw [if_pos (by simpa using g)] at hk
   refine h.drewK fun w h=>?_
   refine qrd (h.fL (qrd (h.fI ?_)))
   refine qy (qk (by simp only; omega) (by simp only; omega)) ?_
   exact hk w h
theorem qnc.r {s:Sl} {n:Int} {K:Ending→World→Prop} (h:St F0 w0 w (qxc rb [.slice s.a s.len s.cap,.int .i64 (at':Int),.int .i64 err] :: rest)) (hl:at'≤s.len) (hc:s.len≤s.cap) (hL:s.len≤1099511627776)
 (hk:∀ (m:Nat) w',err=0→n=m→m≤s.len - at'→St F0 w0 w' (qxc rb [.slice s.a s.len s.cap,.int .i64 ((at'+m:Nat):Int),.int .i64 0] :: rest)→K (.returned (.slice (qzf s.a s.cap at' 1) (at'+m - at') (s.cap - at'))) w')
 (hk2:∀ w',¬(err=0∧0≤n∧n≤(s.len:Int) - at')→St F0 w0 w' (qxc rb [.slice s.a s.len s.cap,.int .i64 (at':Int),.int .i64 (if err=0 then 3 else err)] :: rest)→K (.returned (.slice none 0 0)) w') :
 Calls Try.prog 154 ⟨[.pointer (some ⟨rb,0,none⟩),.int .i64 n]⟩ w K:=by
 refine qoc (qnc.ok _ _ _ _ ?_)
 unfold qnc
 have bad:∀ (e:Int) w',e ≠ 0→e=(if err=0 then 3 else err)→¬(err=0∧0≤n∧n≤(s.len:Int) - at')→St F0 w0 w' (qxc rb [.slice s.a s.len s.cap,.int .i64 (at':Int),.int .i64 e] :: rest)→qnc.j1 (some ⟨rb,0,none⟩) n (fun v w'=>K (.returned v) w') w':=by
  intro e w he e1 hn h
  unfold qnc.j1
  refine qrd (h.fI (qam (by simpa using he) ?_))
  subst e1
  exact hk2 w hn h
 refine qrd (h.fI (qpf (fun g=>?_) (fun g=>?_)))
 · have g:err=0:=by simpa using g
   subst g
   refine qzc (fun g=>?_) (fun g=>?_)
   · refine qrd (h.fst trivial fun w h=>?_)
     exact bad 3 w (by decide) rfl (by omega) h
   · refine qaf.r h hl hL fun w h=>⟨_,rfl,?_⟩
     rw [if_pos rfl]
     refine qzc (fun g2=>?_) (fun g2=>?_)
     · refine qrd (h.fst trivial fun w h=>?_)
       exact bad 3 w (by decide) rfl (by omega) h
     · obtain ⟨m,rfl⟩:∃ m:Nat,n=m:=⟨n.toNat,by omega⟩
       unfold qnc.j1
       refine qrd (h.fI (br_no (by simp) ?_))
       refine qrd (h.fI ?_)
       refine qy (qk (by omega) (by omega)) ?_
       refine qrd (h.fst trivial fun w h=>?_)
       refine h.drewK fun w h=>?_
       refine qrd (h.fL (qrd (h.fI ?_)))
       refine qy (qk (by omega) (by omega)) ?_
       refine qrd (h.fI ?_)
       refine bd_i (n:=at'+m) (by omega) (by simp only; omega) ?_
       refine bd_i (n:=at') (by omega) (by omega) (qcj ?_)
       exact hk m w rfl rfl (by omega) (by rw [Int.natCast_add]; exact h)
 · have g:err ≠ 0:=by simpa using g
   exact bad err w g (by rw [if_neg g]) (fun e=>g e.1) h
end
end Go.Proofs.Ythdmmmfgjmmelaa
namespace Go.Proofs.Ythdmmmfgjmmelaa
open Go Go.Proofs
set_option linter.unusedVariables false
set_option linter.unusedSimpArgs false
attribute [local irreducible] apK cpK mkK
theorem tkS_ok {xs:List Int} (hx:allB xs) (at':Nat) (err n:Int):allB (tkS xs at' err n).1∧(tkS xs at' err n).1.length≤n.toNat∧(tkS xs at' err n).1.length≤xs.length∧(at'≤xs.length→(tkS xs at' err n).2.1≤xs.length):=by
 unfold tkS
 split
 · refine ⟨fun x h=>hx x (List.mem_of_mem_drop (List.mem_of_mem_take h)),by simp; omega,by simp; omega,fun _=>by simp only; omega⟩
 · exact ⟨fun x h=>by simp at h,by simp,by simp,fun h=>h⟩
theorem take_snoc {xs:List Int} {i:Nat} (h:i < xs.length):xs.take (i+1)=xs.take i ++ [xs.getD i 0]:=by
 rw [List.take_succ_eq_append_getElem h]
 simp [List.getD,List.getElem?_eq_getElem h]
theorem allB_getD {xs:List Int} (hx:allB xs) {i:Nat} (h:i < xs.length):0≤xs.getD i 0∧xs.getD i 0 < 256:=by
 have:xs.getD i 0=xs[i]:=by simp [List.getD,List.getElem?_eq_getElem h]
 rw [this]; exact hx _ (List.getElem_mem h)
section
variable {F0:List Nat} {w0 w:World} {ps rest:List As} {rb at':Nat} {xs:List Int} {err:Int}
theorem qjb.loop {t:Sl} {ys:List Int} {Q:VWP} (h:St F0 w0 w ps) [Rdb F0 w0 t ps 1 (u8s ys)] (hy:allB ys) (hL:ys.length≤1099511627776)
 (hk:∀ w',St F0 w0 w' ps→Q (.int .i64 (IntKind.i64.wrap (be ys))) w'):qjb.j3 0 t ((t.len:Nat):Int) 0 Q w:=by
 unfold qjb.j3
 have hl:=(h.rdb t).1
 rw [qx] at hl
 refine loop2 (fun (i:Nat) (v i':Int) w'=>i'=i∧i≤ys.length∧v=IntKind.i64.wrap (be (ys.take i))∧St F0 w0 w' ps) (fun i=>ys.length - i) 0 ⟨rfl,by omega,rfl,h⟩ ?_
 clear h
 rintro i v i' w I μ ⟨rfl,hi,rfl,h⟩ hin
 unfold qjb.b1
 refine qzc (fun g=>?_) (fun g=>?_)
 · have hiy:i < ys.length:=by omega
   have hc:=allB_getD hy hiy
   refine h.lx i rfl hiy ⟨by decide,qcj ?_⟩
   refine qy (qk (by omega) (by omega)) ?_
   refine qy (be_fold .i64 rfl 0 _ _ hc) ?_
   rw [← take_snoc hiy]
   refine qy (qk (by omega) (by omega)) ?_
   exact ⟨⟨rfl,rfl⟩,hin (i+1) _ _ _ ⟨by omega,by omega,rfl,h⟩ (by omega)⟩
 · have:i=ys.length:=by omega
   subst this
   rw [List.take_length]
   exact hk w h
theorem qjb.c {n:Nat} {K:Ending→World→Prop} (h:St F0 w0 w ps) [PkF brA rb ps (xs,at',err) rest]
 (hk:∀ w',St F0 w0 w' (brA rb (xs,(tkS xs at' err n).2) :: rest)→K (.returned (.int .i64 (IntKind.i64.wrap (be (tkS xs at' err n).1)))) w'):Calls Try.prog 153 ⟨[.pointer (some ⟨rb,0,none⟩),.int .i64 (n:Int)]⟩ w K:=by
 refine qoc (qjb.ok _ _ _ _ ?_)
 unfold qjb qjb.j1
 obtain ⟨s,h1,h2,h3,h4,h5,h⟩:=brA_o (rb:=rb) h
 refine qnc.r h (by omega) h2 (by omega) (fun m w e1 e2 e3 g=>⟨⟨_,_,_⟩,rfl,?_⟩) (fun w hn h=>⟨⟨none,0,0⟩,rfl,?_⟩)
 · have e2:n=m:=by omega
   subst e2 e1
   have h:=g
   have et:tkS xs at' 0 n=((xs.drop at').take n,at'+n,0):=by unfold tkS; rw [if_pos ⟨rfl,by omega,by omega⟩,Int.toNat_natCast]
   rw [et] at hk
   haveI:=h.cutR s at' (at'+n) (s.cap - at') (ys:=(xs.drop at').take n) (by omega) (by omega) h2 (by rw [show at'+n - at'=n by omega])
   refine qjb.loop (t:=⟨qzf s.a s.cap at' 1,at'+n - at',s.cap - at'⟩) (ys:=(xs.drop at').take n) h (fun x hx=>h4 x (List.mem_of_mem_drop (List.mem_of_mem_take hx))) (by simp; omega) fun w h=>?_
   exact hk w (brA_i (by omega) h2 h4 h5 h)
 · have et:tkS xs at' err n=([],at',if err=0 then 3 else err):=by unfold tkS; rw [if_neg (by omega)]
   rw [et] at hk
   haveI:=Rdb.nil (F0:=F0) (w0:=w0) (ps:=qxc rb [.slice s.a s.len s.cap,.int .i64 (at':Int),.int .i64 (if err=0 then 3 else err)] :: qdc 1 s (u8s xs) :: rest) 0
   refine qjb.loop (t:=⟨none,0,0⟩) (ys:=[]) h (fun x hx=>by cases hx) (by simp) fun w h=>?_
   exact hk w (brA_i h1 h2 h4 h5 h)
theorem nuS_small {n:Nat} (hx:allB xs) (hn:n≤4):IntKind.i64.wrap (be (tkS xs at' err n).1)=(nuS xs at' err n).1∧(nuS xs at' err n).2=(tkS xs at' err n).2:=by
 have h:=tkS_ok hx at' err n
 have h2:=be_lt8 h.1 (n:=4) (by omega)
 have h3:(2:Int) ^ (8 * 4)=4294967296:=by decide
 rw [h3] at h2
 unfold nuS
 rw [if_neg (by omega),qk (by omega) (by omega)]
 exact ⟨rfl,rfl⟩
theorem qjf.c {K:Ending→World→Prop} (h:St F0 w0 w ps) [PkF brA rb ps (xs,at',err) rest] (hx:allB xs)
 (hk:∀ w',St F0 w0 w' (brA rb (xs,(nuS xs at' err 4).2) :: rest)→K (.returned (.int .i64 (nuS xs at' err 4).1)) w'):Calls Try.prog 108 ⟨[.pointer (some ⟨rb,0,none⟩)]⟩ w K:=by
 refine qoc (qjf.ok _ _ _ ?_)
 unfold qjf
 obtain ⟨e1,e2⟩:=nuS_small (at':=at') (err:=err) hx (show 4≤4 by decide)
 refine qjb.c (n:=4) h fun w h=>⟨_,rfl,?_⟩
 rw [← e2] at h
 rw [e1]
 exact hk w h
end
end Go.Proofs.Ythdmmmfgjmmelaa
namespace Go.Proofs.Ythdmmmfgjmmelaa
open Go Go.Proofs
set_option linter.unusedVariables false
set_option linter.unusedSimpArgs false
attribute [local irreducible] apK cpK mkK
section
variable {F0:List Nat} {w0 w:World} {ps rest:List As} {xs:List Int}
theorem qki.d {s:Sl} {v:Int} {K:Ending→World→Prop} (h:St F0 w0 w ps) [Rdb F0 w0 s ps 1 (u8s xs)] (hL:xs.length≤1099511627776)
 (hk:∀ s' w',s'.len=xs.length+4→s'.cap=s'.len→St F0 w0 w' (rdA 1 s' (u8s (xs ++ beJ 4 4 v)) :: ps)→K (.returned (.slice s'.a s'.len s'.cap)) w'):Calls Try.prog 61 ⟨[.slice s.a s.len s.cap,.int .i64 v]⟩ w K:=by
 refine qoc (qki.ok _ _ _ _ ?_)
 unfold qki
 exact qdf.c (n:=4) h (h.rdb s) hL (by decide) fun s' w h1 h2 h=>⟨s',rfl,hk s' w h1 h2 h⟩
end
end Go.Proofs.Ythdmmmfgjmmelaa
namespace Go.Proofs.Ythdmmmfgjmmelaa
open Go Go.Proofs
set_option linter.unusedVariables false
set_option maxRecDepth 100000
def qfc.j2 (x_5 y_6:Int) (Q:VWP) (w:World):Prop :=
 (0:Int)≤16 ∧
 lt (qej .u32 y_6 16) fun x1 =>
 lt (orV .u32 x1 x_5) fun x2 =>
 Q (.int .u32 x2) w
def qfc.b1 (t13:Sl) (t14:Int) (x_5 y_6 t15:Int) (Q:VWP) (nx1:Sl→Int→Int→Int→Int→World→Prop) (w:World):Prop :=
 br (decide ((t15:Int) < t14)) (
 ixS t13.a t13.len t15 1 fun a3 =>
 ldI .u8 w a3 fun x4 =>
 lt (IntKind.u32.wrap x4) fun x5 =>
 lt (IntKind.u32.wrap (x_5+x5)) fun x6 =>
 (65521:Int) ≠ 0 ∧
 lt (Int.tmod x6 65521) fun x7 =>
 lt (IntKind.u32.wrap (y_6+x7)) fun x8 =>
 (65521:Int) ≠ 0 ∧
 lt (Int.tmod x8 65521) fun x9 =>
 lt (IntKind.i64.wrap (t15+1)) fun x10 =>
 nx1 t13 t14 x7 x9 x10 w) (
 qfc.j2 x_5 y_6 Q w)
def qfc.l1 (t13:Sl) (t14:Int) (x_5 y_6 t15:Int) (Q:VWP) (w:World):Prop :=
 ∃ (I:Int→Int→Int→World→Prop) (μ:Int→Int→Int→World→Nat),I x_5 y_6 t15 w∧∀ x_5:Int,∀ y_6:Int,∀ t15:Int,∀ w:World,I x_5 y_6 t15 w→qfc.b1 t13 t14 x_5 y_6 t15 Q (fun t13' t14' x_5' y_6' t15' w'=>(t13'=t13∧t14'=t14)∧I x_5' y_6' t15' w'∧μ x_5' y_6' t15' w' < μ x_5 y_6 t15 w) w
def qfc.j3 (x_5 y_6:Int) (t13:Sl) (t14 t15:Int) (Q:VWP) (w:World):Prop :=
 qfc.l1 t13 t14 x_5 y_6 t15 Q w
def qfc.j1 (b_1:Sl) (x_5:Int) (y_6:Int) (Q:VWP) (w:World):Prop :=
 qfc.j3 x_5 y_6 b_1 ((b_1.len:Nat):Int) 0 Q w
def qfc (adler_0:Int) (b_1:Sl) (Q:VWP) (w:World):Prop :=
 lt (andV .u32 adler_0 65535) fun x11 =>
 (0:Int)≤16 ∧
 lt (shrV .u32 adler_0 16) fun x12 =>
 qfc.j1 b_1 x11 x12 Q w
theorem qfc.ok (adler_0:Int) (b_1:Sl) (Q:VWP) (w:World) (h:qfc adler_0 b_1 Q w):Calls Try.prog 155 ⟨[.int .u32 adler_0,.slice b_1.a b_1.len b_1.cap]⟩ w (Ret Q):=by
 refine qn [.tmp 4] Try.func155 rfl rfl rfl rfl ?_
 refine qib qpb (fun ρ w=>asL (ρ 1) fun b_1=>asI .u32 (ρ 5) fun x_5=>asI .u32 (ρ 6) fun y_6=>qfc.j1 b_1 x_5 y_6 Q w) (Eq.mp (by kernel_rfl) h) ?_
 intro ρ w h
 obtain ⟨b_1,e1,h⟩:=qj h
 obtain ⟨x_5,e5,h⟩:=qe h
 obtain ⟨y_6,e6,h⟩:=qe h
 refine qb e1 (qb (qa e5 rfl) (qb (qa (qa e6 rfl) rfl) ?_))
 refine qr (fun ρ w=>asI .u32 (ρ 5) fun x_5=>asI .u32 (ρ 6) fun y_6=>qfc.j2 x_5 y_6 Q w) ?_ ?_
 · skip
   refine qr (fun ρ w=>asI .u32 (ρ 5) fun x_5=>asI .u32 (ρ 6) fun y_6=>asL (ρ 13) fun t13=>asI .i64 (ρ 14) fun t14=>asI .i64 (ρ 15) fun t15=>qfc.j3 x_5 y_6 t13 t14 t15 Q w) ?_ ?_
   · skip
     exact qg qpb _ (Eq.mp (by kernel_rfl) h)
   · intro ρ w h
     obtain ⟨x_5,e5,h⟩:=qe h
     obtain ⟨y_6,e6,h⟩:=qe h
     obtain ⟨t13,e13,h⟩:=qj h
     obtain ⟨t14,e14,h⟩:=qe h
     obtain ⟨t15,e15,h⟩:=qe h
     refine qb e5 (qb (qa e6 rfl) (qb (qa (qa e13 rfl) rfl) (qb (qa (qa (qa e14 rfl) rfl) rfl) (qb (qa (qa (qa (qa e15 rfl) rfl) rfl) rfl) ?_))))
     refine qcb ?_
     obtain ⟨I,μ,hI,hr⟩:=h
     refine qhb (α:=Int × Int × Int) (fun s ρ=>ρ 5=.int .u32 s.1∧ρ 6=.int .u32 s.2.1∧ρ 15=.int .i64 s.2.2∧ρ 13=.slice t13.a t13.len t13.cap∧ρ 14=.int .i64 t14) (fun s w=>I s.1 s.2.1 s.2.2 w) (fun s w=>μ s.1 s.2.1 s.2.2 w) (x_5,y_6,t15) ⟨rfl,rfl,rfl,rfl,rfl⟩ hI ?_
     rintro ⟨x_5,y_6,t15⟩ ρ w ⟨e5,e6,e15,e13,e14⟩ hI
     have h:=hr x_5 y_6 t15 w hI
     clear hr
     obtain ⟨nx1,hnx⟩:∃ nx:Sl→Int→Int→Int→Int→World→Prop,nx=(fun t13' t14' x_5' y_6' t15' w'=>(t13'=t13∧t14'=t14)∧I x_5' y_6' t15' w'∧μ x_5' y_6' t15' w' < μ x_5 y_6 t15 w):=⟨_,rfl⟩
     rw [← hnx] at h
     refine qob (M:=fun ρ w=>asL (ρ 13) fun t13=>asI .i64 (ρ 14) fun t14=>asI .u32 (ρ 5) fun x_5=>asI .u32 (ρ 6) fun y_6=>asI .i64 (ρ 15) fun t15=>nx1 t13 t14 x_5 y_6 t15 w) ?_ (fun ρ w h=>?_)
     · skip
       refine qb e5 (qb (qa e6 rfl) (qb (qa (qa e13 rfl) rfl) (qb (qa (qa (qa e14 rfl) rfl) rfl) (qb (qa (qa (qa (qa e15 rfl) rfl) rfl) rfl) ?_))))
       exact qg qpb _ (Eq.mp (by kernel_rfl) h)
     · skip
       obtain ⟨t13',e13',h⟩:=qj h
       obtain ⟨t14',e14',h⟩:=qe h
       obtain ⟨x_5',e5',h⟩:=qe h
       obtain ⟨y_6',e6',h⟩:=qe h
       obtain ⟨t15',e15',h⟩:=qe h
       rw [hnx] at h
       obtain ⟨hu,hI2,hμ⟩:=h
       obtain ⟨rfl,rfl⟩:=hu
       exact ⟨(x_5',y_6',t15'),⟨e5',e6',e15',e13',e14'⟩,hI2,hμ⟩
 · intro ρ w h
   obtain ⟨x_5,e5,h⟩:=qe h
   obtain ⟨y_6,e6,h⟩:=qe h
   refine qb e5 (qb (qa e6 rfl) ?_)
   exact qg qpb _ (Eq.mp (by kernel_rfl) h)
def qch (b_0:Sl) (Q:VWP) (w:World):Prop :=
 Calls Try.prog 155 ⟨[.int .u32 1,.slice b_0.a b_0.len b_0.cap]⟩ w fun e1 w2 =>
 ∃ r3:Int,e1=.returned (.int .u32 r3) ∧
 Q (.int .u32 r3) w2
theorem qch.ok (b_0:Sl) (Q:VWP) (w:World) (h:qch b_0 Q w):Calls Try.prog 118 ⟨[.slice b_0.a b_0.len b_0.cap]⟩ w (Ret Q):=by
 refine qn [.tmp 2] Try.func118 rfl rfl rfl rfl ?_
 exact qg qpb _ (Eq.mp (by kernel_rfl) h)
end Go.Proofs.Ythdmmmfgjmmelaa
namespace Go.Proofs.Ythdmmmfgjmmelaa
open Go Go.Proofs
def asFn (v:Value) (F:FuncId→Array Value→Array Value→Prop):Prop:=match v with
 | .func (.func f) first cap=>F f first cap
 | _=>False
def whenB (b:Bool) (X:Prop):Prop:=match b with
 | true=>X
 | false=>False
theorem whenB_i {b:Bool} {X:Prop} (hb:b=true) (h:X):whenB b X:=by subst hb; exact h
theorem asFn_i {f:FuncId} {first cap:Array Value} {F:FuncId→Array Value→Array Value→Prop} (h:F f first cap):asFn (.func (.func f) first cap) F:=h
end Go.Proofs.Ythdmmmfgjmmelaa
