/- Own texts as one, only what is reached (shake.py). -/
import Derived.Test.YthdmmmfgjmmelaaGreatZde
import Derived.Test.YthdmmmfgjmmelaaGreatProg
namespace Go.Proofs.YthdmmmfgjmmelaaGreat
open Go Go.Proofs
set_option linter.unusedVariables false
set_option maxRecDepth 100000
def qgi (n_0:Int) (Q:VWP) (w:World):Prop :=
 lt (IntKind.i64.wrap (n_0+65535)) fun x1 =>
 lt (IntKind.i64.wrap (x1 - 1)) fun x2 =>
 (65535:Int) ≠ 0 ∧
 lt (IntKind.i64.wrap (Int.tdiv x2 65535)) fun x3 =>
 lt (if (1:Int) > x3 then 1 else x3) fun x4 =>
 lt (IntKind.i64.wrap (5 * x4)) fun x5 =>
 lt (IntKind.i64.wrap (n_0+x5)) fun x6 =>
 lt (IntKind.i64.wrap (x6+6)) fun x7 =>
 Q (.int .i64 x7) w
theorem qgi.ok (n_0:Int) (Q:VWP) (w:World) (h:qgi n_0 Q w):Calls Tryz.prog 48 ⟨[.int .i64 n_0]⟩ w (Ret Q):=by
 refine qp [.tmp 2] Tryz.func48 rfl rfl rfl rfl ?_
 exact qg qpb _ (Eq.mp (by kernel_rfl) h)
def qhb.j3 (w_3:OAd) (Q:VWP) (w:World):Prop :=
 Calls Tryz.prog 206 ⟨[.pointer w_3]⟩ w fun e1 w2 =>
 ∃ r3:Sl,e1=.returned (.slice r3.a r3.len r3.cap) ∧
 Q (.slice r3.a r3.len r3.cap) w2
def qhb.j10 (b_0:Sl) (w_3:OAd) (more_4:Bool) (k_5:Int) (Q:VWP) (nx1:OAd→Sl→Bool→World→Prop) (w:World):Prop :=
 bd k_5 b_0.len fun n4 =>
 lt (⟨qwf b_0.a b_0.cap n4 1,b_0.len - n4,b_0.cap - n4⟩:Sl) fun s5 =>
 nx1 w_3 s5 more_4 w
def qhb.b2 (b_0:Sl) (w_3:OAd) (more_4:Bool) (k_5:Int) (t36:Sl) (t37:Int) (t38:Int) (Q:VWP) (nx1:OAd→Sl→Bool→World→Prop) (nx2:Sl→OAd→Bool→Int→Sl→Int→Int→World→Prop) (w:World):Prop :=
 br (decide ((t38:Int) < t37)) (
 ixS t36.a t36.len t38 1 fun a6 =>
 ldI .u8 w a6 fun x7 =>
 Calls Tryz.prog 205 ⟨[.pointer w_3,.int .u8 x7]⟩ w fun e8 w9 =>
 e8=.returned (.tuple ⟨[]⟩) ∧
 lt (IntKind.i64.wrap (t38+1)) fun x10 =>
 nx2 b_0 w_3 more_4 k_5 t36 t37 x10 w9) (
 qhb.j10 b_0 w_3 more_4 k_5 Q nx1 w)
def qhb.l2 (b_0:Sl) (w_3:OAd) (more_4:Bool) (k_5:Int) (t36:Sl) (t37:Int) (t38:Int) (Q:VWP) (nx1:OAd→Sl→Bool→World→Prop) (w:World):Prop :=
 ∃ (I:Int→World→Prop) (μ:Int→World→Nat),I t38 w∧∀ t38:Int,∀ w:World,I t38 w→qhb.b2 b_0 w_3 more_4 k_5 t36 t37 t38 Q nx1 (fun b_0' w_3' more_4' k_5' t36' t37' t38' w'=>(b_0'=b_0∧w_3'=w_3∧more_4'=more_4∧k_5'=k_5∧t36'=t36∧t37'=t37)∧I t38' w'∧μ t38' w' < μ t38 w) w
def qhb.j11 (b_0:Sl) (w_3:OAd) (more_4:Bool) (k_5:Int) (t36:Sl) (t37:Int) (t38:Int) (Q:VWP) (nx1:OAd→Sl→Bool→World→Prop) (w:World):Prop :=
 qhb.l2 b_0 w_3 more_4 k_5 t36 t37 t38 Q nx1 w
def qhb.j9 (b_0:Sl) (w_3:OAd) (more_4:Bool) (k_5:Int) (Q:VWP) (nx1:OAd→Sl→Bool→World→Prop) (w:World):Prop :=
 bd k_5 b_0.cap fun n11 =>
 lt (⟨qwf b_0.a b_0.cap 0 1,n11 - 0,b_0.cap - 0⟩:Sl) fun s12 =>
 qhb.j11 b_0 w_3 more_4 k_5 s12 ((s12.len:Nat):Int) 0 Q nx1 w
def qhb.j8 (b_0:Sl) (w_3:OAd) (more_4:Bool) (k_5:Int) (Q:VWP) (nx1:OAd→Sl→Bool→World→Prop) (w:World):Prop :=
 Calls Tryz.prog 203 ⟨[.pointer w_3,.int .i64 k_5,.int .i64 16]⟩ w fun e13 w14 =>
 e13=.returned (.tuple ⟨[]⟩) ∧
 lt (xorV .i64 (if IntKind.signed .i64 then -1 else IntKind.max .i64) k_5) fun x15 =>
 Calls Tryz.prog 203 ⟨[.pointer w_3,.int .i64 x15,.int .i64 16]⟩ w14 fun e16 w17 =>
 e16=.returned (.tuple ⟨[]⟩) ∧
 qhb.j9 b_0 w_3 more_4 k_5 Q nx1 w17
def qhb.j7 (b_0:Sl) (w_3:OAd) (more_4:Bool) (k_5:Int) (last_6:Int) (Q:VWP) (nx1:OAd→Sl→Bool→World→Prop) (w:World):Prop :=
 Calls Tryz.prog 203 ⟨[.pointer w_3,.int .i64 last_6,.int .i64 3]⟩ w fun e18 w19 =>
 e18=.returned (.tuple ⟨[]⟩) ∧
 Calls Tryz.prog 204 ⟨[.pointer w_3]⟩ w19 fun e20 w21 =>
 e20=.returned (.tuple ⟨[]⟩) ∧
 qhb.j8 b_0 w_3 more_4 k_5 Q nx1 w21
def qhb.j6 (b_0:Sl) (w_3:OAd) (more_4:Bool) (k_5:Int) (Q:VWP) (nx1:OAd→Sl→Bool→World→Prop) (w:World):Prop :=
 br more_4 (
 qhb.j7 b_0 w_3 more_4 k_5 0 Q nx1 w) (
 qhb.j7 b_0 w_3 more_4 k_5 1 Q nx1 w)
def qhb.j5 (b_0:Sl) (w_3:OAd) (Q:VWP) (nx1:OAd→Sl→Bool→World→Prop) (w:World):Prop :=
 lt (if (65535:Int) < ((b_0.len:Nat):Int) then 65535 else ((b_0.len:Nat):Int)) fun x22 =>
 qhb.j6 b_0 w_3 (decide ((x22:Int) < ((b_0.len:Nat):Int))) x22 Q nx1 w
def qhb.b1 (w_3:OAd) (b_0:Sl) (more_4:Bool) (Q:VWP) (nx1:OAd→Sl→Bool→World→Prop) (w:World):Prop :=
 br more_4 (
 qhb.j5 b_0 w_3 Q nx1 w) (
 qhb.j3 w_3 Q w)
def qhb.l1 (w_3:OAd) (b_0:Sl) (more_4:Bool) (Q:VWP) (w:World):Prop :=
 ∃ (I:Sl→Bool→World→Prop) (μ:Sl→Bool→World→Nat),I b_0 more_4 w∧∀ b_0:Sl,∀ more_4:Bool,∀ w:World,I b_0 more_4 w→qhb.b1 w_3 b_0 more_4 Q (fun w_3' b_0' more_4' w'=>(w_3'=w_3)∧I b_0' more_4' w'∧μ b_0' more_4' w' < μ b_0 more_4 w) w
def qhb.j4 (b_0:Sl) (w_3:OAd) (more_4:Bool) (Q:VWP) (w:World):Prop :=
 qhb.l1 w_3 b_0 more_4 Q w
def qhb.j2 (b_0:Sl) (w_3:OAd) (Q:VWP) (w:World):Prop :=
 qhb.j4 b_0 w_3 true Q w
def qhb.j1 (b_0:Sl) (Q:VWP) (w:World):Prop :=
 br (decide ((((b_0.len:Nat):Int):Int) > 262144)) (
 Q (.slice none 0 0) w) (
 Calls Tryz.prog 202 ⟨[]⟩ w fun e23 w24 =>
 ∃ r25:OAd,e23=.returned (.pointer r25) ∧
 qhb.j2 b_0 r25 Q w24)
def qhb (b_0:Sl) (Q:VWP) (w:World):Prop :=
 qhb.j1 b_0 Q w
theorem qhb.ok (b_0:Sl) (Q:VWP) (w:World) (h:qhb b_0 Q w):Calls Tryz.prog 131 ⟨[.slice b_0.a b_0.len b_0.cap]⟩ w (Ret Q):=by
 refine qp [.tmp 2] Tryz.func131 rfl rfl rfl rfl ?_
 refine qu (fun ρ w=>asL (ρ 0) fun b_0=>qhb.j1 b_0 Q w) ?_ ?_
 · skip
   exact qg qpb _ (Eq.mp (by kernel_rfl) h)
 · intro ρ w h
   obtain ⟨b_0,e0,h⟩:=ql h
   refine qb e0 ?_
   refine qfb qpb (fun ρ w=>asL (ρ 0) fun b_0=>asP (ρ 3) fun w_3=>qhb.j2 b_0 w_3 Q w) (Eq.mp (by kernel_rfl) h) ?_
   intro ρ w h
   obtain ⟨b_0,e0,h⟩:=ql h
   obtain ⟨w_3,e3,h⟩:=qr h
   refine qb e0 (qb (qa e3 rfl) ?_)
   refine qu (fun ρ w=>asP (ρ 3) fun w_3=>qhb.j3 w_3 Q w) ?_ ?_
   · skip
     refine qu (fun ρ w=>asL (ρ 0) fun b_0=>asP (ρ 3) fun w_3=>asB (ρ 4) fun more_4=>qhb.j4 b_0 w_3 more_4 Q w) ?_ ?_
     · skip
       exact qg qpb _ (Eq.mp (by kernel_rfl) h)
     · intro ρ w h
       obtain ⟨b_0,e0,h⟩:=ql h
       obtain ⟨w_3,e3,h⟩:=qr h
       obtain ⟨more_4,e4,h⟩:=qcd h
       refine qb e0 (qb (qa e3 rfl) (qb (qa (qa e4 rfl) rfl) ?_))
       refine qcb ?_
       obtain ⟨I,μ,hI,hr⟩:=h
       refine qlb (α:=Sl × Bool) (fun s ρ=>ρ 0=.slice s.1.a s.1.len s.1.cap∧ρ 4=.bool s.2∧ρ 3=.pointer w_3) (fun s w=>I s.1 s.2 w) (fun s w=>μ s.1 s.2 w) (b_0,more_4) ⟨rfl,rfl,rfl⟩ hI ?_
       rintro ⟨b_0,more_4⟩ ρ w ⟨e0,e4,e3⟩ hI
       have h:=hr b_0 more_4 w hI
       clear hr
       obtain ⟨nx1,hnx⟩:∃ nx:OAd→Sl→Bool→World→Prop,nx=(fun w_3' b_0' more_4' w'=>(w_3'=w_3)∧I b_0' more_4' w'∧μ b_0' more_4' w' < μ b_0 more_4 w):=⟨_,rfl⟩
       rw [← hnx] at h
       refine qsb (M:=fun ρ w=>asP (ρ 3) fun w_3=>asL (ρ 0) fun b_0=>asB (ρ 4) fun more_4=>nx1 w_3 b_0 more_4 w) ?_ (fun ρ w h=>?_)
       · skip
         refine qb e0 (qb (qa e3 rfl) (qb (qa (qa e4 rfl) rfl) ?_))
         refine qu (fun ρ w=>asL (ρ 0) fun b_0=>asP (ρ 3) fun w_3=>qhb.j5 b_0 w_3 Q nx1 w) ?_ ?_
         · skip
           exact qg qpb _ (Eq.mp (by kernel_rfl) h)
         · intro ρ w h
           obtain ⟨b_0,e0,h⟩:=ql h
           obtain ⟨w_3,e3,h⟩:=qr h
           refine qb e0 (qb (qa e3 rfl) ?_)
           refine qcb ?_
           refine qfb qpb (fun ρ w=>asL (ρ 0) fun b_0=>asP (ρ 3) fun w_3=>asB (ρ 4) fun more_4=>asI .i64 (ρ 5) fun k_5=>qhb.j6 b_0 w_3 more_4 k_5 Q nx1 w) (Eq.mp (by kernel_rfl) h) ?_
           intro ρ w h
           obtain ⟨b_0,e0,h⟩:=ql h
           obtain ⟨w_3,e3,h⟩:=qr h
           obtain ⟨more_4,e4,h⟩:=qcd h
           obtain ⟨k_5,e5,h⟩:=qd h
           refine qb e0 (qb (qa e3 rfl) (qb (qa (qa e4 rfl) rfl) (qb (qa (qa (qa e5 rfl) rfl) rfl) ?_)))
           refine qfb qpb (fun ρ w=>asL (ρ 0) fun b_0=>asP (ρ 3) fun w_3=>asB (ρ 4) fun more_4=>asI .i64 (ρ 5) fun k_5=>asI .i64 (ρ 6) fun last_6=>qhb.j7 b_0 w_3 more_4 k_5 last_6 Q nx1 w) (Eq.mp (by kernel_rfl) h) ?_
           intro ρ w h
           obtain ⟨b_0,e0,h⟩:=ql h
           obtain ⟨w_3,e3,h⟩:=qr h
           obtain ⟨more_4,e4,h⟩:=qcd h
           obtain ⟨k_5,e5,h⟩:=qd h
           obtain ⟨last_6,e6,h⟩:=qd h
           refine qb e0 (qb (qa e3 rfl) (qb (qa (qa e4 rfl) rfl) (qb (qa (qa (qa e5 rfl) rfl) rfl) (qb (qa (qa (qa (qa e6 rfl) rfl) rfl) rfl) ?_))))
           refine qfb qpb (fun ρ w=>asL (ρ 0) fun b_0=>asP (ρ 3) fun w_3=>asB (ρ 4) fun more_4=>asI .i64 (ρ 5) fun k_5=>qhb.j8 b_0 w_3 more_4 k_5 Q nx1 w) (Eq.mp (by kernel_rfl) h) ?_
           intro ρ w h
           obtain ⟨b_0,e0,h⟩:=ql h
           obtain ⟨w_3,e3,h⟩:=qr h
           obtain ⟨more_4,e4,h⟩:=qcd h
           obtain ⟨k_5,e5,h⟩:=qd h
           refine qb e0 (qb (qa e3 rfl) (qb (qa (qa e4 rfl) rfl) (qb (qa (qa (qa e5 rfl) rfl) rfl) ?_)))
           refine qfb qpb (fun ρ w=>asL (ρ 0) fun b_0=>asP (ρ 3) fun w_3=>asB (ρ 4) fun more_4=>asI .i64 (ρ 5) fun k_5=>qhb.j9 b_0 w_3 more_4 k_5 Q nx1 w) (Eq.mp (by kernel_rfl) h) ?_
           intro ρ w h
           obtain ⟨b_0,e0,h⟩:=ql h
           obtain ⟨w_3,e3,h⟩:=qr h
           obtain ⟨more_4,e4,h⟩:=qcd h
           obtain ⟨k_5,e5,h⟩:=qd h
           refine qb e0 (qb (qa e3 rfl) (qb (qa (qa e4 rfl) rfl) (qb (qa (qa (qa e5 rfl) rfl) rfl) ?_)))
           refine qu (fun ρ w=>asL (ρ 0) fun b_0=>asP (ρ 3) fun w_3=>asB (ρ 4) fun more_4=>asI .i64 (ρ 5) fun k_5=>qhb.j10 b_0 w_3 more_4 k_5 Q nx1 w) ?_ ?_
           · skip
             refine qu (fun ρ w=>asL (ρ 0) fun b_0=>asP (ρ 3) fun w_3=>asB (ρ 4) fun more_4=>asI .i64 (ρ 5) fun k_5=>asL (ρ 36) fun t36=>asI .i64 (ρ 37) fun t37=>asI .i64 (ρ 38) fun t38=>qhb.j11 b_0 w_3 more_4 k_5 t36 t37 t38 Q nx1 w) ?_ ?_
             · skip
               exact qg qpb _ (Eq.mp (by kernel_rfl) h)
             · intro ρ w h
               obtain ⟨b_0,e0,h⟩:=ql h
               obtain ⟨w_3,e3,h⟩:=qr h
               obtain ⟨more_4,e4,h⟩:=qcd h
               obtain ⟨k_5,e5,h⟩:=qd h
               obtain ⟨t36,e36,h⟩:=ql h
               obtain ⟨t37,e37,h⟩:=qd h
               obtain ⟨t38,e38,h⟩:=qd h
               refine qb e0 (qb (qa e3 rfl) (qb (qa (qa e4 rfl) rfl) (qb (qa (qa (qa e5 rfl) rfl) rfl) (qb (qa (qa (qa (qa e36 rfl) rfl) rfl) rfl) (qb (qa (qa (qa (qa (qa e37 rfl) rfl) rfl) rfl) rfl) (qb (qa (qa (qa (qa (qa (qa e38 rfl) rfl) rfl) rfl) rfl) rfl) ?_))))))
               refine qcb ?_
               obtain ⟨I,μ,hI,hr⟩:=h
               refine qlb (α:=Int) (fun s ρ=>ρ 38=.int .i64 s∧ρ 0=.slice b_0.a b_0.len b_0.cap∧ρ 3=.pointer w_3∧ρ 4=.bool more_4∧ρ 5=.int .i64 k_5∧ρ 36=.slice t36.a t36.len t36.cap∧ρ 37=.int .i64 t37) (fun s w=>I s w) (fun s w=>μ s w) t38 ⟨rfl,rfl,rfl,rfl,rfl,rfl,rfl⟩ hI ?_
               rintro t38 ρ w ⟨e38,e0,e3,e4,e5,e36,e37⟩ hI
               have h:=hr t38 w hI
               clear hr
               obtain ⟨nx2,hnx⟩:∃ nx:Sl→OAd→Bool→Int→Sl→Int→Int→World→Prop,nx=(fun b_0' w_3' more_4' k_5' t36' t37' t38' w'=>(b_0'=b_0∧w_3'=w_3∧more_4'=more_4∧k_5'=k_5∧t36'=t36∧t37'=t37)∧I t38' w'∧μ t38' w' < μ t38 w):=⟨_,rfl⟩
               rw [← hnx] at h
               refine qsb (M:=fun ρ w=>asL (ρ 0) fun b_0=>asP (ρ 3) fun w_3=>asB (ρ 4) fun more_4=>asI .i64 (ρ 5) fun k_5=>asL (ρ 36) fun t36=>asI .i64 (ρ 37) fun t37=>asI .i64 (ρ 38) fun t38=>nx2 b_0 w_3 more_4 k_5 t36 t37 t38 w) ?_ (fun ρ w h=>?_)
               · skip
                 refine qb e0 (qb (qa e3 rfl) (qb (qa (qa e4 rfl) rfl) (qb (qa (qa (qa e5 rfl) rfl) rfl) (qb (qa (qa (qa (qa e36 rfl) rfl) rfl) rfl) (qb (qa (qa (qa (qa (qa e37 rfl) rfl) rfl) rfl) rfl) (qb (qa (qa (qa (qa (qa (qa e38 rfl) rfl) rfl) rfl) rfl) rfl) ?_))))))
                 exact qg qpb _ (Eq.mp (by kernel_rfl) h)
               · skip
                 obtain ⟨b_0',e0',h⟩:=ql h
                 obtain ⟨w_3',e3',h⟩:=qr h
                 obtain ⟨more_4',e4',h⟩:=qcd h
                 obtain ⟨k_5',e5',h⟩:=qd h
                 obtain ⟨t36',e36',h⟩:=ql h
                 obtain ⟨t37',e37',h⟩:=qd h
                 obtain ⟨t38',e38',h⟩:=qd h
                 rw [hnx] at h
                 obtain ⟨hu,hI2,hμ⟩:=h
                 obtain ⟨rfl,rfl,rfl,rfl,rfl,rfl⟩:=hu
                 exact ⟨t38',⟨e38',e0',e3',e4',e5',e36',e37'⟩,hI2,hμ⟩
           · intro ρ w h
             obtain ⟨b_0,e0,h⟩:=ql h
             obtain ⟨w_3,e3,h⟩:=qr h
             obtain ⟨more_4,e4,h⟩:=qcd h
             obtain ⟨k_5,e5,h⟩:=qd h
             refine qb e0 (qb (qa e3 rfl) (qb (qa (qa e4 rfl) rfl) (qb (qa (qa (qa e5 rfl) rfl) rfl) ?_)))
             exact qg qpb _ (Eq.mp (by kernel_rfl) h)
       · skip
         obtain ⟨w_3',e3',h⟩:=qr h
         obtain ⟨b_0',e0',h⟩:=ql h
         obtain ⟨more_4',e4',h⟩:=qcd h
         rw [hnx] at h
         obtain ⟨hu,hI2,hμ⟩:=h
         obtain rfl:=hu
         exact ⟨(b_0',more_4'),⟨e0',e4',e3'⟩,hI2,hμ⟩
   · intro ρ w h
     obtain ⟨w_3,e3,h⟩:=qr h
     refine qb e3 ?_
     exact qg qpb _ (Eq.mp (by kernel_rfl) h)
def qwe.b1 (v_0:Int) (t6:Addr) (p_7:Addr) (k_8:Int) (Q:VWP) (nx1:Int→Addr→Addr→Int→World→Prop) (w:World):Prop :=
 Calls Tryz.prog 273 ⟨[.int .i64 k_8]⟩ w fun e1 w2 =>
 ∃ r3:Int,∃ r4:Int,∃ r5:Bool,e1=.returned (.tuple ⟨[.int .i64 r3,.int .i64 r4,.bool r5]⟩) ∧
 br (!r5) (
 ldA w2 p_7 3 fun c6 =>
 (c6).size=3 ∧
 stA w2 t6 c6 fun w7 =>
 ldA w7 t6 3 fun c8 =>
 Q (.agg c8) w7) (
 br (decide ((r3:Int) > v_0)) (
 ldA w2 p_7 3 fun c9 =>
 (c9).size=3 ∧
 stA w2 t6 c9 fun w10 =>
 ldA w10 t6 3 fun c11 =>
 Q (.agg c11) w10) (
 lt (IntKind.i64.wrap (v_0 - r3)) fun x12 =>
 ((⟨[.int .i64 k_8,.int .i64 x12,.int .i64 r4]⟩:Array Value)).size=3 ∧
 stA w2 p_7 (⟨[.int .i64 k_8,.int .i64 x12,.int .i64 r4]⟩:Array Value) fun w13 =>
 lt (IntKind.i64.wrap (k_8+1)) fun x14 =>
 nx1 v_0 t6 p_7 x14 w13))
def qwe.l1 (v_0:Int) (t6:Addr) (p_7:Addr) (k_8:Int) (Q:VWP) (w:World):Prop :=
 ∃ (I:Int→World→Prop) (μ:Int→World→Nat),I k_8 w∧∀ k_8:Int,∀ w:World,I k_8 w→qwe.b1 v_0 t6 p_7 k_8 Q (fun v_0' t6' p_7' k_8' w'=>(v_0'=v_0∧t6'=t6∧p_7'=p_7)∧I k_8' w'∧μ k_8' w' < μ k_8 w) w
def qwe.j2 (v_0:Int) (t6:Addr) (p_7:Addr) (k_8:Int) (Q:VWP) (w:World):Prop :=
 qwe.l1 v_0 t6 p_7 k_8 Q w
def qwe.j1 (v_0 from_1:Int) (t6:Addr) (Q:VWP) (w:World):Prop :=
 lt (⟨World.heapSize w,0,none⟩:Addr) fun a15 =>
 lt (World.alloc w (.cells (zc Tryz.prog 307) 307)) fun w16 =>
 ((⟨[.int .i64 0,.int .i64 0,.int .i64 0]⟩:Array Value)).size=3 ∧
 stA w16 a15 (⟨[.int .i64 0,.int .i64 0,.int .i64 0]⟩:Array Value) fun w17 =>
 qwe.j2 v_0 t6 a15 from_1 Q w17
def qwe (v_0 from_1:Int) (Q:VWP) (w:World):Prop :=
 lt (⟨World.heapSize w,0,none⟩:Addr) fun a18 =>
 lt (World.alloc w (.cells (zc Tryz.prog 307) 307)) fun w19 =>
 qwe.j1 v_0 from_1 a18 Q w19
theorem qwe.ok (v_0:Int) (from_1:Int) (Q:VWP) (w:World) (h:qwe v_0 from_1 Q w):Calls Tryz.prog 272 ⟨[.int .i64 v_0,.int .i64 from_1,.func (.func 273) ⟨[]⟩ ⟨[]⟩]⟩ w (Ret Q):=by
 refine qp [.cell 6 307] Tryz.func272 rfl rfl rfl rfl ?_
 refine qu (fun ρ w=>asI .i64 (ρ 0) fun v_0=>asI .i64 (ρ 1) fun from_1=>qsj 273 (ρ 2) <| asA (ρ 6) fun t6=>qwe.j1 v_0 from_1 t6 Q w) ?_ ?_
 · skip
   exact qg qpb _ (Eq.mp (by kernel_rfl) h)
 · intro ρ w h
   obtain ⟨v_0,e0,h⟩:=qd h
   obtain ⟨from_1,e1,h⟩:=qd h
   obtain ⟨e2,h⟩:=qmd h
   obtain ⟨t6,e6,h⟩:=qbf h
   refine qb e0 (qb (qa e1 rfl) (qb (qa (qa e2 rfl) rfl) (qb (qa (qa (qa e6 rfl) rfl) rfl) ?_)))
   refine qfb qpb (fun ρ w=>asI .i64 (ρ 0) fun v_0=>qsj 273 (ρ 2) <| asA (ρ 6) fun t6=>asA (ρ 7) fun p_7=>asI .i64 (ρ 8) fun k_8=>qwe.j2 v_0 t6 p_7 k_8 Q w) (Eq.mp (by kernel_rfl) h) ?_
   intro ρ w h
   obtain ⟨v_0,e0,h⟩:=qd h
   obtain ⟨e2,h⟩:=qmd h
   obtain ⟨t6,e6,h⟩:=qbf h
   obtain ⟨p_7,e7,h⟩:=qbf h
   obtain ⟨k_8,e8,h⟩:=qd h
   refine qb e0 (qb (qa e2 rfl) (qb (qa (qa e6 rfl) rfl) (qb (qa (qa (qa e7 rfl) rfl) rfl) (qb (qa (qa (qa (qa e8 rfl) rfl) rfl) rfl) ?_))))
   refine qcb ?_
   obtain ⟨I,μ,hI,hr⟩:=h
   refine qlb (α:=Int) (fun s ρ=>ρ 8=.int .i64 s∧ρ 0=.int .i64 v_0∧ρ 2=.func (.func 273) ⟨[]⟩ ⟨[]⟩∧ρ 6=.pointer (some t6)∧ρ 7=.pointer (some p_7)) (fun s w=>I s w) (fun s w=>μ s w) k_8 ⟨rfl,rfl,rfl,rfl,rfl⟩ hI ?_
   rintro k_8 ρ w ⟨e8,e0,e2,e6,e7⟩ hI
   have h:=hr k_8 w hI
   clear hr
   obtain ⟨nx1,hnx⟩:∃ nx:Int→Addr→Addr→Int→World→Prop,nx=(fun v_0' t6' p_7' k_8' w'=>(v_0'=v_0∧t6'=t6∧p_7'=p_7)∧I k_8' w'∧μ k_8' w' < μ k_8 w):=⟨_,rfl⟩
   rw [← hnx] at h
   refine qsb (M:=fun ρ w=>asI .i64 (ρ 0) fun v_0=>qsj 273 (ρ 2) <| asA (ρ 6) fun t6=>asA (ρ 7) fun p_7=>asI .i64 (ρ 8) fun k_8=>nx1 v_0 t6 p_7 k_8 w) ?_ (fun ρ w h=>?_)
   · skip
     refine qb e0 (qb (qa e2 rfl) (qb (qa (qa e6 rfl) rfl) (qb (qa (qa (qa e7 rfl) rfl) rfl) (qb (qa (qa (qa (qa e8 rfl) rfl) rfl) rfl) ?_))))
     exact qg qpb _ (Eq.mp (by kernel_rfl) h)
   · skip
     obtain ⟨v_0',e0',h⟩:=qd h
     obtain ⟨e2',h⟩:=qmd h
     obtain ⟨t6',e6',h⟩:=qbf h
     obtain ⟨p_7',e7',h⟩:=qbf h
     obtain ⟨k_8',e8',h⟩:=qd h
     rw [hnx] at h
     obtain ⟨hu,hI2,hμ⟩:=h
     obtain ⟨rfl,rfl,rfl⟩:=hu
     exact ⟨k_8',⟨e8',e0',e2',e6',e7'⟩,hI2,hμ⟩
def qxe.b1 (v_0:Int) (t6:Addr) (p_7:Addr) (k_8:Int) (Q:VWP) (nx1:Int→Addr→Addr→Int→World→Prop) (w:World):Prop :=
 Calls Tryz.prog 274 ⟨[.int .i64 k_8]⟩ w fun e1 w2 =>
 ∃ r3:Int,∃ r4:Int,∃ r5:Bool,e1=.returned (.tuple ⟨[.int .i64 r3,.int .i64 r4,.bool r5]⟩) ∧
 br (!r5) (
 ldA w2 p_7 3 fun c6 =>
 (c6).size=3 ∧
 stA w2 t6 c6 fun w7 =>
 ldA w7 t6 3 fun c8 =>
 Q (.agg c8) w7) (
 br (decide ((r3:Int) > v_0)) (
 ldA w2 p_7 3 fun c9 =>
 (c9).size=3 ∧
 stA w2 t6 c9 fun w10 =>
 ldA w10 t6 3 fun c11 =>
 Q (.agg c11) w10) (
 lt (IntKind.i64.wrap (v_0 - r3)) fun x12 =>
 ((⟨[.int .i64 k_8,.int .i64 x12,.int .i64 r4]⟩:Array Value)).size=3 ∧
 stA w2 p_7 (⟨[.int .i64 k_8,.int .i64 x12,.int .i64 r4]⟩:Array Value) fun w13 =>
 lt (IntKind.i64.wrap (k_8+1)) fun x14 =>
 nx1 v_0 t6 p_7 x14 w13))
def qxe.l1 (v_0:Int) (t6:Addr) (p_7:Addr) (k_8:Int) (Q:VWP) (w:World):Prop :=
 ∃ (I:Int→World→Prop) (μ:Int→World→Nat),I k_8 w∧∀ k_8:Int,∀ w:World,I k_8 w→qxe.b1 v_0 t6 p_7 k_8 Q (fun v_0' t6' p_7' k_8' w'=>(v_0'=v_0∧t6'=t6∧p_7'=p_7)∧I k_8' w'∧μ k_8' w' < μ k_8 w) w
def qxe.j2 (v_0:Int) (t6:Addr) (p_7:Addr) (k_8:Int) (Q:VWP) (w:World):Prop :=
 qxe.l1 v_0 t6 p_7 k_8 Q w
def qxe.j1 (v_0 from_1:Int) (t6:Addr) (Q:VWP) (w:World):Prop :=
 lt (⟨World.heapSize w,0,none⟩:Addr) fun a15 =>
 lt (World.alloc w (.cells (zc Tryz.prog 307) 307)) fun w16 =>
 ((⟨[.int .i64 0,.int .i64 0,.int .i64 0]⟩:Array Value)).size=3 ∧
 stA w16 a15 (⟨[.int .i64 0,.int .i64 0,.int .i64 0]⟩:Array Value) fun w17 =>
 qxe.j2 v_0 t6 a15 from_1 Q w17
def qxe (v_0 from_1:Int) (Q:VWP) (w:World):Prop :=
 lt (⟨World.heapSize w,0,none⟩:Addr) fun a18 =>
 lt (World.alloc w (.cells (zc Tryz.prog 307) 307)) fun w19 =>
 qxe.j1 v_0 from_1 a18 Q w19
theorem qxe.ok (v_0:Int) (from_1:Int) (Q:VWP) (w:World) (h:qxe v_0 from_1 Q w):Calls Tryz.prog 272 ⟨[.int .i64 v_0,.int .i64 from_1,.func (.func 274) ⟨[]⟩ ⟨[]⟩]⟩ w (Ret Q):=by
 refine qp [.cell 6 307] Tryz.func272 rfl rfl rfl rfl ?_
 refine qu (fun ρ w=>asI .i64 (ρ 0) fun v_0=>asI .i64 (ρ 1) fun from_1=>qsj 274 (ρ 2) <| asA (ρ 6) fun t6=>qxe.j1 v_0 from_1 t6 Q w) ?_ ?_
 · skip
   exact qg qpb _ (Eq.mp (by kernel_rfl) h)
 · intro ρ w h
   obtain ⟨v_0,e0,h⟩:=qd h
   obtain ⟨from_1,e1,h⟩:=qd h
   obtain ⟨e2,h⟩:=qmd h
   obtain ⟨t6,e6,h⟩:=qbf h
   refine qb e0 (qb (qa e1 rfl) (qb (qa (qa e2 rfl) rfl) (qb (qa (qa (qa e6 rfl) rfl) rfl) ?_)))
   refine qfb qpb (fun ρ w=>asI .i64 (ρ 0) fun v_0=>qsj 274 (ρ 2) <| asA (ρ 6) fun t6=>asA (ρ 7) fun p_7=>asI .i64 (ρ 8) fun k_8=>qxe.j2 v_0 t6 p_7 k_8 Q w) (Eq.mp (by kernel_rfl) h) ?_
   intro ρ w h
   obtain ⟨v_0,e0,h⟩:=qd h
   obtain ⟨e2,h⟩:=qmd h
   obtain ⟨t6,e6,h⟩:=qbf h
   obtain ⟨p_7,e7,h⟩:=qbf h
   obtain ⟨k_8,e8,h⟩:=qd h
   refine qb e0 (qb (qa e2 rfl) (qb (qa (qa e6 rfl) rfl) (qb (qa (qa (qa e7 rfl) rfl) rfl) (qb (qa (qa (qa (qa e8 rfl) rfl) rfl) rfl) ?_))))
   refine qcb ?_
   obtain ⟨I,μ,hI,hr⟩:=h
   refine qlb (α:=Int) (fun s ρ=>ρ 8=.int .i64 s∧ρ 0=.int .i64 v_0∧ρ 2=.func (.func 274) ⟨[]⟩ ⟨[]⟩∧ρ 6=.pointer (some t6)∧ρ 7=.pointer (some p_7)) (fun s w=>I s w) (fun s w=>μ s w) k_8 ⟨rfl,rfl,rfl,rfl,rfl⟩ hI ?_
   rintro k_8 ρ w ⟨e8,e0,e2,e6,e7⟩ hI
   have h:=hr k_8 w hI
   clear hr
   obtain ⟨nx1,hnx⟩:∃ nx:Int→Addr→Addr→Int→World→Prop,nx=(fun v_0' t6' p_7' k_8' w'=>(v_0'=v_0∧t6'=t6∧p_7'=p_7)∧I k_8' w'∧μ k_8' w' < μ k_8 w):=⟨_,rfl⟩
   rw [← hnx] at h
   refine qsb (M:=fun ρ w=>asI .i64 (ρ 0) fun v_0=>qsj 274 (ρ 2) <| asA (ρ 6) fun t6=>asA (ρ 7) fun p_7=>asI .i64 (ρ 8) fun k_8=>nx1 v_0 t6 p_7 k_8 w) ?_ (fun ρ w h=>?_)
   · skip
     refine qb e0 (qb (qa e2 rfl) (qb (qa (qa e6 rfl) rfl) (qb (qa (qa (qa e7 rfl) rfl) rfl) (qb (qa (qa (qa (qa e8 rfl) rfl) rfl) rfl) ?_))))
     exact qg qpb _ (Eq.mp (by kernel_rfl) h)
   · skip
     obtain ⟨v_0',e0',h⟩:=qd h
     obtain ⟨e2',h⟩:=qmd h
     obtain ⟨t6',e6',h⟩:=qbf h
     obtain ⟨p_7',e7',h⟩:=qbf h
     obtain ⟨k_8',e8',h⟩:=qd h
     rw [hnx] at h
     obtain ⟨hu,hI2,hμ⟩:=h
     obtain ⟨rfl,rfl,rfl⟩:=hu
     exact ⟨k_8',⟨e8',e0',e2',e6',e7'⟩,hI2,hμ⟩
def qfi (t_0:(Array Value)) (Q:VWP) (w:World):Prop :=
 lt (⟨World.heapSize w,0,none⟩:Addr) fun a1 =>
 lt (World.alloc w (.cells t_0 305)) fun w2 =>
 lt (⟨World.heapSize w2,0,none⟩:Addr) fun a3 =>
 lt (World.alloc w2 (.cells (zc Tryz.prog 307) 307)) fun w4 =>
 lt (⟨World.heapSize w4,0,none⟩:Addr) fun a5 =>
 lt (World.alloc w4 (.cells (zc Tryz.prog 307) 307)) fun w6 =>
 ldI .i64 w6 (Addr.add a1 1) fun x7 =>
 br ((x7:Int) == 0) (
 ldI .u8 w6 (Addr.add a1 0) fun x8 =>
 lt (IntKind.i64.wrap x8) fun x9 =>
 ((⟨[.int .i64 x9,.int .i64 0,.int .i64 0]⟩:Array Value)).size=3 ∧
 stA w6 a3 (⟨[.int .i64 x9,.int .i64 0,.int .i64 0]⟩:Array Value) fun w10 =>
 ((⟨[.int .i64 0,.int .i64 0,.int .i64 0]⟩:Array Value)).size=3 ∧
 stA w10 a5 (⟨[.int .i64 0,.int .i64 0,.int .i64 0]⟩:Array Value) fun w11 =>
 ldA w11 a3 3 fun c12 =>
 ldA w11 a5 3 fun c13 =>
 Q (.tuple ⟨[.agg c12,.agg c13,.bool false]⟩) w11) (
 lt (World.drew w6) fun w14 =>
 ldI .i64 w14 (Addr.add a1 1) fun x15 =>
 (Calls Tryz.prog 272 ⟨[.int .i64 x15,.int .i64 257,.func (.func 273) ⟨[]⟩ ⟨[]⟩]⟩ w14 fun e16 w17 =>
 ∃ r18:(Array Value),e16=.returned (.agg r18) ∧
 ldI .i64 w17 (Addr.add a1 2) fun x19 =>
 Calls Tryz.prog 272 ⟨[.int .i64 x19,.int .i64 0,.func (.func 274) ⟨[]⟩ ⟨[]⟩]⟩ w17 fun e20 w21 =>
 ∃ r22:(Array Value),e20=.returned (.agg r22) ∧
 (r18).size=3 ∧
 stA w21 a3 r18 fun w23 =>
 (r22).size=3 ∧
 stA w23 a5 r22 fun w24 =>
 ldA w24 a3 3 fun c25 =>
 ldA w24 a5 3 fun c26 =>
 Q (.tuple ⟨[.agg c25,.agg c26,.bool true]⟩) w24)∧(
 ldI .i64 w14 (Addr.add a1 2) fun x27 =>
 Calls Tryz.prog 272 ⟨[.int .i64 x15,.int .i64 257,.func (.func 273) ⟨[]⟩ ⟨[]⟩]⟩ w14 fun e28 w29 =>
 ∃ r30:(Array Value),e28=.returned (.agg r30) ∧
 Calls Tryz.prog 272 ⟨[.int .i64 x27,.int .i64 0,.func (.func 274) ⟨[]⟩ ⟨[]⟩]⟩ w29 fun e31 w32 =>
 ∃ r33:(Array Value),e31=.returned (.agg r33) ∧
 (r30).size=3 ∧
 stA w32 a3 r30 fun w34 =>
 (r33).size=3 ∧
 stA w34 a5 r33 fun w35 =>
 ldA w35 a3 3 fun c36 =>
 ldA w35 a5 3 fun c37 =>
 Q (.tuple ⟨[.agg c36,.agg c37,.bool true]⟩) w35))
theorem qfi.ok (t_0:(Array Value)) (Q:VWP) (w:World) (h:qfi t_0 Q w):Calls Tryz.prog 198 ⟨[.agg t_0]⟩ w (Ret Q):=by
 refine qp [.cell 2 307,.cell 3 307,.tmp 4] Tryz.func198 rfl rfl rfl rfl ?_
 exact qg qpb _ (Eq.mp (by kernel_rfl) h)
def qkd.j2 (k_3:OAd) (Q:VWP) (w:World):Prop :=
 nz k_3 fun a1 =>
 ldL w (Addr.add a1 1) fun x2 =>
 ixS x2.a x2.len 256 1 fun a3 =>
 ldI .i64 w a3 fun x4 =>
 lt (IntKind.i64.wrap (x4+1)) fun x5 =>
 ixS x2.a x2.len 256 1 fun a6 =>
 st w a6 (.int .i64 x5) fun w7 =>
 Q (.pointer k_3) w7
def qkd.b1 (k_3:OAd) (t14:Sl) (t15 t16:Int) (Q:VWP) (nx1:OAd→Sl→Int→Int→World→Prop) (w:World):Prop :=
 br (decide ((t16:Int) < t15)) (
 ixS t14.a t14.len t16 3 fun a8 =>
 ldA w a8 3 fun c9 =>
 lt (⟨World.heapSize w,0,none⟩:Addr) fun a10 =>
 lt (World.alloc w (.cells (zc Tryz.prog 305) 305)) fun w11 =>
 (c9).size=3 ∧
 stA w11 a10 c9 fun w12 =>
 ldA w12 a10 3 fun c13 =>
 Calls Tryz.prog 198 ⟨[.agg c13]⟩ w12 fun e14 w15 =>
 ∃ r16:(Array Value),∃ r17:(Array Value),∃ r18:Bool,e14=.returned (.tuple ⟨[.agg r16,.agg r17,.bool r18]⟩) ∧
 lt (⟨World.heapSize w15,0,none⟩:Addr) fun a19 =>
 lt (World.alloc w15 (.cells (zc Tryz.prog 307) 307)) fun w20 =>
 lt (⟨World.heapSize w20,0,none⟩:Addr) fun a21 =>
 lt (World.alloc w20 (.cells (zc Tryz.prog 307) 307)) fun w22 =>
 (r16).size=3 ∧
 stA w22 a19 r16 fun w23 =>
 (r17).size=3 ∧
 stA w23 a21 r17 fun w24 =>
 lt (World.drew w24) fun w25 =>
 nz k_3 fun a26 =>
 ldL w25 (Addr.add a26 1) fun x27 =>
 ldI .i64 w25 (Addr.add a19 0) fun x28 =>
 ixS x27.a x27.len x28 1 fun a29 =>
 ldI .i64 w25 a29 fun x30 =>
 lt (IntKind.i64.wrap (x30+1)) fun x31 =>
 ixS x27.a x27.len x28 1 fun a32 =>
 st w25 a32 (.int .i64 x31) fun w33 =>
 br r18 (
 lt (World.drew w33) fun w34 =>
 nz k_3 fun a35 =>
 ldL w34 (Addr.add a35 2) fun x36 =>
 ldI .i64 w34 (Addr.add a21 0) fun x37 =>
 ixS x36.a x36.len x37 1 fun a38 =>
 ldI .i64 w34 a38 fun x39 =>
 lt (IntKind.i64.wrap (x39+1)) fun x40 =>
 ixS x36.a x36.len x37 1 fun a41 =>
 st w34 a41 (.int .i64 x40) fun w42 =>
 lt (IntKind.i64.wrap (t16+1)) fun x43 =>
 nx1 k_3 t14 t15 x43 w42) (
 lt (IntKind.i64.wrap (t16+1)) fun x44 =>
 nx1 k_3 t14 t15 x44 w33)) (
 qkd.j2 k_3 Q w)
def qkd.l1 (k_3:OAd) (t14:Sl) (t15 t16:Int) (Q:VWP) (w:World):Prop :=
 ∃ (I:Int→World→Prop) (μ:Int→World→Nat),I t16 w∧∀ t16:Int,∀ w:World,I t16 w→qkd.b1 k_3 t14 t15 t16 Q (fun k_3' t14' t15' t16' w'=>(k_3'=k_3∧t14'=t14∧t15'=t15)∧I t16' w'∧μ t16' w' < μ t16 w) w
def qkd.j3 (k_3:OAd) (t14:Sl) (t15 t16:Int) (Q:VWP) (w:World):Prop :=
 qkd.l1 k_3 t14 t15 t16 Q w
def qkd.j1 (l_0:Sl) (k_3:OAd) (Q:VWP) (w:World):Prop :=
 qkd.j3 k_3 l_0 ((l_0.len:Nat):Int) 0 Q w
def qkd (l_0:Sl) (Q:VWP) (w:World):Prop :=
 lt (World.drew w) fun w45 =>
 (mkK Tryz.prog 3 w45 286 286 fun s46 w47 =>
 mkK Tryz.prog 3 w47 30 30 fun s48 w49 =>
 lt (⟨World.heapSize w49,0,none⟩:Addr) fun a50 =>
 lt (World.alloc w49 (.cells (⟨[.slice l_0.a l_0.len l_0.cap,.slice s46.a s46.len s46.cap,.slice s48.a s48.len s48.cap]⟩:Array Value) 303)) fun w51 =>
 qkd.j1 l_0 (some a50) Q w51)∧(
 mkK Tryz.prog 3 w45 30 30 fun s52 w53 =>
 mkK Tryz.prog 3 w53 286 286 fun s54 w55 =>
 lt (⟨World.heapSize w55,0,none⟩:Addr) fun a56 =>
 lt (World.alloc w55 (.cells (⟨[.slice l_0.a l_0.len l_0.cap,.slice s54.a s54.len s54.cap,.slice s52.a s52.len s52.cap]⟩:Array Value) 303)) fun w57 =>
 qkd.j1 l_0 (some a56) Q w57)
theorem qkd.ok (l_0:Sl) (Q:VWP) (w:World) (h:qkd l_0 Q w):Calls Tryz.prog 129 ⟨[.slice l_0.a l_0.len l_0.cap]⟩ w (Ret Q):=by
 refine qp [.tmp 2] Tryz.func129 rfl rfl rfl rfl ?_
 refine qfb qpb (fun ρ w=>asL (ρ 0) fun l_0=>asP (ρ 3) fun k_3=>qkd.j1 l_0 k_3 Q w) (Eq.mp (by kernel_rfl) h) ?_
 intro ρ w h
 obtain ⟨l_0,e0,h⟩:=ql h
 obtain ⟨k_3,e3,h⟩:=qr h
 refine qb e0 (qb (qa e3 rfl) ?_)
 refine qu (fun ρ w=>asP (ρ 3) fun k_3=>qkd.j2 k_3 Q w) ?_ ?_
 · skip
   refine qu (fun ρ w=>asP (ρ 3) fun k_3=>asL (ρ 14) fun t14=>asI .i64 (ρ 15) fun t15=>asI .i64 (ρ 16) fun t16=>qkd.j3 k_3 t14 t15 t16 Q w) ?_ ?_
   · skip
     exact qg qpb _ (Eq.mp (by kernel_rfl) h)
   · intro ρ w h
     obtain ⟨k_3,e3,h⟩:=qr h
     obtain ⟨t14,e14,h⟩:=ql h
     obtain ⟨t15,e15,h⟩:=qd h
     obtain ⟨t16,e16,h⟩:=qd h
     refine qb e3 (qb (qa e14 rfl) (qb (qa (qa e15 rfl) rfl) (qb (qa (qa (qa e16 rfl) rfl) rfl) ?_)))
     refine qcb ?_
     obtain ⟨I,μ,hI,hr⟩:=h
     refine qlb (α:=Int) (fun s ρ=>ρ 16=.int .i64 s∧ρ 3=.pointer k_3∧ρ 14=.slice t14.a t14.len t14.cap∧ρ 15=.int .i64 t15) (fun s w=>I s w) (fun s w=>μ s w) t16 ⟨rfl,rfl,rfl,rfl⟩ hI ?_
     rintro t16 ρ w ⟨e16,e3,e14,e15⟩ hI
     have h:=hr t16 w hI
     clear hr
     obtain ⟨nx1,hnx⟩:∃ nx:OAd→Sl→Int→Int→World→Prop,nx=(fun k_3' t14' t15' t16' w'=>(k_3'=k_3∧t14'=t14∧t15'=t15)∧I t16' w'∧μ t16' w' < μ t16 w):=⟨_,rfl⟩
     rw [← hnx] at h
     refine qsb (M:=fun ρ w=>asP (ρ 3) fun k_3=>asL (ρ 14) fun t14=>asI .i64 (ρ 15) fun t15=>asI .i64 (ρ 16) fun t16=>nx1 k_3 t14 t15 t16 w) ?_ (fun ρ w h=>?_)
     · skip
       refine qb e3 (qb (qa e14 rfl) (qb (qa (qa e15 rfl) rfl) (qb (qa (qa (qa e16 rfl) rfl) rfl) ?_)))
       exact qg qpb _ (Eq.mp (by kernel_rfl) h)
     · skip
       obtain ⟨k_3',e3',h⟩:=qr h
       obtain ⟨t14',e14',h⟩:=ql h
       obtain ⟨t15',e15',h⟩:=qd h
       obtain ⟨t16',e16',h⟩:=qd h
       rw [hnx] at h
       obtain ⟨hu,hI2,hμ⟩:=h
       obtain ⟨rfl,rfl,rfl⟩:=hu
       exact ⟨t16',⟨e16',e3',e14',e15'⟩,hI2,hμ⟩
 · intro ρ w h
   obtain ⟨k_3,e3,h⟩:=qr h
   refine qb e3 ?_
   exact qg qpb _ (Eq.mp (by kernel_rfl) h)
def qlc.j1 (w_1 lit_2:OAd) (Q:VWP) (w:World):Prop :=
 Calls Tryz.prog 215 ⟨[.pointer lit_2,.pointer w_1,.int .i64 256]⟩ w fun e1 w2 =>
 ∃ r3:Bool,e1=.returned (.bool r3) ∧
 Q (.tuple ⟨[]⟩) w2
def qlc.b1 (w_1 lit_2 dist_3:OAd) (t16:Sl) (t17 t18:Int) (Q:VWP) (nx1:OAd→OAd→OAd→Sl→Int→Int→World→Prop) (w:World):Prop :=
 br (decide ((t18:Int) < t17)) (
 ixS t16.a t16.len t18 3 fun a4 =>
 ldA w a4 3 fun c5 =>
 lt (⟨World.heapSize w,0,none⟩:Addr) fun a6 =>
 lt (World.alloc w (.cells (zc Tryz.prog 305) 305)) fun w7 =>
 (c5).size=3 ∧
 stA w7 a6 c5 fun w8 =>
 ldA w8 a6 3 fun c9 =>
 Calls Tryz.prog 198 ⟨[.agg c9]⟩ w8 fun e10 w11 =>
 ∃ r12:(Array Value),∃ r13:(Array Value),∃ r14:Bool,e10=.returned (.tuple ⟨[.agg r12,.agg r13,.bool r14]⟩) ∧
 lt (⟨World.heapSize w11,0,none⟩:Addr) fun a15 =>
 lt (World.alloc w11 (.cells (zc Tryz.prog 307) 307)) fun w16 =>
 lt (⟨World.heapSize w16,0,none⟩:Addr) fun a17 =>
 lt (World.alloc w16 (.cells (zc Tryz.prog 307) 307)) fun w18 =>
 (r12).size=3 ∧
 stA w18 a15 r12 fun w19 =>
 (r13).size=3 ∧
 stA w19 a17 r13 fun w20 =>
 ldI .i64 w20 (Addr.add a15 0) fun x21 =>
 Calls Tryz.prog 215 ⟨[.pointer lit_2,.pointer w_1,.int .i64 x21]⟩ w20 fun e22 w23 =>
 ∃ r24:Bool,e22=.returned (.bool r24) ∧
 br r14 (
 ldI .i64 w23 (Addr.add a15 1) fun x25 =>
 ldI .i64 w23 (Addr.add a15 2) fun x26 =>
 Calls Tryz.prog 203 ⟨[.pointer w_1,.int .i64 x25,.int .i64 x26]⟩ w23 fun e27 w28 =>
 e27=.returned (.tuple ⟨[]⟩) ∧
 ldI .i64 w28 (Addr.add a17 0) fun x29 =>
 Calls Tryz.prog 215 ⟨[.pointer dist_3,.pointer w_1,.int .i64 x29]⟩ w28 fun e30 w31 =>
 ∃ r32:Bool,e30=.returned (.bool r32) ∧
 ldI .i64 w31 (Addr.add a17 1) fun x33 =>
 ldI .i64 w31 (Addr.add a17 2) fun x34 =>
 Calls Tryz.prog 203 ⟨[.pointer w_1,.int .i64 x33,.int .i64 x34]⟩ w31 fun e35 w36 =>
 e35=.returned (.tuple ⟨[]⟩) ∧
 lt (IntKind.i64.wrap (t18+1)) fun x37 =>
 nx1 w_1 lit_2 dist_3 t16 t17 x37 w36) (
 lt (IntKind.i64.wrap (t18+1)) fun x38 =>
 nx1 w_1 lit_2 dist_3 t16 t17 x38 w23)) (
 qlc.j1 w_1 lit_2 Q w)
def qlc.l1 (w_1 lit_2 dist_3:OAd) (t16:Sl) (t17 t18:Int) (Q:VWP) (w:World):Prop :=
 ∃ (I:Int→World→Prop) (μ:Int→World→Nat),I t18 w∧∀ t18:Int,∀ w:World,I t18 w→qlc.b1 w_1 lit_2 dist_3 t16 t17 t18 Q (fun w_1' lit_2' dist_3' t16' t17' t18' w'=>(w_1'=w_1∧lit_2'=lit_2∧dist_3'=dist_3∧t16'=t16∧t17'=t17)∧I t18' w'∧μ t18' w' < μ t18 w) w
def qlc.j2 (w_1 lit_2 dist_3:OAd) (t16:Sl) (t17 t18:Int) (Q:VWP) (w:World):Prop :=
 qlc.l1 w_1 lit_2 dist_3 t16 t17 t18 Q w
def qlc (k_0 w_1 lit_2 dist_3:OAd) (Q:VWP) (w:World):Prop :=
 nz k_0 fun a39 =>
 ldL w (Addr.add a39 0) fun x40 =>
 qlc.j2 w_1 lit_2 dist_3 x40 ((x40.len:Nat):Int) 0 Q w
theorem qlc.ok (k_0:OAd) (w_1:OAd) (lit_2:OAd) (dist_3:OAd) (Q:VWP) (w:World) (h:qlc k_0 w_1 lit_2 dist_3 Q w):Calls Tryz.prog 209 ⟨[.pointer k_0,.pointer w_1,.pointer lit_2,.pointer dist_3]⟩ w (Ret Q):=by
 refine qp [] Tryz.func209 rfl rfl rfl rfl ?_
 refine qu (fun ρ w=>asP (ρ 1) fun w_1=>asP (ρ 2) fun lit_2=>qlc.j1 w_1 lit_2 Q w) ?_ ?_
 · skip
   refine qu (fun ρ w=>asP (ρ 1) fun w_1=>asP (ρ 2) fun lit_2=>asP (ρ 3) fun dist_3=>asL (ρ 16) fun t16=>asI .i64 (ρ 17) fun t17=>asI .i64 (ρ 18) fun t18=>qlc.j2 w_1 lit_2 dist_3 t16 t17 t18 Q w) ?_ ?_
   · skip
     exact qg qpb _ (Eq.mp (by kernel_rfl) h)
   · intro ρ w h
     obtain ⟨w_1,e1,h⟩:=qr h
     obtain ⟨lit_2,e2,h⟩:=qr h
     obtain ⟨dist_3,e3,h⟩:=qr h
     obtain ⟨t16,e16,h⟩:=ql h
     obtain ⟨t17,e17,h⟩:=qd h
     obtain ⟨t18,e18,h⟩:=qd h
     refine qb e1 (qb (qa e2 rfl) (qb (qa (qa e3 rfl) rfl) (qb (qa (qa (qa e16 rfl) rfl) rfl) (qb (qa (qa (qa (qa e17 rfl) rfl) rfl) rfl) (qb (qa (qa (qa (qa (qa e18 rfl) rfl) rfl) rfl) rfl) ?_)))))
     refine qcb ?_
     obtain ⟨I,μ,hI,hr⟩:=h
     refine qlb (α:=Int) (fun s ρ=>ρ 18=.int .i64 s∧ρ 1=.pointer w_1∧ρ 2=.pointer lit_2∧ρ 3=.pointer dist_3∧ρ 16=.slice t16.a t16.len t16.cap∧ρ 17=.int .i64 t17) (fun s w=>I s w) (fun s w=>μ s w) t18 ⟨rfl,rfl,rfl,rfl,rfl,rfl⟩ hI ?_
     rintro t18 ρ w ⟨e18,e1,e2,e3,e16,e17⟩ hI
     have h:=hr t18 w hI
     clear hr
     obtain ⟨nx1,hnx⟩:∃ nx:OAd→OAd→OAd→Sl→Int→Int→World→Prop,nx=(fun w_1' lit_2' dist_3' t16' t17' t18' w'=>(w_1'=w_1∧lit_2'=lit_2∧dist_3'=dist_3∧t16'=t16∧t17'=t17)∧I t18' w'∧μ t18' w' < μ t18 w):=⟨_,rfl⟩
     rw [← hnx] at h
     refine qsb (M:=fun ρ w=>asP (ρ 1) fun w_1=>asP (ρ 2) fun lit_2=>asP (ρ 3) fun dist_3=>asL (ρ 16) fun t16=>asI .i64 (ρ 17) fun t17=>asI .i64 (ρ 18) fun t18=>nx1 w_1 lit_2 dist_3 t16 t17 t18 w) ?_ (fun ρ w h=>?_)
     · skip
       refine qb e1 (qb (qa e2 rfl) (qb (qa (qa e3 rfl) rfl) (qb (qa (qa (qa e16 rfl) rfl) rfl) (qb (qa (qa (qa (qa e17 rfl) rfl) rfl) rfl) (qb (qa (qa (qa (qa (qa e18 rfl) rfl) rfl) rfl) rfl) ?_)))))
       exact qg qpb _ (Eq.mp (by kernel_rfl) h)
     · skip
       obtain ⟨w_1',e1',h⟩:=qr h
       obtain ⟨lit_2',e2',h⟩:=qr h
       obtain ⟨dist_3',e3',h⟩:=qr h
       obtain ⟨t16',e16',h⟩:=ql h
       obtain ⟨t17',e17',h⟩:=qd h
       obtain ⟨t18',e18',h⟩:=qd h
       rw [hnx] at h
       obtain ⟨hu,hI2,hμ⟩:=h
       obtain ⟨rfl,rfl,rfl,rfl,rfl⟩:=hu
       exact ⟨t18',⟨e18',e1',e2',e3',e16',e17'⟩,hI2,hμ⟩
 · intro ρ w h
   obtain ⟨w_1,e1,h⟩:=qr h
   obtain ⟨lit_2,e2,h⟩:=qr h
   refine qb e1 (qb (qa e2 rfl) ?_)
   exact qg qpb _ (Eq.mp (by kernel_rfl) h)
def qof (k_0:OAd) (Q:VWP) (w:World):Prop :=
 Calls Tryz.prog 202 ⟨[]⟩ w fun e1 w2 =>
 ∃ r3:OAd,e1=.returned (.pointer r3) ∧
 Calls Tryz.prog 203 ⟨[.pointer r3,.int .i64 3,.int .i64 3]⟩ w2 fun e4 w5 =>
 e4=.returned (.tuple ⟨[]⟩) ∧
 Calls Tryz.prog 207 ⟨[]⟩ w5 fun e6 w7 =>
 ∃ r8:Sl,∃ r9:Sl,e6=.returned (.tuple ⟨[.slice r8.a r8.len r8.cap,.slice r9.a r9.len r9.cap]⟩) ∧
 Calls Tryz.prog 208 ⟨[.slice r8.a r8.len r8.cap,.bool true]⟩ w7 fun e10 w11 =>
 ∃ r12:OAd,∃ r13:Int,e10=.returned (.tuple ⟨[.pointer r12,.int .i64 r13]⟩) ∧
 Calls Tryz.prog 208 ⟨[.slice r9.a r9.len r9.cap,.bool true]⟩ w11 fun e14 w15 =>
 ∃ r16:OAd,∃ r17:Int,e14=.returned (.tuple ⟨[.pointer r16,.int .i64 r17]⟩) ∧
 Calls Tryz.prog 209 ⟨[.pointer k_0,.pointer r3,.pointer r12,.pointer r16]⟩ w15 fun e18 w19 =>
 e18=.returned (.tuple ⟨[]⟩) ∧
 Calls Tryz.prog 206 ⟨[.pointer r3]⟩ w19 fun e20 w21 =>
 ∃ r22:Sl,e20=.returned (.slice r22.a r22.len r22.cap) ∧
 Q (.slice r22.a r22.len r22.cap) w21
theorem qof.ok (k_0:OAd) (Q:VWP) (w:World) (h:qof k_0 Q w):Calls Tryz.prog 132 ⟨[.pointer k_0]⟩ w (Ret Q):=by
 refine qp [.tmp 2] Tryz.func132 rfl rfl rfl rfl ?_
 exact qg qpb _ (Eq.mp (by kernel_rfl) h)
def qob.j2 (t3:Sl) (Q:VWP) (w:World):Prop :=
 Q (.slice t3.a t3.len t3.cap) w
def qob.j7 (d_0 t3:Sl) (t4:Int) (t5:Int) (Q:VWP) (nx1:Sl→Sl→Int→World→Prop) (w:World):Prop :=
 lt (IntKind.i64.wrap (t4+t5)) fun x1 =>
 nx1 d_0 t3 x1 w
def qob.j10 (d_0 t3:Sl) (t4:Int) (t5:Int) (t73:Bool) (Q:VWP) (nx1:Sl→Sl→Int→World→Prop) (w:World):Prop :=
 br t73 (
 lt (if (6:Int) < t5 then 6 else t5) fun x15 =>
 lt (IntKind.i64.wrap (x15 - 3)) fun x16 =>
 ((⟨[.int .i64 16,.int .i64 x16,.int .i64 2]⟩:Array Value)).size=3 ∧
 lt (⟨World.heapSize w,0,none⟩:Addr) fun a17 =>
 lt (World.alloc w (.cells ⟨(spl [.int .i64 0,.int .i64 0,.int .i64 0] 0 (⟨[.int .i64 16,.int .i64 x16,.int .i64 2]⟩:Array Value))⟩ 307)) fun w18 =>
 rdO w18 (some a17) (1 * 3) fun c19 =>
 apK Tryz.prog 307 w18 t3.a t3.len t3.cap 1 c19 fun s20 w21 =>
 qob.j7 d_0 s20 t4 x15 Q nx1 w21) (
 ixS d_0.a d_0.len t4 1 fun a22 =>
 ldI .i64 w a22 fun x23 =>
 ((⟨[.int .i64 x23,.int .i64 0,.int .i64 0]⟩:Array Value)).size=3 ∧
 lt (⟨World.heapSize w,0,none⟩:Addr) fun a24 =>
 lt (World.alloc w (.cells ⟨(spl [.int .i64 0,.int .i64 0,.int .i64 0] 0 (⟨[.int .i64 x23,.int .i64 0,.int .i64 0]⟩:Array Value))⟩ 307)) fun w25 =>
 rdO w25 (some a24) (1 * 3) fun c26 =>
 apK Tryz.prog 307 w25 t3.a t3.len t3.cap 1 c26 fun s27 w28 =>
 qob.j7 d_0 s27 t4 1 Q nx1 w28)
def qob.j9 (d_0 t3:Sl) (t4:Int) (t5:Int) (t57:Bool) (Q:VWP) (nx1:Sl→Sl→Int→World→Prop) (w:World):Prop :=
 br t57 (
 lt (IntKind.i64.wrap (t5 - 3)) fun x9 =>
 ((⟨[.int .i64 17,.int .i64 x9,.int .i64 3]⟩:Array Value)).size=3 ∧
 lt (⟨World.heapSize w,0,none⟩:Addr) fun a10 =>
 lt (World.alloc w (.cells ⟨(spl [.int .i64 0,.int .i64 0,.int .i64 0] 0 (⟨[.int .i64 17,.int .i64 x9,.int .i64 3]⟩:Array Value))⟩ 307)) fun w11 =>
 rdO w11 (some a10) (1 * 3) fun c12 =>
 apK Tryz.prog 307 w11 t3.a t3.len t3.cap 1 c12 fun s13 w14 =>
 qob.j7 d_0 s13 t4 t5 Q nx1 w14) (
 lt (World.drew w) fun w29 =>
 br (decide ((t4:Int) > 0)) (
 ixS d_0.a d_0.len t4 1 fun a30 =>
 ldI .i64 w29 a30 fun x31 =>
 lt (IntKind.i64.wrap (t4 - 1)) fun x32 =>
 ixS d_0.a d_0.len x32 1 fun a33 =>
 ldI .i64 w29 a33 fun x34 =>
 br ((x31:Int) == x34) (
 qob.j10 d_0 t3 t4 t5 (decide ((t5:Int) ≥ 3)) Q nx1 w29) (
 qob.j10 d_0 t3 t4 t5 false Q nx1 w29)) (
 qob.j10 d_0 t3 t4 t5 false Q nx1 w29))
def qob.j8 (d_0 t3:Sl) (t4:Int) (t5:Int) (t39:Bool) (Q:VWP) (nx1:Sl→Sl→Int→World→Prop) (w:World):Prop :=
 br t39 (
 lt (if (138:Int) < t5 then 138 else t5) fun x2 =>
 lt (IntKind.i64.wrap (x2 - 11)) fun x3 =>
 ((⟨[.int .i64 18,.int .i64 x3,.int .i64 7]⟩:Array Value)).size=3 ∧
 lt (⟨World.heapSize w,0,none⟩:Addr) fun a4 =>
 lt (World.alloc w (.cells ⟨(spl [.int .i64 0,.int .i64 0,.int .i64 0] 0 (⟨[.int .i64 18,.int .i64 x3,.int .i64 7]⟩:Array Value))⟩ 307)) fun w5 =>
 rdO w5 (some a4) (1 * 3) fun c6 =>
 apK Tryz.prog 307 w5 t3.a t3.len t3.cap 1 c6 fun s7 w8 =>
 qob.j7 d_0 s7 t4 x2 Q nx1 w8) (
 ixS d_0.a d_0.len t4 1 fun a35 =>
 ldI .i64 w a35 fun x36 =>
 br ((x36:Int) == 0) (
 qob.j9 d_0 t3 t4 t5 (decide ((t5:Int) ≥ 3)) Q nx1 w) (
 qob.j9 d_0 t3 t4 t5 false Q nx1 w))
def qob.j6 (d_0 t3:Sl) (t4:Int) (t5:Int) (Q:VWP) (nx1:Sl→Sl→Int→World→Prop) (w:World):Prop :=
 ixS d_0.a d_0.len t4 1 fun a37 =>
 ldI .i64 w a37 fun x38 =>
 br ((x38:Int) == 0) (
 qob.j8 d_0 t3 t4 t5 (decide ((t5:Int) ≥ 11)) Q nx1 w) (
 qob.j8 d_0 t3 t4 t5 false Q nx1 w)
def qob.b2 (d_0 t3:Sl) (t4:Int) (t5:Int) (Q:VWP) (nx1:Sl→Sl→Int→World→Prop) (nx2:Sl→Sl→Int→Int→World→Prop) (w:World):Prop :=
 lt (World.drew w) fun w39 =>
 lt (IntKind.i64.wrap (t4+t5)) fun x40 =>
 br (decide ((x40:Int) < ((d_0.len:Nat):Int))) (
 lt (IntKind.i64.wrap (t4+t5)) fun x41 =>
 ixS d_0.a d_0.len x41 1 fun a42 =>
 ldI .i64 w39 a42 fun x43 =>
 ixS d_0.a d_0.len t4 1 fun a44 =>
 ldI .i64 w39 a44 fun x45 =>
 br ((x43:Int) == x45) (
 lt (IntKind.i64.wrap (t5+1)) fun x46 =>
 nx2 d_0 t3 t4 x46 w39) (
 qob.j6 d_0 t3 t4 t5 Q nx1 w39)) (
 qob.j6 d_0 t3 t4 t5 Q nx1 w39)
def qob.l2 (d_0 t3:Sl) (t4:Int) (t5:Int) (Q:VWP) (nx1:Sl→Sl→Int→World→Prop) (w:World):Prop :=
 ∃ (I:Int→World→Prop) (μ:Int→World→Nat),I t5 w∧∀ t5:Int,∀ w:World,I t5 w→qob.b2 d_0 t3 t4 t5 Q nx1 (fun d_0' t3' t4' t5' w'=>(d_0'=d_0∧t3'=t3∧t4'=t4)∧I t5' w'∧μ t5' w' < μ t5 w) w
def qob.j5 (d_0 t3:Sl) (t4:Int) (t5:Int) (Q:VWP) (nx1:Sl→Sl→Int→World→Prop) (w:World):Prop :=
 qob.l2 d_0 t3 t4 t5 Q nx1 w
def qob.j4 (d_0 t3:Sl) (t4:Int) (Q:VWP) (nx1:Sl→Sl→Int→World→Prop) (w:World):Prop :=
 qob.j5 d_0 t3 t4 1 Q nx1 w
def qob.b1 (d_0 t3:Sl) (t4:Int) (Q:VWP) (nx1:Sl→Sl→Int→World→Prop) (w:World):Prop :=
 br (decide ((t4:Int) < ((d_0.len:Nat):Int))) (
 qob.j4 d_0 t3 t4 Q nx1 w) (
 qob.j2 t3 Q w)
def qob.l1 (d_0 t3:Sl) (t4:Int) (Q:VWP) (w:World):Prop :=
 ∃ (I:Sl→Int→World→Prop) (μ:Sl→Int→World→Nat),I t3 t4 w∧∀ t3:Sl,∀ t4:Int,∀ w:World,I t3 t4 w→qob.b1 d_0 t3 t4 Q (fun d_0' t3' t4' w'=>(d_0'=d_0)∧I t3' t4' w'∧μ t3' t4' w' < μ t3 t4 w) w
def qob.j3 (d_0 t3:Sl) (t4:Int) (Q:VWP) (w:World):Prop :=
 qob.l1 d_0 t3 t4 Q w
def qob.j1 (d_0 t3:Sl) (Q:VWP) (w:World):Prop :=
 qob.j3 d_0 t3 0 Q w
def qob (d_0:Sl) (Q:VWP) (w:World):Prop :=
 qob.j1 d_0 ⟨none,0,0⟩ Q w
theorem qob.ok (d_0:Sl) (Q:VWP) (w:World) (h:qob d_0 Q w):Calls Tryz.prog 212 ⟨[.slice d_0.a d_0.len d_0.cap]⟩ w (Ret Q):=by
 refine qp [.tmp 2] Tryz.func212 rfl rfl rfl rfl ?_
 refine qfb qpb (fun ρ w=>asL (ρ 0) fun d_0=>asL (ρ 3) fun t3=>qob.j1 d_0 t3 Q w) (Eq.mp (by kernel_rfl) h) ?_
 intro ρ w h
 obtain ⟨d_0,e0,h⟩:=ql h
 obtain ⟨t3,e3,h⟩:=ql h
 refine qb e0 (qb (qa e3 rfl) ?_)
 refine qu (fun ρ w=>asL (ρ 3) fun t3=>qob.j2 t3 Q w) ?_ ?_
 · skip
   refine qu (fun ρ w=>asL (ρ 0) fun d_0=>asL (ρ 3) fun t3=>asI .i64 (ρ 4) fun t4=>qob.j3 d_0 t3 t4 Q w) ?_ ?_
   · skip
     exact qg qpb _ (Eq.mp (by kernel_rfl) h)
   · intro ρ w h
     obtain ⟨d_0,e0,h⟩:=ql h
     obtain ⟨t3,e3,h⟩:=ql h
     obtain ⟨t4,e4,h⟩:=qd h
     refine qb e0 (qb (qa e3 rfl) (qb (qa (qa e4 rfl) rfl) ?_))
     refine qcb ?_
     obtain ⟨I,μ,hI,hr⟩:=h
     refine qlb (α:=Sl × Int) (fun s ρ=>ρ 3=.slice s.1.a s.1.len s.1.cap∧ρ 4=.int .i64 s.2∧ρ 0=.slice d_0.a d_0.len d_0.cap) (fun s w=>I s.1 s.2 w) (fun s w=>μ s.1 s.2 w) (t3,t4) ⟨rfl,rfl,rfl⟩ hI ?_
     rintro ⟨t3,t4⟩ ρ w ⟨e3,e4,e0⟩ hI
     have h:=hr t3 t4 w hI
     clear hr
     obtain ⟨nx1,hnx⟩:∃ nx:Sl→Sl→Int→World→Prop,nx=(fun d_0' t3' t4' w'=>(d_0'=d_0)∧I t3' t4' w'∧μ t3' t4' w' < μ t3 t4 w):=⟨_,rfl⟩
     rw [← hnx] at h
     refine qsb (M:=fun ρ w=>asL (ρ 0) fun d_0=>asL (ρ 3) fun t3=>asI .i64 (ρ 4) fun t4=>nx1 d_0 t3 t4 w) ?_ (fun ρ w h=>?_)
     · skip
       refine qb e0 (qb (qa e3 rfl) (qb (qa (qa e4 rfl) rfl) ?_))
       refine qu (fun ρ w=>asL (ρ 0) fun d_0=>asL (ρ 3) fun t3=>asI .i64 (ρ 4) fun t4=>qob.j4 d_0 t3 t4 Q nx1 w) ?_ ?_
       · skip
         exact qg qpb _ (Eq.mp (by kernel_rfl) h)
       · intro ρ w h
         obtain ⟨d_0,e0,h⟩:=ql h
         obtain ⟨t3,e3,h⟩:=ql h
         obtain ⟨t4,e4,h⟩:=qd h
         refine qb e0 (qb (qa e3 rfl) (qb (qa (qa e4 rfl) rfl) ?_))
         refine qcb ?_
         refine qu (fun ρ w=>asL (ρ 0) fun d_0=>asL (ρ 3) fun t3=>asI .i64 (ρ 4) fun t4=>asI .i64 (ρ 5) fun t5=>qob.j5 d_0 t3 t4 t5 Q nx1 w) ?_ ?_
         · skip
           exact qg qpb _ (Eq.mp (by kernel_rfl) h)
         · intro ρ w h
           obtain ⟨d_0,e0,h⟩:=ql h
           obtain ⟨t3,e3,h⟩:=ql h
           obtain ⟨t4,e4,h⟩:=qd h
           obtain ⟨t5,e5,h⟩:=qd h
           refine qb e0 (qb (qa e3 rfl) (qb (qa (qa e4 rfl) rfl) (qb (qa (qa (qa e5 rfl) rfl) rfl) ?_)))
           refine qu (fun ρ w=>asL (ρ 0) fun d_0=>asL (ρ 3) fun t3=>asI .i64 (ρ 4) fun t4=>asI .i64 (ρ 5) fun t5=>qob.j6 d_0 t3 t4 t5 Q nx1 w) ?_ ?_
           · skip
             refine qcb ?_
             obtain ⟨I,μ,hI,hr⟩:=h
             refine qlb (α:=Int) (fun s ρ=>ρ 5=.int .i64 s∧ρ 0=.slice d_0.a d_0.len d_0.cap∧ρ 3=.slice t3.a t3.len t3.cap∧ρ 4=.int .i64 t4) (fun s w=>I s w) (fun s w=>μ s w) t5 ⟨rfl,rfl,rfl,rfl⟩ hI ?_
             rintro t5 ρ w ⟨e5,e0,e3,e4⟩ hI
             have h:=hr t5 w hI
             clear hr
             obtain ⟨nx2,hnx⟩:∃ nx:Sl→Sl→Int→Int→World→Prop,nx=(fun d_0' t3' t4' t5' w'=>(d_0'=d_0∧t3'=t3∧t4'=t4)∧I t5' w'∧μ t5' w' < μ t5 w):=⟨_,rfl⟩
             rw [← hnx] at h
             refine qsb (M:=fun ρ w=>asL (ρ 0) fun d_0=>asL (ρ 3) fun t3=>asI .i64 (ρ 4) fun t4=>asI .i64 (ρ 5) fun t5=>nx2 d_0 t3 t4 t5 w) ?_ (fun ρ w h=>?_)
             · skip
               refine qb e0 (qb (qa e3 rfl) (qb (qa (qa e4 rfl) rfl) (qb (qa (qa (qa e5 rfl) rfl) rfl) ?_)))
               exact qg qpb _ (Eq.mp (by kernel_rfl) h)
             · skip
               obtain ⟨d_0',e0',h⟩:=ql h
               obtain ⟨t3',e3',h⟩:=ql h
               obtain ⟨t4',e4',h⟩:=qd h
               obtain ⟨t5',e5',h⟩:=qd h
               rw [hnx] at h
               obtain ⟨hu,hI2,hμ⟩:=h
               obtain ⟨rfl,rfl,rfl⟩:=hu
               exact ⟨t5',⟨e5',e0',e3',e4'⟩,hI2,hμ⟩
           · intro ρ w h
             obtain ⟨d_0,e0,h⟩:=ql h
             obtain ⟨t3,e3,h⟩:=ql h
             obtain ⟨t4,e4,h⟩:=qd h
             obtain ⟨t5,e5,h⟩:=qd h
             refine qb e0 (qb (qa e3 rfl) (qb (qa (qa e4 rfl) rfl) (qb (qa (qa (qa e5 rfl) rfl) rfl) ?_)))
             refine qu (fun ρ w=>asL (ρ 0) fun d_0=>asL (ρ 3) fun t3=>asI .i64 (ρ 4) fun t4=>asI .i64 (ρ 5) fun t5=>qob.j7 d_0 t3 t4 t5 Q nx1 w) ?_ ?_
             · skip
               refine qcb ?_
               refine qu (fun ρ w=>asL (ρ 0) fun d_0=>asL (ρ 3) fun t3=>asI .i64 (ρ 4) fun t4=>asI .i64 (ρ 5) fun t5=>asB (ρ 39) fun t39=>qob.j8 d_0 t3 t4 t5 t39 Q nx1 w) ?_ ?_
               · skip
                 exact qg qpb _ (Eq.mp (by kernel_rfl) h)
               · intro ρ w h
                 obtain ⟨d_0,e0,h⟩:=ql h
                 obtain ⟨t3,e3,h⟩:=ql h
                 obtain ⟨t4,e4,h⟩:=qd h
                 obtain ⟨t5,e5,h⟩:=qd h
                 obtain ⟨t39,e39,h⟩:=qcd h
                 refine qb e0 (qb (qa e3 rfl) (qb (qa (qa e4 rfl) rfl) (qb (qa (qa (qa e5 rfl) rfl) rfl) (qb (qa (qa (qa (qa e39 rfl) rfl) rfl) rfl) ?_))))
                 refine qul (b:=t39) rfl (fun hb=>?_) (fun hb=>?_)
                 · have h:=br_t h hb
                   exact qg qpb _ (Eq.mp (by kernel_rfl) h)
                 · have h:=br_f h hb
                   refine qu (fun ρ w=>asL (ρ 0) fun d_0=>asL (ρ 3) fun t3=>asI .i64 (ρ 4) fun t4=>asI .i64 (ρ 5) fun t5=>asB (ρ 57) fun t57=>qob.j9 d_0 t3 t4 t5 t57 Q nx1 w) ?_ ?_
                   · skip
                     exact qg qpb _ (Eq.mp (by kernel_rfl) h)
                   · intro ρ w h
                     obtain ⟨d_0,e0,h⟩:=ql h
                     obtain ⟨t3,e3,h⟩:=ql h
                     obtain ⟨t4,e4,h⟩:=qd h
                     obtain ⟨t5,e5,h⟩:=qd h
                     obtain ⟨t57,e57,h⟩:=qcd h
                     refine qb e0 (qb (qa e3 rfl) (qb (qa (qa e4 rfl) rfl) (qb (qa (qa (qa e5 rfl) rfl) rfl) (qb (qa (qa (qa (qa e57 rfl) rfl) rfl) rfl) ?_))))
                     refine qul (b:=t57) rfl (fun hb=>?_) (fun hb=>?_)
                     · have h:=br_t h hb
                       exact qg qpb _ (Eq.mp (by kernel_rfl) h)
                     · have h:=br_f h hb
                       refine qu (fun ρ w=>asL (ρ 0) fun d_0=>asL (ρ 3) fun t3=>asI .i64 (ρ 4) fun t4=>asI .i64 (ρ 5) fun t5=>asB (ρ 73) fun t73=>qob.j10 d_0 t3 t4 t5 t73 Q nx1 w) ?_ ?_
                       · skip
                         exact qg qpb _ (Eq.mp (by kernel_rfl) h)
                       · intro ρ w h
                         obtain ⟨d_0,e0,h⟩:=ql h
                         obtain ⟨t3,e3,h⟩:=ql h
                         obtain ⟨t4,e4,h⟩:=qd h
                         obtain ⟨t5,e5,h⟩:=qd h
                         obtain ⟨t73,e73,h⟩:=qcd h
                         refine qb e0 (qb (qa e3 rfl) (qb (qa (qa e4 rfl) rfl) (qb (qa (qa (qa e5 rfl) rfl) rfl) (qb (qa (qa (qa (qa e73 rfl) rfl) rfl) rfl) ?_))))
                         exact qg qpb _ (Eq.mp (by kernel_rfl) h)
             · intro ρ w h
               obtain ⟨d_0,e0,h⟩:=ql h
               obtain ⟨t3,e3,h⟩:=ql h
               obtain ⟨t4,e4,h⟩:=qd h
               obtain ⟨t5,e5,h⟩:=qd h
               refine qb e0 (qb (qa e3 rfl) (qb (qa (qa e4 rfl) rfl) (qb (qa (qa (qa e5 rfl) rfl) rfl) ?_)))
               exact qg qpb _ (Eq.mp (by kernel_rfl) h)
     · skip
       obtain ⟨d_0',e0',h⟩:=ql h
       obtain ⟨t3',e3',h⟩:=ql h
       obtain ⟨t4',e4',h⟩:=qd h
       rw [hnx] at h
       obtain ⟨hu,hI2,hμ⟩:=h
       obtain rfl:=hu
       exact ⟨(t3',t4'),⟨e3',e4',e0'⟩,hI2,hμ⟩
 · intro ρ w h
   obtain ⟨t3,e3,h⟩:=ql h
   refine qb e3 ?_
   exact qg qpb _ (Eq.mp (by kernel_rfl) h)
def qwd.j2 (l_0:Sl) (Q:VWP) (w:World):Prop :=
 Q (.slice l_0.a l_0.len l_0.cap) w
def qwd.b1 (least_1:Int) (l_0:Sl) (Q:VWP) (nx1:Int→Sl→World→Prop) (w:World):Prop :=
 br (decide ((((l_0.len:Nat):Int):Int) > least_1)) (
 lt (IntKind.i64.wrap (((l_0.len:Nat):Int) - 1)) fun x1 =>
 ixS l_0.a l_0.len x1 1 fun a2 =>
 ldI .i64 w a2 fun x3 =>
 br ((x3:Int) == 0) (
 lt (IntKind.i64.wrap (((l_0.len:Nat):Int) - 1)) fun x4 =>
 bd x4 l_0.cap fun n5 =>
 lt (⟨qwf l_0.a l_0.cap 0 1,n5 - 0,l_0.cap - 0⟩:Sl) fun s6 =>
 nx1 least_1 s6 w) (
 qwd.j2 l_0 Q w)) (
 qwd.j2 l_0 Q w)
def qwd.l1 (least_1:Int) (l_0:Sl) (Q:VWP) (w:World):Prop :=
 ∃ (I:Sl→World→Prop) (μ:Sl→World→Nat),I l_0 w∧∀ l_0:Sl,∀ w:World,I l_0 w→qwd.b1 least_1 l_0 Q (fun least_1' l_0' w'=>(least_1'=least_1)∧I l_0' w'∧μ l_0' w' < μ l_0 w) w
def qwd.j1 (l_0:Sl) (least_1:Int) (Q:VWP) (w:World):Prop :=
 qwd.l1 least_1 l_0 Q w
def qwd (l_0:Sl) (least_1:Int) (Q:VWP) (w:World):Prop :=
 qwd.j1 l_0 least_1 Q w
theorem qwd.ok (l_0:Sl) (least_1:Int) (Q:VWP) (w:World) (h:qwd l_0 least_1 Q w):Calls Tryz.prog 211 ⟨[.slice l_0.a l_0.len l_0.cap,.int .i64 least_1]⟩ w (Ret Q):=by
 refine qp [.tmp 4] Tryz.func211 rfl rfl rfl rfl ?_
 refine qu (fun ρ w=>asL (ρ 0) fun l_0=>asI .i64 (ρ 1) fun least_1=>qwd.j1 l_0 least_1 Q w) ?_ ?_
 · skip
   exact qg qpb _ (Eq.mp (by kernel_rfl) h)
 · intro ρ w h
   obtain ⟨l_0,e0,h⟩:=ql h
   obtain ⟨least_1,e1,h⟩:=qd h
   refine qb e0 (qb (qa e1 rfl) ?_)
   refine qu (fun ρ w=>asL (ρ 0) fun l_0=>qwd.j2 l_0 Q w) ?_ ?_
   · skip
     refine qcb ?_
     obtain ⟨I,μ,hI,hr⟩:=h
     refine qlb (α:=Sl) (fun s ρ=>ρ 0=.slice s.a s.len s.cap∧ρ 1=.int .i64 least_1) (fun s w=>I s w) (fun s w=>μ s w) l_0 ⟨rfl,rfl⟩ hI ?_
     rintro l_0 ρ w ⟨e0,e1⟩ hI
     have h:=hr l_0 w hI
     clear hr
     obtain ⟨nx1,hnx⟩:∃ nx:Int→Sl→World→Prop,nx=(fun least_1' l_0' w'=>(least_1'=least_1)∧I l_0' w'∧μ l_0' w' < μ l_0 w):=⟨_,rfl⟩
     rw [← hnx] at h
     refine qsb (M:=fun ρ w=>asI .i64 (ρ 1) fun least_1=>asL (ρ 0) fun l_0=>nx1 least_1 l_0 w) ?_ (fun ρ w h=>?_)
     · skip
       refine qb e0 (qb (qa e1 rfl) ?_)
       exact qg qpb _ (Eq.mp (by kernel_rfl) h)
     · skip
       obtain ⟨least_1',e1',h⟩:=qd h
       obtain ⟨l_0',e0',h⟩:=ql h
       rw [hnx] at h
       obtain ⟨hu,hI2,hμ⟩:=h
       obtain rfl:=hu
       exact ⟨l_0',⟨e0',e1'⟩,hI2,hμ⟩
   · intro ρ w h
     obtain ⟨l_0,e0,h⟩:=ql h
     refine qb e0 ?_
     exact qg qpb _ (Eq.mp (by kernel_rfl) h)
def qec.j3 (m_3:Int) (Q:VWP) (w:World):Prop :=
 Q (.int .i64 m_3) w
def qec.b1 (x_0:Sl) (m_3:Int) (i_4:Int) (Q:VWP) (nx1:Sl→Int→Int→World→Prop) (w:World):Prop :=
 br (decide ((i_4:Int) < ((x_0.len:Nat):Int))) (
 ixS x_0.a x_0.len i_4 1 fun a1 =>
 ldI .i64 w a1 fun x2 =>
 lt (if (x2:Int) > m_3 then x2 else m_3) fun x3 =>
 lt (IntKind.i64.wrap (i_4+1)) fun x4 =>
 nx1 x_0 x3 x4 w) (
 qec.j3 m_3 Q w)
def qec.l1 (x_0:Sl) (m_3:Int) (i_4:Int) (Q:VWP) (w:World):Prop :=
 ∃ (I:Int→Int→World→Prop) (μ:Int→Int→World→Nat),I m_3 i_4 w∧∀ m_3:Int,∀ i_4:Int,∀ w:World,I m_3 i_4 w→qec.b1 x_0 m_3 i_4 Q (fun x_0' m_3' i_4' w'=>(x_0'=x_0)∧I m_3' i_4' w'∧μ m_3' i_4' w' < μ m_3 i_4 w) w
def qec.j4 (x_0:Sl) (m_3:Int) (i_4:Int) (Q:VWP) (w:World):Prop :=
 qec.l1 x_0 m_3 i_4 Q w
def qec.j2 (x_0:Sl) (m_3:Int) (Q:VWP) (w:World):Prop :=
 qec.j4 x_0 m_3 1 Q w
def qec.j1 (x_0:Sl) (Q:VWP) (w:World):Prop :=
 br (decide ((((x_0.len:Nat):Int):Int) < 1)) (
 False) (
 ixS x_0.a x_0.len 0 1 fun a5 =>
 ldI .i64 w a5 fun x6 =>
 qec.j2 x_0 x6 Q w)
def qec (x_0:Sl) (Q:VWP) (w:World):Prop :=
 qec.j1 x_0 Q w
theorem qec.ok (x_0:Sl) (Q:VWP) (w:World) (h:qec x_0 Q w):Calls Tryz.prog 214 ⟨[.slice x_0.a x_0.len x_0.cap]⟩ w (Ret Q):=by
 refine qp [.tmp 2] Tryz.func214 rfl rfl rfl rfl ?_
 refine qu (fun ρ w=>asL (ρ 0) fun x_0=>qec.j1 x_0 Q w) ?_ ?_
 · skip
   exact qg qpb _ (Eq.mp (by kernel_rfl) h)
 · intro ρ w h
   obtain ⟨x_0,e0,h⟩:=ql h
   refine qb e0 ?_
   refine qfb qpb (fun ρ w=>asL (ρ 0) fun x_0=>asI .i64 (ρ 3) fun m_3=>qec.j2 x_0 m_3 Q w) (Eq.mp (by kernel_rfl) h) ?_
   intro ρ w h
   obtain ⟨x_0,e0,h⟩:=ql h
   obtain ⟨m_3,e3,h⟩:=qd h
   refine qb e0 (qb (qa e3 rfl) ?_)
   refine qu (fun ρ w=>asI .i64 (ρ 3) fun m_3=>qec.j3 m_3 Q w) ?_ ?_
   · skip
     refine qu (fun ρ w=>asL (ρ 0) fun x_0=>asI .i64 (ρ 3) fun m_3=>asI .i64 (ρ 4) fun i_4=>qec.j4 x_0 m_3 i_4 Q w) ?_ ?_
     · skip
       exact qg qpb _ (Eq.mp (by kernel_rfl) h)
     · intro ρ w h
       obtain ⟨x_0,e0,h⟩:=ql h
       obtain ⟨m_3,e3,h⟩:=qd h
       obtain ⟨i_4,e4,h⟩:=qd h
       refine qb e0 (qb (qa e3 rfl) (qb (qa (qa e4 rfl) rfl) ?_))
       refine qcb ?_
       obtain ⟨I,μ,hI,hr⟩:=h
       refine qlb (α:=Int × Int) (fun s ρ=>ρ 3=.int .i64 s.1∧ρ 4=.int .i64 s.2∧ρ 0=.slice x_0.a x_0.len x_0.cap) (fun s w=>I s.1 s.2 w) (fun s w=>μ s.1 s.2 w) (m_3,i_4) ⟨rfl,rfl,rfl⟩ hI ?_
       rintro ⟨m_3,i_4⟩ ρ w ⟨e3,e4,e0⟩ hI
       have h:=hr m_3 i_4 w hI
       clear hr
       obtain ⟨nx1,hnx⟩:∃ nx:Sl→Int→Int→World→Prop,nx=(fun x_0' m_3' i_4' w'=>(x_0'=x_0)∧I m_3' i_4' w'∧μ m_3' i_4' w' < μ m_3 i_4 w):=⟨_,rfl⟩
       rw [← hnx] at h
       refine qsb (M:=fun ρ w=>asL (ρ 0) fun x_0=>asI .i64 (ρ 3) fun m_3=>asI .i64 (ρ 4) fun i_4=>nx1 x_0 m_3 i_4 w) ?_ (fun ρ w h=>?_)
       · skip
         refine qb e0 (qb (qa e3 rfl) (qb (qa (qa e4 rfl) rfl) ?_))
         exact qg qpb _ (Eq.mp (by kernel_rfl) h)
       · skip
         obtain ⟨x_0',e0',h⟩:=ql h
         obtain ⟨m_3',e3',h⟩:=qd h
         obtain ⟨i_4',e4',h⟩:=qd h
         rw [hnx] at h
         obtain ⟨hu,hI2,hμ⟩:=h
         obtain rfl:=hu
         exact ⟨(m_3',i_4'),⟨e3',e4',e0'⟩,hI2,hμ⟩
   · intro ρ w h
     obtain ⟨m_3,e3,h⟩:=qd h
     refine qb e3 ?_
     exact qg qpb _ (Eq.mp (by kernel_rfl) h)
def qf.j14 (d_0 t7 t9 t21:OAd) (Q:VWP) (w:World):Prop :=
 Calls Tryz.prog 209 ⟨[.pointer d_0,.pointer t21,.pointer t7,.pointer t9]⟩ w fun e1 w2 =>
 e1=.returned (.tuple ⟨[]⟩) ∧
 Calls Tryz.prog 206 ⟨[.pointer t21]⟩ w2 fun e3 w4 =>
 ∃ r5:Sl,e3=.returned (.slice r5.a r5.len r5.cap) ∧
 Q (.slice r5.a r5.len r5.cap) w4
def qf.b1 (d_0 t7 t9 t17 t21:OAd) (t153:Sl) (t154 t155:Int) (Q:VWP) (nx1:OAd→OAd→OAd→OAd→OAd→Sl→Int→Int→World→Prop) (w:World):Prop :=
 br (decide ((t155:Int) < t154)) (
 ixS t153.a t153.len t155 3 fun a6 =>
 ldA w a6 3 fun c7 =>
 lt (⟨World.heapSize w,0,none⟩:Addr) fun a8 =>
 lt (World.alloc w (.cells (zc Tryz.prog 307) 307)) fun w9 =>
 (c7).size=3 ∧
 stA w9 a8 c7 fun w10 =>
 ldI .i64 w10 (Addr.add a8 0) fun x11 =>
 Calls Tryz.prog 215 ⟨[.pointer t17,.pointer t21,.int .i64 x11]⟩ w10 fun e12 w13 =>
 ∃ r14:Bool,e12=.returned (.bool r14) ∧
 ldI .i64 w13 (Addr.add a8 1) fun x15 =>
 ldI .i64 w13 (Addr.add a8 2) fun x16 =>
 Calls Tryz.prog 203 ⟨[.pointer t21,.int .i64 x15,.int .i64 x16]⟩ w13 fun e17 w18 =>
 e17=.returned (.tuple ⟨[]⟩) ∧
 lt (IntKind.i64.wrap (t155+1)) fun x19 =>
 nx1 d_0 t7 t9 t17 t21 t153 t154 x19 w18) (
 qf.j14 d_0 t7 t9 t21 Q w)
def qf.l1 (d_0 t7 t9 t17 t21:OAd) (t153:Sl) (t154 t155:Int) (Q:VWP) (w:World):Prop :=
 ∃ (I:Int→World→Prop) (μ:Int→World→Nat),I t155 w∧∀ t155:Int,∀ w:World,I t155 w→qf.b1 d_0 t7 t9 t17 t21 t153 t154 t155 Q (fun d_0' t7' t9' t17' t21' t153' t154' t155' w'=>(d_0'=d_0∧t7'=t7∧t9'=t9∧t17'=t17∧t21'=t21∧t153'=t153∧t154'=t154)∧I t155' w'∧μ t155' w' < μ t155 w) w
def qf.j15 (d_0 t7 t9 t17 t21:OAd) (t153:Sl) (t154 t155:Int) (Q:VWP) (w:World):Prop :=
 qf.l1 d_0 t7 t9 t17 t21 t153 t154 t155 Q w
def qf.j13 (d_0 t7 t9:OAd) (t11:Sl) (t17 t21:OAd) (Q:VWP) (w:World):Prop :=
 qf.j15 d_0 t7 t9 t17 t21 t11 ((t11.len:Nat):Int) 0 Q w
def qf.b2 (d_0 t7 t9:OAd) (t11:Sl) (t15:Sl) (t17:OAd) (t21:OAd) (t140:Sl) (t141 t142:Int) (Q:VWP) (nx2:OAd→OAd→OAd→Sl→Sl→OAd→OAd→Sl→Int→Int→World→Prop) (w:World):Prop :=
 br (decide ((t142:Int) < t141)) (
 ixS t140.a t140.len t142 1 fun a20 =>
 ldI .i64 w a20 fun x21 =>
 ixS t15.a t15.len x21 1 fun a22 =>
 ldI .i64 w a22 fun x23 =>
 Calls Tryz.prog 203 ⟨[.pointer t21,.int .i64 x23,.int .i64 3]⟩ w fun e24 w25 =>
 e24=.returned (.tuple ⟨[]⟩) ∧
 lt (IntKind.i64.wrap (t142+1)) fun x26 =>
 nx2 d_0 t7 t9 t11 t15 t17 t21 t140 t141 x26 w25) (
 qf.j13 d_0 t7 t9 t11 t17 t21 Q w)
def qf.l2 (d_0 t7 t9:OAd) (t11:Sl) (t15:Sl) (t17:OAd) (t21:OAd) (t140:Sl) (t141 t142:Int) (Q:VWP) (w:World):Prop :=
 ∃ (I:Int→World→Prop) (μ:Int→World→Nat),I t142 w∧∀ t142:Int,∀ w:World,I t142 w→qf.b2 d_0 t7 t9 t11 t15 t17 t21 t140 t141 t142 Q (fun d_0' t7' t9' t11' t15' t17' t21' t140' t141' t142' w'=>(d_0'=d_0∧t7'=t7∧t9'=t9∧t11'=t11∧t15'=t15∧t17'=t17∧t21'=t21∧t140'=t140∧t141'=t141)∧I t142' w'∧μ t142' w' < μ t142 w) w
def qf.j16 (d_0 t7 t9:OAd) (t11:Sl) (t15:Sl) (t17:OAd) (t21:OAd) (t140:Sl) (t141 t142:Int) (Q:VWP) (w:World):Prop :=
 qf.l2 d_0 t7 t9 t11 t15 t17 t21 t140 t141 t142 Q w
def qf.j12 (d_0 t7 t9:OAd) (t11:Sl) (t15:Sl) (t17:OAd) (t19:Sl) (t20:Int) (t21:OAd) (Q:VWP) (w:World):Prop :=
 bd t20 t19.cap fun n27 =>
 lt (⟨qwf t19.a t19.cap 0 1,n27 - 0,t19.cap - 0⟩:Sl) fun s28 =>
 qf.j16 d_0 t7 t9 t11 t15 t17 t21 s28 ((s28.len:Nat):Int) 0 Q w
def qf.j11 (d_0:OAd) (t5:Sl) (t7 t9:OAd) (t11:Sl) (t15:Sl) (t17:OAd) (t19:Sl) (t20:Int) (t21:OAd) (Q:VWP) (w:World):Prop :=
 lt (IntKind.i64.wrap (((t5.len:Nat):Int) - 1)) fun x29 =>
 Calls Tryz.prog 203 ⟨[.pointer t21,.int .i64 x29,.int .i64 5]⟩ w fun e30 w31 =>
 e30=.returned (.tuple ⟨[]⟩) ∧
 lt (IntKind.i64.wrap (t20 - 4)) fun x32 =>
 Calls Tryz.prog 203 ⟨[.pointer t21,.int .i64 x32,.int .i64 4]⟩ w31 fun e33 w34 =>
 e33=.returned (.tuple ⟨[]⟩) ∧
 qf.j12 d_0 t7 t9 t11 t15 t17 t19 t20 t21 Q w34
def qf.j10 (d_0:OAd) (t3:Sl) (t5:Sl) (t7:OAd) (t9:OAd) (t11:Sl) (t15:Sl) (t17:OAd) (t19:Sl) (t20:Int) (t21:OAd) (Q:VWP) (w:World):Prop :=
 Calls Tryz.prog 203 ⟨[.pointer t21,.int .i64 5,.int .i64 3]⟩ w fun e35 w36 =>
 e35=.returned (.tuple ⟨[]⟩) ∧
 lt (IntKind.i64.wrap (((t3.len:Nat):Int) - 256)) fun x37 =>
 lt (IntKind.i64.wrap (x37 - 1)) fun x38 =>
 Calls Tryz.prog 203 ⟨[.pointer t21,.int .i64 x38,.int .i64 5]⟩ w36 fun e39 w40 =>
 e39=.returned (.tuple ⟨[]⟩) ∧
 qf.j11 d_0 t5 t7 t9 t11 t15 t17 t19 t20 t21 Q w40
def qf.j9 (d_0:OAd) (t3:Sl) (t5:Sl) (t7:OAd) (t9:OAd) (t11:Sl) (t15:Sl) (t17:OAd) (t19:Sl) (t20:Int) (Q:VWP) (w:World):Prop :=
 Calls Tryz.prog 202 ⟨[]⟩ w fun e41 w42 =>
 ∃ r43:OAd,e41=.returned (.pointer r43) ∧
 qf.j10 d_0 t3 t5 t7 t9 t11 t15 t17 t19 t20 r43 Q w42
def qf.b3 (d_0:OAd) (t3:Sl) (t5:Sl) (t7:OAd) (t9:OAd) (t11:Sl) (t15:Sl) (t17:OAd) (t19:Sl) (t20:Int) (Q:VWP) (nx3:OAd→Sl→Sl→OAd→OAd→Sl→Sl→OAd→Sl→Int→World→Prop) (w:World):Prop :=
 br (decide ((t20:Int) > 4)) (
 lt (IntKind.i64.wrap (t20 - 1)) fun x44 =>
 ixS t19.a t19.len x44 1 fun a45 =>
 ldI .i64 w a45 fun x46 =>
 ixS t15.a t15.len x46 1 fun a47 =>
 ldI .i64 w a47 fun x48 =>
 br ((x48:Int) == 0) (
 lt (IntKind.i64.wrap (t20 - 1)) fun x49 =>
 nx3 d_0 t3 t5 t7 t9 t11 t15 t17 t19 x49 w) (
 qf.j9 d_0 t3 t5 t7 t9 t11 t15 t17 t19 t20 Q w)) (
 qf.j9 d_0 t3 t5 t7 t9 t11 t15 t17 t19 t20 Q w)
def qf.l3 (d_0:OAd) (t3:Sl) (t5:Sl) (t7:OAd) (t9:OAd) (t11:Sl) (t15:Sl) (t17:OAd) (t19:Sl) (t20:Int) (Q:VWP) (w:World):Prop :=
 ∃ (I:Int→World→Prop) (μ:Int→World→Nat),I t20 w∧∀ t20:Int,∀ w:World,I t20 w→qf.b3 d_0 t3 t5 t7 t9 t11 t15 t17 t19 t20 Q (fun d_0' t3' t5' t7' t9' t11' t15' t17' t19' t20' w'=>(d_0'=d_0∧t3'=t3∧t5'=t5∧t7'=t7∧t9'=t9∧t11'=t11∧t15'=t15∧t17'=t17∧t19'=t19)∧I t20' w'∧μ t20' w' < μ t20 w) w
def qf.j8 (d_0:OAd) (t3:Sl) (t5:Sl) (t7:OAd) (t9:OAd) (t11:Sl) (t15:Sl) (t17:OAd) (t19:Sl) (t20:Int) (Q:VWP) (w:World):Prop :=
 qf.l3 d_0 t3 t5 t7 t9 t11 t15 t17 t19 t20 Q w
def qf.j7 (d_0:OAd) (t3:Sl) (t5:Sl) (t7:OAd) (t9:OAd) (t11:Sl) (t15:Sl) (t17:OAd) (Q:VWP) (w:World):Prop :=
 lt (⟨World.heapSize w,0,none⟩:Addr) fun a50 =>
 lt (World.alloc w (.cells ⟨[.int .i64 16,.int .i64 17,.int .i64 18,.int .i64 0,.int .i64 8,.int .i64 7,.int .i64 9,.int .i64 6,.int .i64 10,.int .i64 5,.int .i64 11,.int .i64 4,.int .i64 12,.int .i64 3,.int .i64 13,.int .i64 2,.int .i64 14,.int .i64 1,.int .i64 15]⟩ 3)) fun w51 =>
 qf.j8 d_0 t3 t5 t7 t9 t11 t15 t17 ⟨(some a50),19,19⟩ ((19:Nat):Int) Q w51
def qf.j6 (d_0:OAd) (t3:Sl) (t5:Sl) (t7:OAd) (t9:OAd) (t11:Sl) (t12:Sl) (Q:VWP) (w:World):Prop :=
 Calls Tryz.prog 210 ⟨[.slice t12.a t12.len t12.cap,.int .i64 7]⟩ w fun e52 w53 =>
 ∃ r54:Sl,∃ r55:Int,e52=.returned (.tuple ⟨[.slice r54.a r54.len r54.cap,.int .i64 r55]⟩) ∧
 Calls Tryz.prog 208 ⟨[.slice r54.a r54.len r54.cap,.bool false]⟩ w53 fun e56 w57 =>
 ∃ r58:OAd,∃ r59:Int,e56=.returned (.tuple ⟨[.pointer r58,.int .i64 r59]⟩) ∧
 qf.j7 d_0 t3 t5 t7 t9 t11 r54 r58 Q w57
def qf.j5 (d_0:OAd) (t3:Sl) (t5:Sl) (t7:OAd) (t9:OAd) (t11:Sl) (t12:Sl) (Q:VWP) (w:World):Prop :=
 Calls Tryz.prog 214 ⟨[.slice t12.a t12.len t12.cap]⟩ w fun e60 w61 =>
 ∃ r62:Int,e60=.returned (.int .i64 r62) ∧
 br ((r62:Int) == ((t11.len:Nat):Int)) (
 ixS t11.a t11.len 0 3 fun a63 =>
 ldI .i64 w61 (Addr.add a63 0) fun x64 =>
 lt (IntKind.i64.wrap (x64+1)) fun x65 =>
 (2:Int) ≠ 0 ∧
 lt (Int.tmod x65 2) fun x66 =>
 ixS t12.a t12.len x66 1 fun a67 =>
 ldI .i64 w61 a67 fun x68 =>
 lt (IntKind.i64.wrap (x68+1)) fun x69 =>
 ixS t12.a t12.len x66 1 fun a70 =>
 st w61 a70 (.int .i64 x69) fun w71 =>
 qf.j6 d_0 t3 t5 t7 t9 t11 t12 Q w71) (
 qf.j6 d_0 t3 t5 t7 t9 t11 t12 Q w61)
def qf.b4 (d_0:OAd) (t3:Sl) (t5:Sl) (t7:OAd) (t9:OAd) (t11:Sl) (t12 t62:Sl) (t63:Int) (t64:Int) (Q:VWP) (nx4:OAd→Sl→Sl→OAd→OAd→Sl→Sl→Sl→Int→Int→World→Prop) (w:World):Prop :=
 br (decide ((t64:Int) < t63)) (
 ixS t62.a t62.len t64 3 fun a72 =>
 ldA w a72 3 fun c73 =>
 lt (⟨World.heapSize w,0,none⟩:Addr) fun a74 =>
 lt (World.alloc w (.cells (zc Tryz.prog 307) 307)) fun w75 =>
 (c73).size=3 ∧
 stA w75 a74 c73 fun w76 =>
 ldI .i64 w76 (Addr.add a74 0) fun x77 =>
 ixS t12.a t12.len x77 1 fun a78 =>
 ldI .i64 w76 a78 fun x79 =>
 lt (IntKind.i64.wrap (x79+1)) fun x80 =>
 ixS t12.a t12.len x77 1 fun a81 =>
 st w76 a81 (.int .i64 x80) fun w82 =>
 lt (IntKind.i64.wrap (t64+1)) fun x83 =>
 nx4 d_0 t3 t5 t7 t9 t11 t12 t62 t63 x83 w82) (
 qf.j5 d_0 t3 t5 t7 t9 t11 t12 Q w)
def qf.l4 (d_0:OAd) (t3:Sl) (t5:Sl) (t7:OAd) (t9:OAd) (t11:Sl) (t12 t62:Sl) (t63:Int) (t64:Int) (Q:VWP) (w:World):Prop :=
 ∃ (I:Int→World→Prop) (μ:Int→World→Nat),I t64 w∧∀ t64:Int,∀ w:World,I t64 w→qf.b4 d_0 t3 t5 t7 t9 t11 t12 t62 t63 t64 Q (fun d_0' t3' t5' t7' t9' t11' t12' t62' t63' t64' w'=>(d_0'=d_0∧t3'=t3∧t5'=t5∧t7'=t7∧t9'=t9∧t11'=t11∧t12'=t12∧t62'=t62∧t63'=t63)∧I t64' w'∧μ t64' w' < μ t64 w) w
def qf.j17 (d_0:OAd) (t3:Sl) (t5:Sl) (t7:OAd) (t9:OAd) (t11:Sl) (t12 t62:Sl) (t63:Int) (t64:Int) (Q:VWP) (w:World):Prop :=
 qf.l4 d_0 t3 t5 t7 t9 t11 t12 t62 t63 t64 Q w
def qf.j4 (d_0:OAd) (t3:Sl) (t5:Sl) (t7:OAd) (t9:OAd) (t11:Sl) (t12:Sl) (Q:VWP) (w:World):Prop :=
 qf.j17 d_0 t3 t5 t7 t9 t11 t12 t11 ((t11.len:Nat):Int) 0 Q w
def qf.j3 (d_0:OAd) (t3:Sl) (t5:Sl) (t7:OAd) (t9:OAd) (Q:VWP) (w:World):Prop :=
 lt (⟨World.heapSize w,0,none⟩:Addr) fun a84 =>
 lt (World.alloc w (.cells ⟨[.slice t3.a t3.len t3.cap,.slice t5.a t5.len t5.cap]⟩ 88)) fun w85 =>
 Calls Tryz.prog 213 ⟨[.slice (some a84) 2 2]⟩ w85 fun e86 w87 =>
 ∃ r88:Sl,e86=.returned (.slice r88.a r88.len r88.cap) ∧
 Calls Tryz.prog 212 ⟨[.slice r88.a r88.len r88.cap]⟩ w87 fun e89 w90 =>
 ∃ r91:Sl,e89=.returned (.slice r91.a r91.len r91.cap) ∧
 mkK Tryz.prog 3 w90 19 19 fun s92 w93 =>
 qf.j4 d_0 t3 t5 t7 t9 r91 s92 Q w93
def qf.j2 (d_0:OAd) (t3:Sl) (t5:Sl) (t7:OAd) (Q:VWP) (w:World):Prop :=
 Calls Tryz.prog 208 ⟨[.slice t5.a t5.len t5.cap,.bool true]⟩ w fun e94 w95 =>
 ∃ r96:OAd,∃ r97:Int,e94=.returned (.tuple ⟨[.pointer r96,.int .i64 r97]⟩) ∧
 Calls Tryz.prog 211 ⟨[.slice t3.a t3.len t3.cap,.int .i64 257]⟩ w95 fun e98 w99 =>
 ∃ r100:Sl,e98=.returned (.slice r100.a r100.len r100.cap) ∧
 Calls Tryz.prog 211 ⟨[.slice t5.a t5.len t5.cap,.int .i64 1]⟩ w99 fun e101 w102 =>
 ∃ r103:Sl,e101=.returned (.slice r103.a r103.len r103.cap) ∧
 qf.j3 d_0 r100 r103 t7 r96 Q w102
def qf.j1 (d_0:OAd) (t3:Sl) (Q:VWP) (w:World):Prop :=
 nz d_0 fun a104 =>
 ldL w (Addr.add a104 2) fun x105 =>
 Calls Tryz.prog 210 ⟨[.slice x105.a x105.len x105.cap,.int .i64 15]⟩ w fun e106 w107 =>
 ∃ r108:Sl,∃ r109:Int,e106=.returned (.tuple ⟨[.slice r108.a r108.len r108.cap,.int .i64 r109]⟩) ∧
 Calls Tryz.prog 208 ⟨[.slice t3.a t3.len t3.cap,.bool true]⟩ w107 fun e110 w111 =>
 ∃ r112:OAd,∃ r113:Int,e110=.returned (.tuple ⟨[.pointer r112,.int .i64 r113]⟩) ∧
 qf.j2 d_0 t3 r108 r112 Q w111
def qf (d_0:OAd) (Q:VWP) (w:World):Prop :=
 nz d_0 fun a114 =>
 ldL w (Addr.add a114 1) fun x115 =>
 Calls Tryz.prog 210 ⟨[.slice x115.a x115.len x115.cap,.int .i64 15]⟩ w fun e116 w117 =>
 ∃ r118:Sl,∃ r119:Int,e116=.returned (.tuple ⟨[.slice r118.a r118.len r118.cap,.int .i64 r119]⟩) ∧
 qf.j1 d_0 r118 Q w117
theorem qf.ok (d_0:OAd) (Q:VWP) (w:World) (h:qf d_0 Q w):Calls Tryz.prog 133 ⟨[.pointer d_0]⟩ w (Ret Q):=by
 refine qp [.tmp 2] Tryz.func133 rfl rfl rfl rfl ?_
 refine qfb qpb (fun ρ w=>asP (ρ 0) fun d_0=>asL (ρ 3) fun t3=>qf.j1 d_0 t3 Q w) (Eq.mp (by kernel_rfl) h) ?_
 intro ρ w h
 obtain ⟨d_0,e0,h⟩:=qr h
 obtain ⟨t3,e3,h⟩:=ql h
 refine qb e0 (qb (qa e3 rfl) ?_)
 refine qfb qpb (fun ρ w=>asP (ρ 0) fun d_0=>asL (ρ 3) fun t3=>asL (ρ 5) fun t5=>asP (ρ 7) fun t7=>qf.j2 d_0 t3 t5 t7 Q w) (Eq.mp (by kernel_rfl) h) ?_
 intro ρ w h
 obtain ⟨d_0,e0,h⟩:=qr h
 obtain ⟨t3,e3,h⟩:=ql h
 obtain ⟨t5,e5,h⟩:=ql h
 obtain ⟨t7,e7,h⟩:=qr h
 refine qb e0 (qb (qa e3 rfl) (qb (qa (qa e5 rfl) rfl) (qb (qa (qa (qa e7 rfl) rfl) rfl) ?_)))
 refine qfb qpb (fun ρ w=>asP (ρ 0) fun d_0=>asL (ρ 3) fun t3=>asL (ρ 5) fun t5=>asP (ρ 7) fun t7=>asP (ρ 9) fun t9=>qf.j3 d_0 t3 t5 t7 t9 Q w) (Eq.mp (by kernel_rfl) h) ?_
 intro ρ w h
 obtain ⟨d_0,e0,h⟩:=qr h
 obtain ⟨t3,e3,h⟩:=ql h
 obtain ⟨t5,e5,h⟩:=ql h
 obtain ⟨t7,e7,h⟩:=qr h
 obtain ⟨t9,e9,h⟩:=qr h
 refine qb e0 (qb (qa e3 rfl) (qb (qa (qa e5 rfl) rfl) (qb (qa (qa (qa e7 rfl) rfl) rfl) (qb (qa (qa (qa (qa e9 rfl) rfl) rfl) rfl) ?_))))
 refine qfb qpb (fun ρ w=>asP (ρ 0) fun d_0=>asL (ρ 3) fun t3=>asL (ρ 5) fun t5=>asP (ρ 7) fun t7=>asP (ρ 9) fun t9=>asL (ρ 11) fun t11=>asL (ρ 12) fun t12=>qf.j4 d_0 t3 t5 t7 t9 t11 t12 Q w) (Eq.mp (by kernel_rfl) h) ?_
 intro ρ w h
 obtain ⟨d_0,e0,h⟩:=qr h
 obtain ⟨t3,e3,h⟩:=ql h
 obtain ⟨t5,e5,h⟩:=ql h
 obtain ⟨t7,e7,h⟩:=qr h
 obtain ⟨t9,e9,h⟩:=qr h
 obtain ⟨t11,e11,h⟩:=ql h
 obtain ⟨t12,e12,h⟩:=ql h
 refine qb e0 (qb (qa e3 rfl) (qb (qa (qa e5 rfl) rfl) (qb (qa (qa (qa e7 rfl) rfl) rfl) (qb (qa (qa (qa (qa e9 rfl) rfl) rfl) rfl) (qb (qa (qa (qa (qa (qa e11 rfl) rfl) rfl) rfl) rfl) (qb (qa (qa (qa (qa (qa (qa e12 rfl) rfl) rfl) rfl) rfl) rfl) ?_))))))
 refine qu (fun ρ w=>asP (ρ 0) fun d_0=>asL (ρ 3) fun t3=>asL (ρ 5) fun t5=>asP (ρ 7) fun t7=>asP (ρ 9) fun t9=>asL (ρ 11) fun t11=>asL (ρ 12) fun t12=>qf.j5 d_0 t3 t5 t7 t9 t11 t12 Q w) ?_ ?_
 · skip
   refine qu (fun ρ w=>asP (ρ 0) fun d_0=>asL (ρ 3) fun t3=>asL (ρ 5) fun t5=>asP (ρ 7) fun t7=>asP (ρ 9) fun t9=>asL (ρ 11) fun t11=>asL (ρ 12) fun t12=>asL (ρ 62) fun t62=>asI .i64 (ρ 63) fun t63=>asI .i64 (ρ 64) fun t64=>qf.j17 d_0 t3 t5 t7 t9 t11 t12 t62 t63 t64 Q w) ?_ ?_
   · skip
     exact qg qpb _ (Eq.mp (by kernel_rfl) h)
   · intro ρ w h
     obtain ⟨d_0,e0,h⟩:=qr h
     obtain ⟨t3,e3,h⟩:=ql h
     obtain ⟨t5,e5,h⟩:=ql h
     obtain ⟨t7,e7,h⟩:=qr h
     obtain ⟨t9,e9,h⟩:=qr h
     obtain ⟨t11,e11,h⟩:=ql h
     obtain ⟨t12,e12,h⟩:=ql h
     obtain ⟨t62,e62,h⟩:=ql h
     obtain ⟨t63,e63,h⟩:=qd h
     obtain ⟨t64,e64,h⟩:=qd h
     refine qb e0 (qb (qa e3 rfl) (qb (qa (qa e5 rfl) rfl) (qb (qa (qa (qa e7 rfl) rfl) rfl) (qb (qa (qa (qa (qa e9 rfl) rfl) rfl) rfl) (qb (qa (qa (qa (qa (qa e11 rfl) rfl) rfl) rfl) rfl) (qb (qa (qa (qa (qa (qa (qa e12 rfl) rfl) rfl) rfl) rfl) rfl) (qb (qa (qa (qa (qa (qa (qa (qa e62 rfl) rfl) rfl) rfl) rfl) rfl) rfl) (qb (qa (qa (qa (qa (qa (qa (qa (qa e63 rfl) rfl) rfl) rfl) rfl) rfl) rfl) rfl) (qb (qa (qa (qa (qa (qa (qa (qa (qa (qa e64 rfl) rfl) rfl) rfl) rfl) rfl) rfl) rfl) rfl) ?_)))))))))
     refine qcb ?_
     obtain ⟨I,μ,hI,hr⟩:=h
     refine qlb (α:=Int) (fun s ρ=>ρ 64=.int .i64 s∧ρ 0=.pointer d_0∧ρ 3=.slice t3.a t3.len t3.cap∧ρ 5=.slice t5.a t5.len t5.cap∧ρ 7=.pointer t7∧ρ 9=.pointer t9∧ρ 11=.slice t11.a t11.len t11.cap∧ρ 12=.slice t12.a t12.len t12.cap∧ρ 62=.slice t62.a t62.len t62.cap∧ρ 63=.int .i64 t63) (fun s w=>I s w) (fun s w=>μ s w) t64 ⟨rfl,rfl,rfl,rfl,rfl,rfl,rfl,rfl,rfl,rfl⟩ hI ?_
     rintro t64 ρ w ⟨e64,e0,e3,e5,e7,e9,e11,e12,e62,e63⟩ hI
     have h:=hr t64 w hI
     clear hr
     obtain ⟨nx4,hnx⟩:∃ nx:OAd→Sl→Sl→OAd→OAd→Sl→Sl→Sl→Int→Int→World→Prop,nx=(fun d_0' t3' t5' t7' t9' t11' t12' t62' t63' t64' w'=>(d_0'=d_0∧t3'=t3∧t5'=t5∧t7'=t7∧t9'=t9∧t11'=t11∧t12'=t12∧t62'=t62∧t63'=t63)∧I t64' w'∧μ t64' w' < μ t64 w):=⟨_,rfl⟩
     rw [← hnx] at h
     refine qsb (M:=fun ρ w=>asP (ρ 0) fun d_0=>asL (ρ 3) fun t3=>asL (ρ 5) fun t5=>asP (ρ 7) fun t7=>asP (ρ 9) fun t9=>asL (ρ 11) fun t11=>asL (ρ 12) fun t12=>asL (ρ 62) fun t62=>asI .i64 (ρ 63) fun t63=>asI .i64 (ρ 64) fun t64=>nx4 d_0 t3 t5 t7 t9 t11 t12 t62 t63 t64 w) ?_ (fun ρ w h=>?_)
     · skip
       refine qb e0 (qb (qa e3 rfl) (qb (qa (qa e5 rfl) rfl) (qb (qa (qa (qa e7 rfl) rfl) rfl) (qb (qa (qa (qa (qa e9 rfl) rfl) rfl) rfl) (qb (qa (qa (qa (qa (qa e11 rfl) rfl) rfl) rfl) rfl) (qb (qa (qa (qa (qa (qa (qa e12 rfl) rfl) rfl) rfl) rfl) rfl) (qb (qa (qa (qa (qa (qa (qa (qa e62 rfl) rfl) rfl) rfl) rfl) rfl) rfl) (qb (qa (qa (qa (qa (qa (qa (qa (qa e63 rfl) rfl) rfl) rfl) rfl) rfl) rfl) rfl) (qb (qa (qa (qa (qa (qa (qa (qa (qa (qa e64 rfl) rfl) rfl) rfl) rfl) rfl) rfl) rfl) rfl) ?_)))))))))
       exact qg qpb _ (Eq.mp (by kernel_rfl) h)
     · skip
       obtain ⟨d_0',e0',h⟩:=qr h
       obtain ⟨t3',e3',h⟩:=ql h
       obtain ⟨t5',e5',h⟩:=ql h
       obtain ⟨t7',e7',h⟩:=qr h
       obtain ⟨t9',e9',h⟩:=qr h
       obtain ⟨t11',e11',h⟩:=ql h
       obtain ⟨t12',e12',h⟩:=ql h
       obtain ⟨t62',e62',h⟩:=ql h
       obtain ⟨t63',e63',h⟩:=qd h
       obtain ⟨t64',e64',h⟩:=qd h
       rw [hnx] at h
       obtain ⟨hu,hI2,hμ⟩:=h
       obtain ⟨rfl,rfl,rfl,rfl,rfl,rfl,rfl,rfl,rfl⟩:=hu
       exact ⟨t64',⟨e64',e0',e3',e5',e7',e9',e11',e12',e62',e63'⟩,hI2,hμ⟩
 · intro ρ w h
   obtain ⟨d_0,e0,h⟩:=qr h
   obtain ⟨t3,e3,h⟩:=ql h
   obtain ⟨t5,e5,h⟩:=ql h
   obtain ⟨t7,e7,h⟩:=qr h
   obtain ⟨t9,e9,h⟩:=qr h
   obtain ⟨t11,e11,h⟩:=ql h
   obtain ⟨t12,e12,h⟩:=ql h
   refine qb e0 (qb (qa e3 rfl) (qb (qa (qa e5 rfl) rfl) (qb (qa (qa (qa e7 rfl) rfl) rfl) (qb (qa (qa (qa (qa e9 rfl) rfl) rfl) rfl) (qb (qa (qa (qa (qa (qa e11 rfl) rfl) rfl) rfl) rfl) (qb (qa (qa (qa (qa (qa (qa e12 rfl) rfl) rfl) rfl) rfl) rfl) ?_))))))
   refine qu (fun ρ w=>asP (ρ 0) fun d_0=>asL (ρ 3) fun t3=>asL (ρ 5) fun t5=>asP (ρ 7) fun t7=>asP (ρ 9) fun t9=>asL (ρ 11) fun t11=>asL (ρ 12) fun t12=>qf.j6 d_0 t3 t5 t7 t9 t11 t12 Q w) ?_ ?_
   · skip
     exact qg qpb _ (Eq.mp (by kernel_rfl) h)
   · intro ρ w h
     obtain ⟨d_0,e0,h⟩:=qr h
     obtain ⟨t3,e3,h⟩:=ql h
     obtain ⟨t5,e5,h⟩:=ql h
     obtain ⟨t7,e7,h⟩:=qr h
     obtain ⟨t9,e9,h⟩:=qr h
     obtain ⟨t11,e11,h⟩:=ql h
     obtain ⟨t12,e12,h⟩:=ql h
     refine qb e0 (qb (qa e3 rfl) (qb (qa (qa e5 rfl) rfl) (qb (qa (qa (qa e7 rfl) rfl) rfl) (qb (qa (qa (qa (qa e9 rfl) rfl) rfl) rfl) (qb (qa (qa (qa (qa (qa e11 rfl) rfl) rfl) rfl) rfl) (qb (qa (qa (qa (qa (qa (qa e12 rfl) rfl) rfl) rfl) rfl) rfl) ?_))))))
     refine qfb qpb (fun ρ w=>asP (ρ 0) fun d_0=>asL (ρ 3) fun t3=>asL (ρ 5) fun t5=>asP (ρ 7) fun t7=>asP (ρ 9) fun t9=>asL (ρ 11) fun t11=>asL (ρ 15) fun t15=>asP (ρ 17) fun t17=>qf.j7 d_0 t3 t5 t7 t9 t11 t15 t17 Q w) (Eq.mp (by kernel_rfl) h) ?_
     intro ρ w h
     obtain ⟨d_0,e0,h⟩:=qr h
     obtain ⟨t3,e3,h⟩:=ql h
     obtain ⟨t5,e5,h⟩:=ql h
     obtain ⟨t7,e7,h⟩:=qr h
     obtain ⟨t9,e9,h⟩:=qr h
     obtain ⟨t11,e11,h⟩:=ql h
     obtain ⟨t15,e15,h⟩:=ql h
     obtain ⟨t17,e17,h⟩:=qr h
     refine qb e0 (qb (qa e3 rfl) (qb (qa (qa e5 rfl) rfl) (qb (qa (qa (qa e7 rfl) rfl) rfl) (qb (qa (qa (qa (qa e9 rfl) rfl) rfl) rfl) (qb (qa (qa (qa (qa (qa e11 rfl) rfl) rfl) rfl) rfl) (qb (qa (qa (qa (qa (qa (qa e15 rfl) rfl) rfl) rfl) rfl) rfl) (qb (qa (qa (qa (qa (qa (qa (qa e17 rfl) rfl) rfl) rfl) rfl) rfl) rfl) ?_)))))))
     refine qfb qpb (fun ρ w=>asP (ρ 0) fun d_0=>asL (ρ 3) fun t3=>asL (ρ 5) fun t5=>asP (ρ 7) fun t7=>asP (ρ 9) fun t9=>asL (ρ 11) fun t11=>asL (ρ 15) fun t15=>asP (ρ 17) fun t17=>asL (ρ 19) fun t19=>asI .i64 (ρ 20) fun t20=>qf.j8 d_0 t3 t5 t7 t9 t11 t15 t17 t19 t20 Q w) (Eq.mp (by kernel_rfl) h) ?_
     intro ρ w h
     obtain ⟨d_0,e0,h⟩:=qr h
     obtain ⟨t3,e3,h⟩:=ql h
     obtain ⟨t5,e5,h⟩:=ql h
     obtain ⟨t7,e7,h⟩:=qr h
     obtain ⟨t9,e9,h⟩:=qr h
     obtain ⟨t11,e11,h⟩:=ql h
     obtain ⟨t15,e15,h⟩:=ql h
     obtain ⟨t17,e17,h⟩:=qr h
     obtain ⟨t19,e19,h⟩:=ql h
     obtain ⟨t20,e20,h⟩:=qd h
     refine qb e0 (qb (qa e3 rfl) (qb (qa (qa e5 rfl) rfl) (qb (qa (qa (qa e7 rfl) rfl) rfl) (qb (qa (qa (qa (qa e9 rfl) rfl) rfl) rfl) (qb (qa (qa (qa (qa (qa e11 rfl) rfl) rfl) rfl) rfl) (qb (qa (qa (qa (qa (qa (qa e15 rfl) rfl) rfl) rfl) rfl) rfl) (qb (qa (qa (qa (qa (qa (qa (qa e17 rfl) rfl) rfl) rfl) rfl) rfl) rfl) (qb (qa (qa (qa (qa (qa (qa (qa (qa e19 rfl) rfl) rfl) rfl) rfl) rfl) rfl) rfl) (qb (qa (qa (qa (qa (qa (qa (qa (qa (qa e20 rfl) rfl) rfl) rfl) rfl) rfl) rfl) rfl) rfl) ?_)))))))))
     refine qu (fun ρ w=>asP (ρ 0) fun d_0=>asL (ρ 3) fun t3=>asL (ρ 5) fun t5=>asP (ρ 7) fun t7=>asP (ρ 9) fun t9=>asL (ρ 11) fun t11=>asL (ρ 15) fun t15=>asP (ρ 17) fun t17=>asL (ρ 19) fun t19=>asI .i64 (ρ 20) fun t20=>qf.j9 d_0 t3 t5 t7 t9 t11 t15 t17 t19 t20 Q w) ?_ ?_
     · skip
       refine qcb ?_
       obtain ⟨I,μ,hI,hr⟩:=h
       refine qlb (α:=Int) (fun s ρ=>ρ 20=.int .i64 s∧ρ 0=.pointer d_0∧ρ 3=.slice t3.a t3.len t3.cap∧ρ 5=.slice t5.a t5.len t5.cap∧ρ 7=.pointer t7∧ρ 9=.pointer t9∧ρ 11=.slice t11.a t11.len t11.cap∧ρ 15=.slice t15.a t15.len t15.cap∧ρ 17=.pointer t17∧ρ 19=.slice t19.a t19.len t19.cap) (fun s w=>I s w) (fun s w=>μ s w) t20 ⟨rfl,rfl,rfl,rfl,rfl,rfl,rfl,rfl,rfl,rfl⟩ hI ?_
       rintro t20 ρ w ⟨e20,e0,e3,e5,e7,e9,e11,e15,e17,e19⟩ hI
       have h:=hr t20 w hI
       clear hr
       obtain ⟨nx3,hnx⟩:∃ nx:OAd→Sl→Sl→OAd→OAd→Sl→Sl→OAd→Sl→Int→World→Prop,nx=(fun d_0' t3' t5' t7' t9' t11' t15' t17' t19' t20' w'=>(d_0'=d_0∧t3'=t3∧t5'=t5∧t7'=t7∧t9'=t9∧t11'=t11∧t15'=t15∧t17'=t17∧t19'=t19)∧I t20' w'∧μ t20' w' < μ t20 w):=⟨_,rfl⟩
       rw [← hnx] at h
       refine qsb (M:=fun ρ w=>asP (ρ 0) fun d_0=>asL (ρ 3) fun t3=>asL (ρ 5) fun t5=>asP (ρ 7) fun t7=>asP (ρ 9) fun t9=>asL (ρ 11) fun t11=>asL (ρ 15) fun t15=>asP (ρ 17) fun t17=>asL (ρ 19) fun t19=>asI .i64 (ρ 20) fun t20=>nx3 d_0 t3 t5 t7 t9 t11 t15 t17 t19 t20 w) ?_ (fun ρ w h=>?_)
       · skip
         refine qb e0 (qb (qa e3 rfl) (qb (qa (qa e5 rfl) rfl) (qb (qa (qa (qa e7 rfl) rfl) rfl) (qb (qa (qa (qa (qa e9 rfl) rfl) rfl) rfl) (qb (qa (qa (qa (qa (qa e11 rfl) rfl) rfl) rfl) rfl) (qb (qa (qa (qa (qa (qa (qa e15 rfl) rfl) rfl) rfl) rfl) rfl) (qb (qa (qa (qa (qa (qa (qa (qa e17 rfl) rfl) rfl) rfl) rfl) rfl) rfl) (qb (qa (qa (qa (qa (qa (qa (qa (qa e19 rfl) rfl) rfl) rfl) rfl) rfl) rfl) rfl) (qb (qa (qa (qa (qa (qa (qa (qa (qa (qa e20 rfl) rfl) rfl) rfl) rfl) rfl) rfl) rfl) rfl) ?_)))))))))
         exact qg qpb _ (Eq.mp (by kernel_rfl) h)
       · skip
         obtain ⟨d_0',e0',h⟩:=qr h
         obtain ⟨t3',e3',h⟩:=ql h
         obtain ⟨t5',e5',h⟩:=ql h
         obtain ⟨t7',e7',h⟩:=qr h
         obtain ⟨t9',e9',h⟩:=qr h
         obtain ⟨t11',e11',h⟩:=ql h
         obtain ⟨t15',e15',h⟩:=ql h
         obtain ⟨t17',e17',h⟩:=qr h
         obtain ⟨t19',e19',h⟩:=ql h
         obtain ⟨t20',e20',h⟩:=qd h
         rw [hnx] at h
         obtain ⟨hu,hI2,hμ⟩:=h
         obtain ⟨rfl,rfl,rfl,rfl,rfl,rfl,rfl,rfl,rfl⟩:=hu
         exact ⟨t20',⟨e20',e0',e3',e5',e7',e9',e11',e15',e17',e19'⟩,hI2,hμ⟩
     · intro ρ w h
       obtain ⟨d_0,e0,h⟩:=qr h
       obtain ⟨t3,e3,h⟩:=ql h
       obtain ⟨t5,e5,h⟩:=ql h
       obtain ⟨t7,e7,h⟩:=qr h
       obtain ⟨t9,e9,h⟩:=qr h
       obtain ⟨t11,e11,h⟩:=ql h
       obtain ⟨t15,e15,h⟩:=ql h
       obtain ⟨t17,e17,h⟩:=qr h
       obtain ⟨t19,e19,h⟩:=ql h
       obtain ⟨t20,e20,h⟩:=qd h
       refine qb e0 (qb (qa e3 rfl) (qb (qa (qa e5 rfl) rfl) (qb (qa (qa (qa e7 rfl) rfl) rfl) (qb (qa (qa (qa (qa e9 rfl) rfl) rfl) rfl) (qb (qa (qa (qa (qa (qa e11 rfl) rfl) rfl) rfl) rfl) (qb (qa (qa (qa (qa (qa (qa e15 rfl) rfl) rfl) rfl) rfl) rfl) (qb (qa (qa (qa (qa (qa (qa (qa e17 rfl) rfl) rfl) rfl) rfl) rfl) rfl) (qb (qa (qa (qa (qa (qa (qa (qa (qa e19 rfl) rfl) rfl) rfl) rfl) rfl) rfl) rfl) (qb (qa (qa (qa (qa (qa (qa (qa (qa (qa e20 rfl) rfl) rfl) rfl) rfl) rfl) rfl) rfl) rfl) ?_)))))))))
       refine qu (fun ρ w=>asP (ρ 0) fun d_0=>asL (ρ 3) fun t3=>asL (ρ 5) fun t5=>asP (ρ 7) fun t7=>asP (ρ 9) fun t9=>asL (ρ 11) fun t11=>asL (ρ 15) fun t15=>asP (ρ 17) fun t17=>asL (ρ 19) fun t19=>asI .i64 (ρ 20) fun t20=>asP (ρ 21) fun t21=>qf.j10 d_0 t3 t5 t7 t9 t11 t15 t17 t19 t20 t21 Q w) ?_ ?_
       · skip
         exact qg qpb _ (Eq.mp (by kernel_rfl) h)
       · intro ρ w h
         obtain ⟨d_0,e0,h⟩:=qr h
         obtain ⟨t3,e3,h⟩:=ql h
         obtain ⟨t5,e5,h⟩:=ql h
         obtain ⟨t7,e7,h⟩:=qr h
         obtain ⟨t9,e9,h⟩:=qr h
         obtain ⟨t11,e11,h⟩:=ql h
         obtain ⟨t15,e15,h⟩:=ql h
         obtain ⟨t17,e17,h⟩:=qr h
         obtain ⟨t19,e19,h⟩:=ql h
         obtain ⟨t20,e20,h⟩:=qd h
         obtain ⟨t21,e21,h⟩:=qr h
         refine qb e0 (qb (qa e3 rfl) (qb (qa (qa e5 rfl) rfl) (qb (qa (qa (qa e7 rfl) rfl) rfl) (qb (qa (qa (qa (qa e9 rfl) rfl) rfl) rfl) (qb (qa (qa (qa (qa (qa e11 rfl) rfl) rfl) rfl) rfl) (qb (qa (qa (qa (qa (qa (qa e15 rfl) rfl) rfl) rfl) rfl) rfl) (qb (qa (qa (qa (qa (qa (qa (qa e17 rfl) rfl) rfl) rfl) rfl) rfl) rfl) (qb (qa (qa (qa (qa (qa (qa (qa (qa e19 rfl) rfl) rfl) rfl) rfl) rfl) rfl) rfl) (qb (qa (qa (qa (qa (qa (qa (qa (qa (qa e20 rfl) rfl) rfl) rfl) rfl) rfl) rfl) rfl) rfl) (qb (qa (qa (qa (qa (qa (qa (qa (qa (qa (qa e21 rfl) rfl) rfl) rfl) rfl) rfl) rfl) rfl) rfl) rfl) ?_))))))))))
         refine qfb qpb (fun ρ w=>asP (ρ 0) fun d_0=>asL (ρ 5) fun t5=>asP (ρ 7) fun t7=>asP (ρ 9) fun t9=>asL (ρ 11) fun t11=>asL (ρ 15) fun t15=>asP (ρ 17) fun t17=>asL (ρ 19) fun t19=>asI .i64 (ρ 20) fun t20=>asP (ρ 21) fun t21=>qf.j11 d_0 t5 t7 t9 t11 t15 t17 t19 t20 t21 Q w) (Eq.mp (by kernel_rfl) h) ?_
         intro ρ w h
         obtain ⟨d_0,e0,h⟩:=qr h
         obtain ⟨t5,e5,h⟩:=ql h
         obtain ⟨t7,e7,h⟩:=qr h
         obtain ⟨t9,e9,h⟩:=qr h
         obtain ⟨t11,e11,h⟩:=ql h
         obtain ⟨t15,e15,h⟩:=ql h
         obtain ⟨t17,e17,h⟩:=qr h
         obtain ⟨t19,e19,h⟩:=ql h
         obtain ⟨t20,e20,h⟩:=qd h
         obtain ⟨t21,e21,h⟩:=qr h
         refine qb e0 (qb (qa e5 rfl) (qb (qa (qa e7 rfl) rfl) (qb (qa (qa (qa e9 rfl) rfl) rfl) (qb (qa (qa (qa (qa e11 rfl) rfl) rfl) rfl) (qb (qa (qa (qa (qa (qa e15 rfl) rfl) rfl) rfl) rfl) (qb (qa (qa (qa (qa (qa (qa e17 rfl) rfl) rfl) rfl) rfl) rfl) (qb (qa (qa (qa (qa (qa (qa (qa e19 rfl) rfl) rfl) rfl) rfl) rfl) rfl) (qb (qa (qa (qa (qa (qa (qa (qa (qa e20 rfl) rfl) rfl) rfl) rfl) rfl) rfl) rfl) (qb (qa (qa (qa (qa (qa (qa (qa (qa (qa e21 rfl) rfl) rfl) rfl) rfl) rfl) rfl) rfl) rfl) ?_)))))))))
         refine qfb qpb (fun ρ w=>asP (ρ 0) fun d_0=>asP (ρ 7) fun t7=>asP (ρ 9) fun t9=>asL (ρ 11) fun t11=>asL (ρ 15) fun t15=>asP (ρ 17) fun t17=>asL (ρ 19) fun t19=>asI .i64 (ρ 20) fun t20=>asP (ρ 21) fun t21=>qf.j12 d_0 t7 t9 t11 t15 t17 t19 t20 t21 Q w) (Eq.mp (by kernel_rfl) h) ?_
         intro ρ w h
         obtain ⟨d_0,e0,h⟩:=qr h
         obtain ⟨t7,e7,h⟩:=qr h
         obtain ⟨t9,e9,h⟩:=qr h
         obtain ⟨t11,e11,h⟩:=ql h
         obtain ⟨t15,e15,h⟩:=ql h
         obtain ⟨t17,e17,h⟩:=qr h
         obtain ⟨t19,e19,h⟩:=ql h
         obtain ⟨t20,e20,h⟩:=qd h
         obtain ⟨t21,e21,h⟩:=qr h
         refine qb e0 (qb (qa e7 rfl) (qb (qa (qa e9 rfl) rfl) (qb (qa (qa (qa e11 rfl) rfl) rfl) (qb (qa (qa (qa (qa e15 rfl) rfl) rfl) rfl) (qb (qa (qa (qa (qa (qa e17 rfl) rfl) rfl) rfl) rfl) (qb (qa (qa (qa (qa (qa (qa e19 rfl) rfl) rfl) rfl) rfl) rfl) (qb (qa (qa (qa (qa (qa (qa (qa e20 rfl) rfl) rfl) rfl) rfl) rfl) rfl) (qb (qa (qa (qa (qa (qa (qa (qa (qa e21 rfl) rfl) rfl) rfl) rfl) rfl) rfl) rfl) ?_))))))))
         refine qu (fun ρ w=>asP (ρ 0) fun d_0=>asP (ρ 7) fun t7=>asP (ρ 9) fun t9=>asL (ρ 11) fun t11=>asP (ρ 17) fun t17=>asP (ρ 21) fun t21=>qf.j13 d_0 t7 t9 t11 t17 t21 Q w) ?_ ?_
         · skip
           refine qu (fun ρ w=>asP (ρ 0) fun d_0=>asP (ρ 7) fun t7=>asP (ρ 9) fun t9=>asL (ρ 11) fun t11=>asL (ρ 15) fun t15=>asP (ρ 17) fun t17=>asP (ρ 21) fun t21=>asL (ρ 140) fun t140=>asI .i64 (ρ 141) fun t141=>asI .i64 (ρ 142) fun t142=>qf.j16 d_0 t7 t9 t11 t15 t17 t21 t140 t141 t142 Q w) ?_ ?_
           · skip
             exact qg qpb _ (Eq.mp (by kernel_rfl) h)
           · intro ρ w h
             obtain ⟨d_0,e0,h⟩:=qr h
             obtain ⟨t7,e7,h⟩:=qr h
             obtain ⟨t9,e9,h⟩:=qr h
             obtain ⟨t11,e11,h⟩:=ql h
             obtain ⟨t15,e15,h⟩:=ql h
             obtain ⟨t17,e17,h⟩:=qr h
             obtain ⟨t21,e21,h⟩:=qr h
             obtain ⟨t140,e140,h⟩:=ql h
             obtain ⟨t141,e141,h⟩:=qd h
             obtain ⟨t142,e142,h⟩:=qd h
             refine qb e0 (qb (qa e7 rfl) (qb (qa (qa e9 rfl) rfl) (qb (qa (qa (qa e11 rfl) rfl) rfl) (qb (qa (qa (qa (qa e15 rfl) rfl) rfl) rfl) (qb (qa (qa (qa (qa (qa e17 rfl) rfl) rfl) rfl) rfl) (qb (qa (qa (qa (qa (qa (qa e21 rfl) rfl) rfl) rfl) rfl) rfl) (qb (qa (qa (qa (qa (qa (qa (qa e140 rfl) rfl) rfl) rfl) rfl) rfl) rfl) (qb (qa (qa (qa (qa (qa (qa (qa (qa e141 rfl) rfl) rfl) rfl) rfl) rfl) rfl) rfl) (qb (qa (qa (qa (qa (qa (qa (qa (qa (qa e142 rfl) rfl) rfl) rfl) rfl) rfl) rfl) rfl) rfl) ?_)))))))))
             refine qcb ?_
             obtain ⟨I,μ,hI,hr⟩:=h
             refine qlb (α:=Int) (fun s ρ=>ρ 142=.int .i64 s∧ρ 0=.pointer d_0∧ρ 7=.pointer t7∧ρ 9=.pointer t9∧ρ 11=.slice t11.a t11.len t11.cap∧ρ 15=.slice t15.a t15.len t15.cap∧ρ 17=.pointer t17∧ρ 21=.pointer t21∧ρ 140=.slice t140.a t140.len t140.cap∧ρ 141=.int .i64 t141) (fun s w=>I s w) (fun s w=>μ s w) t142 ⟨rfl,rfl,rfl,rfl,rfl,rfl,rfl,rfl,rfl,rfl⟩ hI ?_
             rintro t142 ρ w ⟨e142,e0,e7,e9,e11,e15,e17,e21,e140,e141⟩ hI
             have h:=hr t142 w hI
             clear hr
             obtain ⟨nx2,hnx⟩:∃ nx:OAd→OAd→OAd→Sl→Sl→OAd→OAd→Sl→Int→Int→World→Prop,nx=(fun d_0' t7' t9' t11' t15' t17' t21' t140' t141' t142' w'=>(d_0'=d_0∧t7'=t7∧t9'=t9∧t11'=t11∧t15'=t15∧t17'=t17∧t21'=t21∧t140'=t140∧t141'=t141)∧I t142' w'∧μ t142' w' < μ t142 w):=⟨_,rfl⟩
             rw [← hnx] at h
             refine qsb (M:=fun ρ w=>asP (ρ 0) fun d_0=>asP (ρ 7) fun t7=>asP (ρ 9) fun t9=>asL (ρ 11) fun t11=>asL (ρ 15) fun t15=>asP (ρ 17) fun t17=>asP (ρ 21) fun t21=>asL (ρ 140) fun t140=>asI .i64 (ρ 141) fun t141=>asI .i64 (ρ 142) fun t142=>nx2 d_0 t7 t9 t11 t15 t17 t21 t140 t141 t142 w) ?_ (fun ρ w h=>?_)
             · skip
               refine qb e0 (qb (qa e7 rfl) (qb (qa (qa e9 rfl) rfl) (qb (qa (qa (qa e11 rfl) rfl) rfl) (qb (qa (qa (qa (qa e15 rfl) rfl) rfl) rfl) (qb (qa (qa (qa (qa (qa e17 rfl) rfl) rfl) rfl) rfl) (qb (qa (qa (qa (qa (qa (qa e21 rfl) rfl) rfl) rfl) rfl) rfl) (qb (qa (qa (qa (qa (qa (qa (qa e140 rfl) rfl) rfl) rfl) rfl) rfl) rfl) (qb (qa (qa (qa (qa (qa (qa (qa (qa e141 rfl) rfl) rfl) rfl) rfl) rfl) rfl) rfl) (qb (qa (qa (qa (qa (qa (qa (qa (qa (qa e142 rfl) rfl) rfl) rfl) rfl) rfl) rfl) rfl) rfl) ?_)))))))))
               exact qg qpb _ (Eq.mp (by kernel_rfl) h)
             · skip
               obtain ⟨d_0',e0',h⟩:=qr h
               obtain ⟨t7',e7',h⟩:=qr h
               obtain ⟨t9',e9',h⟩:=qr h
               obtain ⟨t11',e11',h⟩:=ql h
               obtain ⟨t15',e15',h⟩:=ql h
               obtain ⟨t17',e17',h⟩:=qr h
               obtain ⟨t21',e21',h⟩:=qr h
               obtain ⟨t140',e140',h⟩:=ql h
               obtain ⟨t141',e141',h⟩:=qd h
               obtain ⟨t142',e142',h⟩:=qd h
               rw [hnx] at h
               obtain ⟨hu,hI2,hμ⟩:=h
               obtain ⟨rfl,rfl,rfl,rfl,rfl,rfl,rfl,rfl,rfl⟩:=hu
               exact ⟨t142',⟨e142',e0',e7',e9',e11',e15',e17',e21',e140',e141'⟩,hI2,hμ⟩
         · intro ρ w h
           obtain ⟨d_0,e0,h⟩:=qr h
           obtain ⟨t7,e7,h⟩:=qr h
           obtain ⟨t9,e9,h⟩:=qr h
           obtain ⟨t11,e11,h⟩:=ql h
           obtain ⟨t17,e17,h⟩:=qr h
           obtain ⟨t21,e21,h⟩:=qr h
           refine qb e0 (qb (qa e7 rfl) (qb (qa (qa e9 rfl) rfl) (qb (qa (qa (qa e11 rfl) rfl) rfl) (qb (qa (qa (qa (qa e17 rfl) rfl) rfl) rfl) (qb (qa (qa (qa (qa (qa e21 rfl) rfl) rfl) rfl) rfl) ?_)))))
           refine qu (fun ρ w=>asP (ρ 0) fun d_0=>asP (ρ 7) fun t7=>asP (ρ 9) fun t9=>asP (ρ 21) fun t21=>qf.j14 d_0 t7 t9 t21 Q w) ?_ ?_
           · skip
             refine qu (fun ρ w=>asP (ρ 0) fun d_0=>asP (ρ 7) fun t7=>asP (ρ 9) fun t9=>asP (ρ 17) fun t17=>asP (ρ 21) fun t21=>asL (ρ 153) fun t153=>asI .i64 (ρ 154) fun t154=>asI .i64 (ρ 155) fun t155=>qf.j15 d_0 t7 t9 t17 t21 t153 t154 t155 Q w) ?_ ?_
             · skip
               exact qg qpb _ (Eq.mp (by kernel_rfl) h)
             · intro ρ w h
               obtain ⟨d_0,e0,h⟩:=qr h
               obtain ⟨t7,e7,h⟩:=qr h
               obtain ⟨t9,e9,h⟩:=qr h
               obtain ⟨t17,e17,h⟩:=qr h
               obtain ⟨t21,e21,h⟩:=qr h
               obtain ⟨t153,e153,h⟩:=ql h
               obtain ⟨t154,e154,h⟩:=qd h
               obtain ⟨t155,e155,h⟩:=qd h
               refine qb e0 (qb (qa e7 rfl) (qb (qa (qa e9 rfl) rfl) (qb (qa (qa (qa e17 rfl) rfl) rfl) (qb (qa (qa (qa (qa e21 rfl) rfl) rfl) rfl) (qb (qa (qa (qa (qa (qa e153 rfl) rfl) rfl) rfl) rfl) (qb (qa (qa (qa (qa (qa (qa e154 rfl) rfl) rfl) rfl) rfl) rfl) (qb (qa (qa (qa (qa (qa (qa (qa e155 rfl) rfl) rfl) rfl) rfl) rfl) rfl) ?_)))))))
               refine qcb ?_
               obtain ⟨I,μ,hI,hr⟩:=h
               refine qlb (α:=Int) (fun s ρ=>ρ 155=.int .i64 s∧ρ 0=.pointer d_0∧ρ 7=.pointer t7∧ρ 9=.pointer t9∧ρ 17=.pointer t17∧ρ 21=.pointer t21∧ρ 153=.slice t153.a t153.len t153.cap∧ρ 154=.int .i64 t154) (fun s w=>I s w) (fun s w=>μ s w) t155 ⟨rfl,rfl,rfl,rfl,rfl,rfl,rfl,rfl⟩ hI ?_
               rintro t155 ρ w ⟨e155,e0,e7,e9,e17,e21,e153,e154⟩ hI
               have h:=hr t155 w hI
               clear hr
               obtain ⟨nx1,hnx⟩:∃ nx:OAd→OAd→OAd→OAd→OAd→Sl→Int→Int→World→Prop,nx=(fun d_0' t7' t9' t17' t21' t153' t154' t155' w'=>(d_0'=d_0∧t7'=t7∧t9'=t9∧t17'=t17∧t21'=t21∧t153'=t153∧t154'=t154)∧I t155' w'∧μ t155' w' < μ t155 w):=⟨_,rfl⟩
               rw [← hnx] at h
               refine qsb (M:=fun ρ w=>asP (ρ 0) fun d_0=>asP (ρ 7) fun t7=>asP (ρ 9) fun t9=>asP (ρ 17) fun t17=>asP (ρ 21) fun t21=>asL (ρ 153) fun t153=>asI .i64 (ρ 154) fun t154=>asI .i64 (ρ 155) fun t155=>nx1 d_0 t7 t9 t17 t21 t153 t154 t155 w) ?_ (fun ρ w h=>?_)
               · skip
                 refine qb e0 (qb (qa e7 rfl) (qb (qa (qa e9 rfl) rfl) (qb (qa (qa (qa e17 rfl) rfl) rfl) (qb (qa (qa (qa (qa e21 rfl) rfl) rfl) rfl) (qb (qa (qa (qa (qa (qa e153 rfl) rfl) rfl) rfl) rfl) (qb (qa (qa (qa (qa (qa (qa e154 rfl) rfl) rfl) rfl) rfl) rfl) (qb (qa (qa (qa (qa (qa (qa (qa e155 rfl) rfl) rfl) rfl) rfl) rfl) rfl) ?_)))))))
                 exact qg qpb _ (Eq.mp (by kernel_rfl) h)
               · skip
                 obtain ⟨d_0',e0',h⟩:=qr h
                 obtain ⟨t7',e7',h⟩:=qr h
                 obtain ⟨t9',e9',h⟩:=qr h
                 obtain ⟨t17',e17',h⟩:=qr h
                 obtain ⟨t21',e21',h⟩:=qr h
                 obtain ⟨t153',e153',h⟩:=ql h
                 obtain ⟨t154',e154',h⟩:=qd h
                 obtain ⟨t155',e155',h⟩:=qd h
                 rw [hnx] at h
                 obtain ⟨hu,hI2,hμ⟩:=h
                 obtain ⟨rfl,rfl,rfl,rfl,rfl,rfl,rfl⟩:=hu
                 exact ⟨t155',⟨e155',e0',e7',e9',e17',e21',e153',e154'⟩,hI2,hμ⟩
           · intro ρ w h
             obtain ⟨d_0,e0,h⟩:=qr h
             obtain ⟨t7,e7,h⟩:=qr h
             obtain ⟨t9,e9,h⟩:=qr h
             obtain ⟨t21,e21,h⟩:=qr h
             refine qb e0 (qb (qa e7 rfl) (qb (qa (qa e9 rfl) rfl) (qb (qa (qa (qa e21 rfl) rfl) rfl) ?_)))
             exact qg qpb _ (Eq.mp (by kernel_rfl) h)
def qgc.j3 (out_6:Sl) (Q:VWP) (w:World):Prop :=
 Q (.slice out_6.a out_6.len out_6.cap) w
def qgc.b1 (k_5:OAd) (t19:Sl) (t20:Int) (out_6:Sl) (t21:Int) (Q:VWP) (nx1:OAd→Sl→Int→Sl→Int→World→Prop) (w:World):Prop :=
 br (decide ((t21:Int) < t20)) (
 ixS t19.a t19.len t21 1 fun a1 =>
 ldV w a1 fun x2 =>
 asFn x2 fun f3 b4 b5 =>
 whenB (plainF Tryz.prog f3) (
 Calls Tryz.prog f3 ⟨(b4.toList ++ [.pointer k_5]) ++ b5.toList⟩ w fun e6 w7 =>
 ∃ r8:Sl,e6=.returned (.slice r8.a r8.len r8.cap) ∧
 br (decide ((((r8.len:Nat):Int):Int) < ((out_6.len:Nat):Int))) (
 lt (IntKind.i64.wrap (t21+1)) fun x9 =>
 nx1 k_5 t19 t20 r8 x9 w7) (
 lt (IntKind.i64.wrap (t21+1)) fun x10 =>
 nx1 k_5 t19 t20 out_6 x10 w7))) (
 qgc.j3 out_6 Q w)
def qgc.l1 (k_5:OAd) (t19:Sl) (t20:Int) (out_6:Sl) (t21:Int) (Q:VWP) (w:World):Prop :=
 ∃ (I:Sl→Int→World→Prop) (μ:Sl→Int→World→Nat),I out_6 t21 w∧∀ out_6:Sl,∀ t21:Int,∀ w:World,I out_6 t21 w→qgc.b1 k_5 t19 t20 out_6 t21 Q (fun k_5' t19' t20' out_6' t21' w'=>(k_5'=k_5∧t19'=t19∧t20'=t20)∧I out_6' t21' w'∧μ out_6' t21' w' < μ out_6 t21 w) w
def qgc.j4 (k_5:OAd) (out_6:Sl) (t19:Sl) (t20:Int) (t21:Int) (Q:VWP) (w:World):Prop :=
 qgc.l1 k_5 t19 t20 out_6 t21 Q w
def qgc.j2 (k_5:OAd) (out_6:Sl) (Q:VWP) (w:World):Prop :=
 lt (⟨World.heapSize w,0,none⟩:Addr) fun a11 =>
 lt (World.alloc w (.cells ⟨[.func (.func 132) ⟨[]⟩ ⟨[]⟩,.func (.func 133) ⟨[]⟩ ⟨[]⟩]⟩ 220)) fun w12 =>
 qgc.j4 k_5 out_6 ⟨(some a11),2,2⟩ ((2:Nat):Int) 0 Q w12
def qgc.j1 (b_0:Sl) (effort_1:Int) (Q:VWP) (w:World):Prop :=
 Calls Tryz.prog 130 ⟨[.slice b_0.a b_0.len b_0.cap,.int .i64 effort_1]⟩ w fun e13 w14 =>
 ∃ r15:Sl,e13=.returned (.slice r15.a r15.len r15.cap) ∧
 Calls Tryz.prog 129 ⟨[.slice r15.a r15.len r15.cap]⟩ w14 fun e16 w17 =>
 ∃ r18:OAd,e16=.returned (.pointer r18) ∧
 Calls Tryz.prog 131 ⟨[.slice b_0.a b_0.len b_0.cap]⟩ w17 fun e19 w20 =>
 ∃ r21:Sl,e19=.returned (.slice r21.a r21.len r21.cap) ∧
 qgc.j2 r18 r21 Q w20
def qgc (b_0:Sl) (effort_1:Int) (Q:VWP) (w:World):Prop :=
 br (decide ((((b_0.len:Nat):Int):Int) > 262144)) (
 Q (.slice none 0 0) w) (
 qgc.j1 b_0 effort_1 Q w)
theorem qgc.ok (b_0:Sl) (effort_1:Int) (Q:VWP) (w:World) (h:qgc b_0 effort_1 Q w):Calls Tryz.prog 46 ⟨[.slice b_0.a b_0.len b_0.cap,.int .i64 effort_1]⟩ w (Ret Q):=by
 refine qp [.tmp 4] Tryz.func46 rfl rfl rfl rfl ?_
 refine qfb qpb (fun ρ w=>asL (ρ 0) fun b_0=>asI .i64 (ρ 1) fun effort_1=>qgc.j1 b_0 effort_1 Q w) (Eq.mp (by kernel_rfl) h) ?_
 intro ρ w h
 obtain ⟨b_0,e0,h⟩:=ql h
 obtain ⟨effort_1,e1,h⟩:=qd h
 refine qb e0 (qb (qa e1 rfl) ?_)
 refine qfb qpb (fun ρ w=>asP (ρ 5) fun k_5=>asL (ρ 6) fun out_6=>qgc.j2 k_5 out_6 Q w) (Eq.mp (by kernel_rfl) h) ?_
 intro ρ w h
 obtain ⟨k_5,e5,h⟩:=qr h
 obtain ⟨out_6,e6,h⟩:=ql h
 refine qb e5 (qb (qa e6 rfl) ?_)
 refine qu (fun ρ w=>asL (ρ 6) fun out_6=>qgc.j3 out_6 Q w) ?_ ?_
 · skip
   refine qu (fun ρ w=>asP (ρ 5) fun k_5=>asL (ρ 6) fun out_6=>asL (ρ 19) fun t19=>asI .i64 (ρ 20) fun t20=>asI .i64 (ρ 21) fun t21=>qgc.j4 k_5 out_6 t19 t20 t21 Q w) ?_ ?_
   · skip
     exact qg qpb _ (Eq.mp (by kernel_rfl) h)
   · intro ρ w h
     obtain ⟨k_5,e5,h⟩:=qr h
     obtain ⟨out_6,e6,h⟩:=ql h
     obtain ⟨t19,e19,h⟩:=ql h
     obtain ⟨t20,e20,h⟩:=qd h
     obtain ⟨t21,e21,h⟩:=qd h
     refine qb e5 (qb (qa e6 rfl) (qb (qa (qa e19 rfl) rfl) (qb (qa (qa (qa e20 rfl) rfl) rfl) (qb (qa (qa (qa (qa e21 rfl) rfl) rfl) rfl) ?_))))
     refine qcb ?_
     obtain ⟨I,μ,hI,hr⟩:=h
     refine qlb (α:=Sl × Int) (fun s ρ=>ρ 6=.slice s.1.a s.1.len s.1.cap∧ρ 21=.int .i64 s.2∧ρ 5=.pointer k_5∧ρ 19=.slice t19.a t19.len t19.cap∧ρ 20=.int .i64 t20) (fun s w=>I s.1 s.2 w) (fun s w=>μ s.1 s.2 w) (out_6,t21) ⟨rfl,rfl,rfl,rfl,rfl⟩ hI ?_
     rintro ⟨out_6,t21⟩ ρ w ⟨e6,e21,e5,e19,e20⟩ hI
     have h:=hr out_6 t21 w hI
     clear hr
     obtain ⟨nx1,hnx⟩:∃ nx:OAd→Sl→Int→Sl→Int→World→Prop,nx=(fun k_5' t19' t20' out_6' t21' w'=>(k_5'=k_5∧t19'=t19∧t20'=t20)∧I out_6' t21' w'∧μ out_6' t21' w' < μ out_6 t21 w):=⟨_,rfl⟩
     rw [← hnx] at h
     refine qsb (M:=fun ρ w=>asP (ρ 5) fun k_5=>asL (ρ 19) fun t19=>asI .i64 (ρ 20) fun t20=>asL (ρ 6) fun out_6=>asI .i64 (ρ 21) fun t21=>nx1 k_5 t19 t20 out_6 t21 w) ?_ (fun ρ w h=>?_)
     · skip
       refine qb e5 (qb (qa e6 rfl) (qb (qa (qa e19 rfl) rfl) (qb (qa (qa (qa e20 rfl) rfl) rfl) (qb (qa (qa (qa (qa e21 rfl) rfl) rfl) rfl) ?_))))
       exact qg qpb _ (Eq.mp (by kernel_rfl) h)
     · skip
       obtain ⟨k_5',e5',h⟩:=qr h
       obtain ⟨t19',e19',h⟩:=ql h
       obtain ⟨t20',e20',h⟩:=qd h
       obtain ⟨out_6',e6',h⟩:=ql h
       obtain ⟨t21',e21',h⟩:=qd h
       rw [hnx] at h
       obtain ⟨hu,hI2,hμ⟩:=h
       obtain ⟨rfl,rfl,rfl⟩:=hu
       exact ⟨(out_6',t21'),⟨e6',e21',e5',e19',e20'⟩,hI2,hμ⟩
 · intro ρ w h
   obtain ⟨out_6,e6,h⟩:=ql h
   refine qb e6 ?_
   exact qg qpb _ (Eq.mp (by kernel_rfl) h)
def qag (b_0:Sl) (effort_1:Int) (Q:VWP) (w:World):Prop :=
 br (decide ((((b_0.len:Nat):Int):Int) > 262144)) (
 Q (.slice none 0 0) w) (
 lt (⟨World.heapSize w,0,none⟩:Addr) fun a1 =>
 lt (World.alloc w (.cells ⟨[.int .u8 120,.int .u8 156]⟩ 5)) fun w2 =>
 Calls Tryz.prog 46 ⟨[.slice b_0.a b_0.len b_0.cap,.int .i64 effort_1]⟩ w2 fun e3 w4 =>
 ∃ r5:Sl,e3=.returned (.slice r5.a r5.len r5.cap) ∧
 rdO w4 r5.a (r5.len * 1) fun c6 =>
 apK Tryz.prog 5 w4 (some a1) 2 2 r5.len c6 fun s7 w8 =>
 Calls Tryz.prog 127 ⟨[.slice b_0.a b_0.len b_0.cap]⟩ w8 fun e9 w10 =>
 ∃ r11:Int,e9=.returned (.int .u32 r11) ∧
 lt (IntKind.i64.wrap r11) fun x12 =>
 Calls Tryz.prog 74 ⟨[.slice s7.a s7.len s7.cap,.int .i64 x12]⟩ w10 fun e13 w14 =>
 ∃ r15:Sl,e13=.returned (.slice r15.a r15.len r15.cap) ∧
 Q (.slice r15.a r15.len r15.cap) w14)
theorem qag.ok (b_0:Sl) (effort_1:Int) (Q:VWP) (w:World) (h:qag b_0 effort_1 Q w):Calls Tryz.prog 45 ⟨[.slice b_0.a b_0.len b_0.cap,.int .i64 effort_1]⟩ w (Ret Q):=by
 refine qp [.tmp 4] Tryz.func45 rfl rfl rfl rfl ?_
 exact qg qpb _ (Eq.mp (by kernel_rfl) h)
def qje (d_0:Sl) (i_1:Int) (Q:VWP) (w:World):Prop :=
 br (decide ((((d_0.len:Nat):Int):Int) < 2)) (
 Q (.tuple ⟨[.slice none 0 0,.int .i64 0,.int .i64 3]⟩) w) (
 lt (World.drew w) fun w1 =>
 ixS d_0.a d_0.len 0 1 fun a2 =>
 ldI .u8 w1 a2 fun x3 =>
 lt (andV .u8 x3 15) fun x4 =>
 br ((x4:Int) != 8) (
 Q (.tuple ⟨[.slice none 0 0,.int .i64 0,.int .i64 2]⟩) w1) (
 ixS d_0.a d_0.len 0 1 fun a5 =>
 ldI .u8 w1 a5 fun x6 =>
 (0:Int)≤4 ∧
 lt (shrV .u8 x6 4) fun x7 =>
 br (decide ((x7:Int) > 7)) (
 Q (.tuple ⟨[.slice none 0 0,.int .i64 0,.int .i64 2]⟩) w1) (
 ixS d_0.a d_0.len 0 1 fun a8 =>
 ldI .u8 w1 a8 fun x9 =>
 lt (IntKind.i64.wrap x9) fun x10 =>
 (0:Int)≤8 ∧
 lt (qpi .i64 x10 8) fun x11 =>
 ixS d_0.a d_0.len 1 1 fun a12 =>
 ldI .u8 w1 a12 fun x13 =>
 lt (IntKind.i64.wrap x13) fun x14 =>
 lt (orV .i64 x11 x14) fun x15 =>
 (31:Int) ≠ 0 ∧
 lt (Int.tmod x15 31) fun x16 =>
 br ((x16:Int) != 0) (
 Q (.tuple ⟨[.slice none 0 0,.int .i64 0,.int .i64 2]⟩) w1) (
 ixS d_0.a d_0.len 1 1 fun a17 =>
 ldI .u8 w1 a17 fun x18 =>
 lt (andV .u8 x18 32) fun x19 =>
 br ((x19:Int) != 0) (
 Q (.tuple ⟨[.slice none 0 0,.int .i64 0,.int .i64 2]⟩) w1) (
 bd 2 d_0.len fun n20 =>
 lt (⟨qwf d_0.a d_0.cap n20 1,d_0.len - n20,d_0.cap - n20⟩:Sl) fun s21 =>
 Calls Tryz.prog 123 ⟨[.slice s21.a s21.len s21.cap,.int .i64 i_1]⟩ w1 fun e22 w23 =>
 ∃ r24:Sl,∃ r25:Int,∃ r26:Int,e22=.returned (.tuple ⟨[.slice r24.a r24.len r24.cap,.int .i64 r25,.int .i64 r26]⟩) ∧
 br ((r26:Int) != 0) (
 Q (.tuple ⟨[.slice none 0 0,.int .i64 0,.int .i64 r26]⟩) w23) (
 lt (IntKind.i64.wrap (2+r25)) fun x27 =>
 bd x27 d_0.len fun n28 =>
 lt (⟨qwf d_0.a d_0.cap n28 1,d_0.len - n28,d_0.cap - n28⟩:Sl) fun s29 =>
 Calls Tryz.prog 124 ⟨[.slice s29.a s29.len s29.cap]⟩ w23 fun e30 w31 =>
 ∃ r32:OAd,e30=.returned (.pointer r32) ∧
 Calls Tryz.prog 125 ⟨[.pointer r32]⟩ w31 fun e33 w34 =>
 ∃ r35:Int,e33=.returned (.int .i64 r35) ∧
 Calls Tryz.prog 126 ⟨[.pointer r32]⟩ w34 fun e36 w37 =>
 ∃ r38:Int,e36=.returned (.int .i64 r38) ∧
 br ((r38:Int) != 0) (
 Q (.tuple ⟨[.slice none 0 0,.int .i64 0,.int .i64 3]⟩) w37) (
 lt (IntKind.u32.wrap r35) fun x39 =>
 Calls Tryz.prog 127 ⟨[.slice r24.a r24.len r24.cap]⟩ w37 fun e40 w41 =>
 ∃ r42:Int,e40=.returned (.int .u32 r42) ∧
 br ((x39:Int) != r42) (
 Q (.tuple ⟨[.slice none 0 0,.int .i64 0,.int .i64 4]⟩) w41) (
 lt (IntKind.i64.wrap (2+r25)) fun x43 =>
 lt (IntKind.i64.wrap (x43+4)) fun x44 =>
 Q (.tuple ⟨[.slice r24.a r24.len r24.cap,.int .i64 x44,.int .i64 0]⟩) w41))))))))
theorem qje.ok (d_0:Sl) (i_1:Int) (Q:VWP) (w:World) (h:qje d_0 i_1 Q w):Calls Tryz.prog 43 ⟨[.slice d_0.a d_0.len d_0.cap,.int .i64 i_1]⟩ w (Ret Q):=by
 refine qp [.tmp 4,.tmp 5,.tmp 6] Tryz.func43 rfl rfl rfl rfl ?_
 exact qg qpb _ (Eq.mp (by kernel_rfl) h)
end Go.Proofs.YthdmmmfgjmmelaaGreat
namespace Go.Proofs.YthdmmmfgjmmelaaGreat
open Go Go.Proofs
set_option linter.unusedVariables false
set_option maxRecDepth 100000
def qce (d_0:Sl) (i_1:Int) (Q:VWP) (w:World):Prop :=
 br (decide ((((d_0.len:Nat):Int):Int) < 2)) (
 Q (.tuple ⟨[.slice none 0 0,.int .i64 0,.int .i64 3]⟩) w) (
 lt (World.drew w) fun w1 =>
 ixS d_0.a d_0.len 0 1 fun a2 =>
 ldI .u8 w1 a2 fun x3 =>
 lt (andV .u8 x3 15) fun x4 =>
 br ((x4:Int) != 8) (
 Q (.tuple ⟨[.slice none 0 0,.int .i64 0,.int .i64 2]⟩) w1) (
 ixS d_0.a d_0.len 0 1 fun a5 =>
 ldI .u8 w1 a5 fun x6 =>
 (0:Int)≤4 ∧
 lt (shrV .u8 x6 4) fun x7 =>
 br (decide ((x7:Int) > 7)) (
 Q (.tuple ⟨[.slice none 0 0,.int .i64 0,.int .i64 2]⟩) w1) (
 ixS d_0.a d_0.len 0 1 fun a8 =>
 ldI .u8 w1 a8 fun x9 =>
 lt (IntKind.i64.wrap x9) fun x10 =>
 (0:Int)≤8 ∧
 lt (qpi .i64 x10 8) fun x11 =>
 ixS d_0.a d_0.len 1 1 fun a12 =>
 ldI .u8 w1 a12 fun x13 =>
 lt (IntKind.i64.wrap x13) fun x14 =>
 lt (orV .i64 x11 x14) fun x15 =>
 (31:Int) ≠ 0 ∧
 lt (Int.tmod x15 31) fun x16 =>
 br ((x16:Int) != 0) (
 Q (.tuple ⟨[.slice none 0 0,.int .i64 0,.int .i64 2]⟩) w1) (
 ixS d_0.a d_0.len 1 1 fun a17 =>
 ldI .u8 w1 a17 fun x18 =>
 lt (andV .u8 x18 32) fun x19 =>
 br ((x19:Int) != 0) (
 Q (.tuple ⟨[.slice none 0 0,.int .i64 0,.int .i64 2]⟩) w1) (
 bd 2 d_0.len fun n20 =>
 lt (⟨qwf d_0.a d_0.cap n20 1,d_0.len - n20,d_0.cap - n20⟩:Sl) fun s21 =>
 Calls Tryz.prog 47 ⟨[.slice s21.a s21.len s21.cap,.int .i64 i_1]⟩ w1 fun e22 w23 =>
 ∃ r24:Sl,∃ r25:Int,∃ r26:Int,e22=.returned (.tuple ⟨[.slice r24.a r24.len r24.cap,.int .i64 r25,.int .i64 r26]⟩) ∧
 br ((r26:Int) != 0) (
 Q (.tuple ⟨[.slice none 0 0,.int .i64 0,.int .i64 r26]⟩) w23) (
 lt (IntKind.i64.wrap (r25+2)) fun x27 =>
 lt (IntKind.i64.wrap (((d_0.len:Nat):Int) - x27)) fun x28 =>
 br (decide ((x28:Int) < 4)) (
 Q (.tuple ⟨[.slice none 0 0,.int .i64 0,.int .i64 3]⟩) w23) (
 lt (World.drew w23) fun w29 =>
 ixS d_0.a d_0.len x27 1 fun a30 =>
 ldI .u8 w29 a30 fun x31 =>
 lt (IntKind.u32.wrap x31) fun x32 =>
 (0:Int)≤24 ∧
 lt (qpi .u32 x32 24) fun x33 =>
 lt (IntKind.i64.wrap (x27+1)) fun x34 =>
 ixS d_0.a d_0.len x34 1 fun a35 =>
 ldI .u8 w29 a35 fun x36 =>
 lt (IntKind.u32.wrap x36) fun x37 =>
 (0:Int)≤16 ∧
 lt (qpi .u32 x37 16) fun x38 =>
 lt (orV .u32 x33 x38) fun x39 =>
 lt (IntKind.i64.wrap (x27+2)) fun x40 =>
 ixS d_0.a d_0.len x40 1 fun a41 =>
 ldI .u8 w29 a41 fun x42 =>
 lt (IntKind.u32.wrap x42) fun x43 =>
 (0:Int)≤8 ∧
 lt (qpi .u32 x43 8) fun x44 =>
 lt (orV .u32 x39 x44) fun x45 =>
 lt (IntKind.i64.wrap (x27+3)) fun x46 =>
 ixS d_0.a d_0.len x46 1 fun a47 =>
 ldI .u8 w29 a47 fun x48 =>
 lt (IntKind.u32.wrap x48) fun x49 =>
 lt (orV .u32 x45 x49) fun x50 =>
 Calls Tryz.prog 128 ⟨[.slice r24.a r24.len r24.cap]⟩ w29 fun e51 w52 =>
 ∃ r53:Int,e51=.returned (.int .u32 r53) ∧
 br ((x50:Int) != r53) (
 Q (.tuple ⟨[.slice none 0 0,.int .i64 0,.int .i64 4]⟩) w52) (
 lt (IntKind.i64.wrap (x27+4)) fun x54 =>
 Q (.tuple ⟨[.slice r24.a r24.len r24.cap,.int .i64 x54,.int .i64 0]⟩) w52))))))))
theorem qce.ok (d_0:Sl) (i_1:Int) (Q:VWP) (w:World) (h:qce d_0 i_1 Q w):Calls Tryz.prog 44 ⟨[.slice d_0.a d_0.len d_0.cap,.int .i64 i_1]⟩ w (Ret Q):=by
 refine qp [.tmp 4,.tmp 5,.tmp 6] Tryz.func44 rfl rfl rfl rfl ?_
 exact qg qpb _ (Eq.mp (by kernel_rfl) h)
end Go.Proofs.YthdmmmfgjmmelaaGreat
namespace Go.Proofs.YthdmmmfgjmmelaaGreat
open Go Go.Proofs
set_option linter.unusedVariables false
set_option linter.unusedSimpArgs false
attribute [local irreducible] apK cpK mkK br
def adS (p:Int × Int) (b:Int):Int × Int:=((p.1+b) % 65521,(p.2+(p.1+b) % 65521) % 65521)
def adP (xs:List Int):Int × Int:=xs.foldl adS (1,0)
def adV (xs:List Int):Int:=(adP xs).2 * 65536+(adP xs).1
theorem qnn (xs:List Int) (x:Int):adP (xs ++ [x])=adS (adP xs) x:=by simp [adP]
theorem adP_b:∀ xs:List Int,0≤(adP xs).1∧(adP xs).1 < 65521∧0≤(adP xs).2∧(adP xs).2 < 65521:=by
 refine qlk ?_ ?_
 · simp [adP]
 · intro xs x ih
   rw [qnn]
   unfold adS
   simp only
   omega
theorem adV_b (xs:List Int):0≤adV xs∧adV xs < 4294967296:=by
 have:=adP_b xs
 unfold adV
 omega
theorem adV_or (xs:List Int):orV .u32 (qpi .u32 (adP xs).2 16) (adP xs).1=adV xs:=by
 have hb:=adP_b xs
 unfold adV
 obtain ⟨x,hx⟩:∃ x:Nat,(adP xs).1=x:=⟨(adP xs).1.toNat,by omega⟩
 obtain ⟨y,hy⟩:∃ y:Nat,(adP xs).2=y:=⟨(adP xs).2.toNat,by omega⟩
 rw [hx,hy] at hb ⊢
 have h1:=shlV_u (k:=.u32) rfl (x:=y) (t:=16) (by decide) (by show y * 65536 < 4294967296; omega)
 have e16:(2:Int) ^ 16=65536:=by decide
 rw [e16] at h1
 rw [show ((16:Nat):Int)=16 from rfl] at h1
 rw [h1]
 have h2:=orV_uadd (k:=.u32) rfl (a:=x) (b:=y) (t:=16) (by show x < 65536; omega) (by show x+y * 65536 < 4294967296; omega)
 rw [e16] at h2
 have hc:orV .u32 ((y:Int) * 65536) (x:Int)=orV .u32 (x:Int) ((y:Int) * 65536):=by
  unfold orV
  rw [BitVec.or_comm]
 rw [hc,h2]
 omega
section
variable {F0:List Nat} {w0 w:World} {ps rest:List As} {s:Sl} {xs:List Int}
theorem qli.c {K:Ending→World→Prop} (h:St F0 w0 w ps) [Rdb F0 w0 s ps 1 (u8s xs)] (hx:∀ x ∈ xs,0≤x∧x < 256) (hL:xs.length≤1000000000)
 (hk:∀ w',St F0 w0 w' ps→K (.returned (.int .u32 (adV xs))) w'):Calls Tryz.prog 127 ⟨[.slice s.a s.len s.cap]⟩ w K:=by
 have hl:=(h.rdb s).1
 rw [qx] at hl
 refine qnc (qli.ok _ _ _ ?_)
 unfold qli
 refine qnc (qsc.ok _ _ _ _ ?_)
 unfold qsc
 refine qw (show _=(1:Int) by decide) ⟨by decide,qw (show _=(0:Int) by decide) ?_⟩
 unfold qsc.j1 qsc.j3
 refine loop3 (fun (i:Nat) (x y i':Int) w'=>i'=i∧i≤xs.length∧x=(adP (xs.take i)).1∧y=(adP (xs.take i)).2∧St F0 w0 w' ps) (fun i=>xs.length - i) 0 ⟨rfl,by omega,rfl,rfl,h⟩ ?_
 clear h
 rintro i x y i' wL I μ ⟨rfl,hi,rfl,rfl,h⟩ hin
 have hb:=adP_b (xs.take i)
 unfold qsc.b1
 refine qxc (fun g=>?_) (fun g=>?_)
 · have hix:i < xs.length:=by omega
   have hxi:=hx _ (qde hix)
   refine h.lx (s:=s) i rfl hix ?_
   refine qw (show IntKind.u32.wrap (xs.getD i 0)=xs.getD i 0 by rw [qlj]; omega) ?_
   refine qw (show IntKind.u32.wrap _=(adP (xs.take i)).1+xs.getD i 0 by rw [qlj]; omega) ⟨by decide,?_⟩
   refine qw (qqm (by omega)) ?_
   refine qw (show IntKind.u32.wrap _=(adP (xs.take i)).2+((adP (xs.take i)).1+xs.getD i 0) % 65521 by rw [qlj]; omega) ⟨by decide,?_⟩
   refine qw (qqm (by omega)) ?_
   refine qw (qi (by omega) (by omega)) ?_
   refine ⟨⟨rfl,rfl⟩,hin (i+1) _ _ _ _ ⟨by omega,by omega,?_,?_,h⟩ (by omega)⟩
   · rw [qhi hix,qnn]; rfl
   · rw [qhi hix,qnn]; rfl
 · have:i=xs.length:=by omega
   subst this
   rw [List.take_length]
   unfold qsc.j2
   refine ⟨by decide,qwh (qw (adV_or xs) ⟨_,rfl,hk wL h⟩)⟩
theorem qeg.c {K:Ending→World→Prop} (h:St F0 w0 w ps) [Rdb F0 w0 s ps 1 (u8s xs)] (hx:∀ x ∈ xs,0≤x∧x < 256) (hL:xs.length≤1000000000)
 (hk:∀ w',St F0 w0 w' ps→K (.returned (.int .u32 (adV xs))) w'):Calls Tryz.prog 128 ⟨[.slice s.a s.len s.cap]⟩ w K:=by
 have hl:=(h.rdb s).1
 rw [qx] at hl
 refine qnc (qeg.ok _ _ _ ?_)
 unfold qeg
 refine qnc (qrb.ok _ _ _ _ ?_)
 unfold qrb qrb.j1
 refine qw (show _=(1:Int) by decide) ⟨by decide,qw (show _=(0:Int) by decide) ?_⟩
 unfold qrb.j2 qrb.j4
 refine loop3 (fun (i:Nat) (x y i':Int) w'=>i'=i∧i≤xs.length∧x=(adP (xs.take i)).1∧y=(adP (xs.take i)).2∧St F0 w0 w' ps) (fun i=>xs.length - i) 0 ⟨rfl,by omega,rfl,rfl,h⟩ ?_
 clear h
 rintro i x y i' wL I μ ⟨rfl,hi,rfl,rfl,h⟩ hin
 have hb:=adP_b (xs.take i)
 unfold qrb.b1
 refine qxc (fun g=>?_) (fun g=>?_)
 · have hix:i < xs.length:=by omega
   have hxi:=hx _ (qde hix)
   refine h.lx (s:=s) i rfl hix ?_
   refine qw (show IntKind.u32.wrap (xs.getD i 0)=xs.getD i 0 by rw [qlj]; omega) ?_
   refine qw (show IntKind.u32.wrap _=(adP (xs.take i)).1+xs.getD i 0 by rw [qlj]; omega) ⟨by decide,?_⟩
   refine qw (qqm (by omega)) ?_
   refine qw (show IntKind.u32.wrap _=(adP (xs.take i)).2+((adP (xs.take i)).1+xs.getD i 0) % 65521 by rw [qlj]; omega) ⟨by decide,?_⟩
   refine qw (qqm (by omega)) ?_
   refine qw (qi (by omega) (by omega)) ?_
   refine ⟨rfl,hin (i+1) _ _ _ _ ⟨by omega,by omega,?_,?_,h⟩ (by omega)⟩
   · rw [qhi hix,qnn]; rfl
   · rw [qhi hix,qnn]; rfl
 · have:i=xs.length:=by omega
   subst this
   rw [List.take_length]
   unfold qrb.j3
   refine ⟨by decide,qwh (qw (adV_or xs) ⟨_,rfl,hk wL h⟩)⟩
end
def allZ (z:Z):Prop:=∀ x ∈ z.2.1,0≤x∧x < 256
section
variable {B:List Bool} {most:Int} {z:Z}
theorem qbp {b:Int} (hb:0≤b∧b < 256) (h:allZ z):allZ (qlm most b z):=by
 unfold qlm
 split
 · exact h
 · split
   · exact h
   · intro x hx
     rcases List.mem_append.1 hx with hx | hx
     · exact h x hx
     · rw [List.mem_singleton] at hx
       subst hx
       exact hb
theorem qvj {z':Z} (e:z'.2.1=z.2.1) (h:allZ z):allZ z':=fun x hx=>h x (by rw [← e]; exact hx)
theorem zcp_allZ (d:Int):∀ (n:Nat) (z:Z),allZ z→allZ (zcp most d n z):=by
 intro n
 induction n with
 | zero=>intro z h; exact h
 | succ n ih =>
   intro z h
   rw [zcp]
   split
   · exact h
   · refine ih _ (qbp ?_ h)
     rcases Nat.lt_or_ge (z.2.1.length - d.toNat) z.2.1.length with h1 | h1
     · exact h _ (qde h1)
     · rw [List.getD,List.getElem?_eq_none h1]; decide
theorem zbehind_allZ (dl:List Int) (v:Int) (h:allZ z):allZ (zbehind dl B most v z):=by
 unfold zbehind
 simp only
 refine zcp_allZ _ _ _ ?_
 have e:(qie B (qei (qxi dl B (qie B (qri v).2.1 (zok (qri v).2.2 z)).2).1).2.1 (zok (qei (qxi dl B (qie B (qri v).2.1 (zok (qri v).2.2 z)).2).1).2.2 (qxi dl B (qie B (qri v).2.1 (zok (qri v).2.2 z)).2).2)).2.2.1=z.2.1:=by
  rw [qgd,qjk,qeh,qgd,qjk]
 split
 · exact qvj (z:=z) e h
 · exact qvj (z:=z) e h
theorem zcoded_allZ {ll dl:List Int}:∀ (f:Nat) (z:Z),allZ z→allZ (qzd ll dl B most f z):=by
 intro f
 induction f with
 | zero=>intro z h; exact h
 | succ f ih =>
   intro z h
   rw [qzd]
   split
   · exact h
   · simp only
     have hs:allZ (qxi ll B z).2:=qvj (qeh ll) h
     have hn:=zsym_nn (B:=B) (z:=z) ll
     generalize qxi ll B z=s at hs hn ⊢
     split
     · exact hs
     · split
       · rename_i h2
         exact ih _ (qbp ⟨hn,h2⟩ hs)
       · exact ih _ (zbehind_allZ dl s.1 hs)
theorem zst_allZ:∀ (n:Nat) (z:Z),allZ z→allZ (zst B most n z):=by
 intro n
 induction n with
 | zero=>intro z h; exact h
 | succ n ih =>
   intro z h
   rw [zst]
   have hl:=qqi (B:=B) (z:=z) 8
   rw [show ((2:Int) ^ (8:Int).toNat)=256 by decide] at hl
   exact ih _ (qbp hl (qvj (qgd 8) h))
theorem zblk_allZ {ll dl:List Int} (h:allZ z):allZ (zblk ll dl B most z):=by
 unfold zblk
 simp only
 have e1:allZ (qjg dl (qjg ll (if z.2.2=0∧ll.getD 256 0=0 then qdd 2 z else z))):=by
  refine qvj (z:=z) ?_ h
  rw [qan,qan]
  split <;> rfl
 generalize qjg dl (qjg ll (if z.2.2=0∧ll.getD 256 0=0 then qdd 2 z else z))=z3 at e1 ⊢
 split
 · exact e1
 · exact zcoded_allZ _ _ e1
theorem qel (h:allZ z):allZ (qyc B most z).2:=by
 unfold qyc
 simp only
 have h1:allZ (qie B 1 z).2:=qvj (qgd 1) h
 generalize qie B 1 z=a at h1 ⊢
 have h2:allZ (qie B 2 a.2).2:=qvj (qgd 2) h1
 generalize qie B 2 a.2=k at h2 ⊢
 split
 · exact h2
 · split
   · unfold zstored
     simp only
     have h3:allZ (qie B 16 (8 * ((k.2.1+7) / 8),k.2.2.1,k.2.2.2)).2:=qvj (z:=k.2) (qgd 16) h2
     generalize qie B 16 (8 * ((k.2.1+7) / 8),k.2.2.1,k.2.2.2)=g at h3 ⊢
     have h4:allZ (qie B 16 g.2).2:=qvj (qgd 16) h3
     generalize qie B 16 g.2=g2 at h4 ⊢
     split
     · exact h4
     · split
       · exact h4
       · split
         · exact h4
         · exact zst_allZ _ _ h4
   · split
     · exact zblk_allZ h2
     · split
       · have h5:allZ (qoh B k.2).2:=qvj qxm h2
         generalize qoh B k.2=q at h5 ⊢
         split
         · exact h5
         · exact zblk_allZ h5
       · exact h2
theorem ZAll.allZ {n:Nat} {z z':Z} (h:ZAll B most n z z') (hz:Go.Proofs.YthdmmmfgjmmelaaGreat.allZ z):Go.Proofs.YthdmmmfgjmmelaaGreat.allZ z':=by
 induction h with
 | bad he=>exact qel hz
 | last he hl=>exact qel hz
 | next he hl hr ih=>exact ih (qel hz)
end
theorem zinf_allZ {V N:Nat} {most:Int} {z':Z} (h:zinf V N most z'):allZ z':=by
 obtain ⟨n,h⟩:=h
 exact h.allZ (fun x hx=>by cases hx)
theorem zinf_len {V N:Nat} {most:Int} {z':Z} (h:zinf V N most z') (hm:most≤1000000):z'.2.1.length≤1000000:=by
 obtain ⟨n,h⟩:=h
 exact h.out hm (by simp)
theorem zinf_p {V N:Nat} {most:Int} {z':Z} (h:zinf V N most z'):z'.1≤8 * N:=by
 obtain ⟨n,h⟩:=h
 have hB:(qm (V:Int) (8 * N)).length=8 * N:=qq _ _
 have:∀ {n:Nat} {z z':Z},ZAll (qm (V:Int) (8 * N)) most n z z'→z.1≤8 * N→z'.1≤8 * N:=by
  intro n z z' h
  induction h with
  | bad he=>intro hz; have:=(qcj (most:=most) hB (by rw [hB]; exact hz)).2.1; omega
  | last he hl=>intro hz; have:=(qcj (most:=most) hB (by rw [hB]; exact hz)).2.1; omega
  | next he hl hr ih=>intro hz; have:=(qcj (most:=most) hB (by rw [hB]; exact hz)).2.1; exact ih (by omega)
 exact this h (Nat.zero_le _)
def hdBad (a b:Int):Prop:=andV .u8 a 15 ≠ 8 ∨ 7 < shrV .u8 a 4 ∨ Int.tmod (orV .i64 (qpi .i64 a 8) b) 31 ≠ 0 ∨ andV .u8 b 32 ≠ 0
instance (a b:Int):Decidable (hdBad a b):=inferInstanceAs (Decidable (_ ∨ _))
def unpR (xs:List Int) (z':Z):List Int × Int × Int :=
 if z'.2.2 ≠ 0 then ([],0,z'.2.2) else if xs.length < 2+(z'.1+7) / 8+4 then ([],0,3)
 else if be ((xs.drop (2+(z'.1+7) / 8)).take 4) ≠ adV z'.2.1 then ([],0,4) else (z'.2.1,((2+(z'.1+7) / 8+4:Nat):Int),0)
def Unp (xs:List Int) (most:Int) (r:List Int × Int × Int):Prop :=
 if xs.length < 2 then r=([],0,3) else if hdBad (xs.getD 0 0) (xs.getD 1 0) then r=([],0,2) else if most < 0 ∨ 262144 < most then r=([],0,1)
 else ∃ V z',xs.drop 2=byt V (xs.length - 2)∧zinf V (xs.length - 2) most z'∧r=unpR xs z'
theorem Unp_ex {xs:List Int} (hx:∀ x ∈ xs,0≤x∧x < 256) (most:Int):∃ r,Unp xs most r:=by
 unfold Unp
 split
 · exact ⟨_,rfl⟩
 · split
   · exact ⟨_,rfl⟩
   · split
     · exact ⟨_,rfl⟩
     · obtain ⟨V,hV⟩:=byt_ex (xs.drop 2) (fun x h=>hx x (List.mem_of_mem_drop h))
       rw [List.length_drop] at hV
       obtain ⟨z',hz⟩:=zinf_ex V (xs.length - 2) most
       exact ⟨_,V,z',hV,hz,rfl⟩
section
variable {F0:List Nat} {w0 w:World} {ps rest:List As} {s:Sl} {xs:List Int} {most:Int} {r:List Int × Int × Int}
theorem qje.c {K:Ending→World→Prop} (h:St F0 w0 w ps) [Rdb F0 w0 s ps 1 (u8s xs)] (hx:∀ x ∈ xs,0≤x∧x < 256) (hL:xs.length≤1000000) (hc:s.len≤s.cap) (hr:Unp xs most r)
 (hk:∀ t w',t.len=r.1.length→(∀ x ∈ r.1,0≤x∧x < 256)→St F0 w0 w' (rdA 1 t (u8s r.1) :: ps)→K (.returned (.tuple ⟨[.slice t.a t.len t.cap,.int .i64 r.2.1,.int .i64 r.2.2]⟩)) w'):Calls Tryz.prog 43 ⟨[.slice s.a s.len s.cap,.int .i64 most]⟩ w K:=by
 have hl:=(h.rdb s).1
 rw [qx] at hl
 refine qnc (qje.ok _ _ _ _ ?_)
 unfold qje
 have no:∀ w (e:Int),St F0 w0 w ps→r=([],0,e)→K (.returned (.tuple ⟨[.slice none 0 0,.int .i64 0,.int .i64 e]⟩)) w:=by
  intro w e h er
  subst er
  exact hk ⟨none,0,0⟩ w rfl (fun x hx=>by cases hx) (h.nil 1).ro
 unfold Unp at hr
 refine qxc (fun g=>?_) (fun g=>?_)
 · rw [if_pos (by omega)] at hr
   exact no w 3 h hr
 rw [if_neg (by omega)] at hr
 have b0:=hx _ (qde (xs:=xs) (i:=0) (by omega))
 have b1:=hx _ (qde (xs:=xs) (i:=1) (by omega))
 have bad:∀ w,St F0 w0 w ps→hdBad (xs.getD 0 0) (xs.getD 1 0)→K (.returned (.tuple ⟨[.slice none 0 0,.int .i64 0,.int .i64 2]⟩)) w:=by
  intro w h hb
  rw [if_pos hb] at hr
  exact no w 2 h hr
 refine h.drewK fun w h=>?_
 refine h.lx (s:=s) 0 rfl (by omega) (qwh ?_)
 refine qqe (fun g1=>bad w h (Or.inl (by simpa using g1))) (fun g1=>?_)
 refine h.lx (s:=s) 0 rfl (by omega) ⟨by decide,qwh ?_⟩
 refine qxc (fun g2=>bad w h (Or.inr (Or.inl g2))) (fun g2=>?_)
 refine h.lx (s:=s) 0 rfl (by omega) (qw (qi (by omega) (by omega)) ⟨by decide,qwh ?_⟩)
 refine h.lx (s:=s) 1 rfl (by omega) (qw (qi (by omega) (by omega)) (qwh ⟨by decide,qwh ?_⟩))
 refine qqe (fun g3=>bad w h (Or.inr (Or.inr (Or.inl (by simpa using g3))))) (fun g3=>?_)
 refine h.lx (s:=s) 1 rfl (by omega) (qwh ?_)
 refine qqe (fun g4=>bad w h (Or.inr (Or.inr (Or.inr (by simpa using g4))))) (fun g4=>?_)
 rw [if_neg (fun e=>by
  rcases e with e | e | e | e
  · exact e (by simpa using g1)
  · exact g2 e
  · exact e (by simpa using g3)
  · exact e (by simpa using g4))] at hr
 refine qzo (n:=2) rfl (by omega) (qwh ?_)
 have hm:0≤most→¬ 262144 < most→St F0 w0 w ps→True:=fun _ _ _=>trivial
 by_cases hmo:most < 0 ∨ 262144 < most
 · rw [if_pos hmo] at hr
   refine qnc (qzb.ok _ _ _ _ ?_)
   unfold qzb
   refine qxc (fun g=>⟨⟨none,0,0⟩,_,_,rfl,qci rfl (no w 1 h hr)⟩) (fun g=>?_)
   refine qxc (fun g=>⟨⟨none,0,0⟩,_,_,rfl,qci rfl (no w 1 h hr)⟩) (fun g=>by omega)
 rw [if_neg hmo] at hr
 obtain ⟨V,z',hV,hz,hr⟩:=hr
 haveI:=h.cutR s 2 s.len (s.cap - 2) (ys:=xs.drop 2) (by omega) (by omega) hc (by rw [List.take_of_length_le (by rw [List.length_drop]; omega)])
 rw [hV] at this
 have hzp:=zinf_p hz
 have hzl:=zinf_len hz (by omega)
 have hzb:=zinf_allZ hz
 refine qzb.a (s:=⟨qwf s.a s.cap 2 1,s.len - 2,s.cap - 2⟩) (V:=V) (N:=xs.length - 2) h (by omega) (by omega) (by omega) hz (fun t w e0 ht h=>⟨t,_,_,rfl,qbi rfl ?_⟩) (fun w e0 h=>⟨⟨none,0,0⟩,_,_,rfl,qci (by simpa using e0) ?_⟩)
 rotate_left
 · refine no w _ h ?_
   rw [hr]
   unfold unpR
   rw [if_pos e0]
 unfold unpR at hr
 rw [if_neg (fun e=>e e0)] at hr
 refine qw (qi (by omega) (by omega)) ?_
 refine qzo (n:=2+(z'.1+7) / 8) (by omega) (by omega) (qwh ?_)
 have hdl:(xs.drop (2+(z'.1+7) / 8)).length=xs.length - (2+(z'.1+7) / 8):=List.length_drop
 have hdb:allB (xs.drop (2+(z'.1+7) / 8)):=fun x hx'=>hx x (List.mem_of_mem_drop hx')
 haveI:=h.cutR s (2+(z'.1+7) / 8) s.len (s.cap - (2+(z'.1+7) / 8)) (ys:=xs.drop (2+(z'.1+7) / 8)) (by omega) (by omega) hc (by rw [List.take_of_length_le (by omega)])
 refine qao.c (s:=⟨qwf s.a s.cap (2+(z'.1+7) / 8) 1,s.len - (2+(z'.1+7) / 8),s.cap - (2+(z'.1+7) / 8)⟩) h hdb (by omega) fun nb w h=>⟨_,rfl,?_⟩
 refine qvg.c (rb:=nb) h hdb fun w h=>⟨_,rfl,?_⟩
 refine qwg.c (rb:=nb) h ⟨_,rfl,?_⟩
 have ht4:((xs.drop (2+(z'.1+7) / 8)).take 4).length≤4:=by rw [List.length_take]; omega
 have hbe:=be_lt8 (n:=4) (l:=(xs.drop (2+(z'.1+7) / 8)).take 4) (fun x hx'=>hdb x (List.mem_of_mem_take hx')) ht4
 rw [show ((2:Int) ^ (8 * 4))=4294967296 by decide] at hbe
 by_cases h4:xs.length < 2+(z'.1+7) / 8+4
 · rw [if_pos h4] at hr
   have e:nuS (xs.drop (2+(z'.1+7) / 8)) 0 0 4=(0,0,3):=by
    have et:tkS (xs.drop (2+(z'.1+7) / 8)) 0 0 ((4:Nat):Int)=([],0,3):=by
     unfold tkS
     rw [if_neg (fun e=>by have:=e.2.2; omega)]
     rfl
    unfold nuS
    rw [et]
    rfl
   rw [e]
   refine qci rfl ?_
   exact no w 3 h.drop.drop hr
 · rw [if_neg h4] at hr
   have e:nuS (xs.drop (2+(z'.1+7) / 8)) 0 0 4=(be ((xs.drop (2+(z'.1+7) / 8)).take 4),4,0):=by
    have et:tkS (xs.drop (2+(z'.1+7) / 8)) 0 0 ((4:Nat):Int)=((xs.drop (2+(z'.1+7) / 8)).take 4,4,0):=by
     unfold tkS
     rw [if_pos ⟨rfl,by decide,by omega⟩]
     rfl
    unfold nuS
    rw [et]
    simp only
    rw [if_neg (by omega)]
   rw [e]
   refine qbi rfl ?_
   simp only
   refine qw (show IntKind.u32.wrap _=be ((xs.drop (2+(z'.1+7) / 8)).take 4) by rw [qlj]; omega) ?_
   refine qli.c (s:=t) h hzb (by omega) fun w h=>⟨_,rfl,?_⟩
   refine qqe (fun g=>?_) (fun g=>?_)
   · rw [if_pos (by simpa using g)] at hr
     exact no w 4 h.drop.drop hr
   · rw [if_neg (by simpa using g)] at hr
     refine qw (qi (by omega) (by omega)) ?_
     refine qw (qi (by omega) (by omega)) ?_
     subst hr
     have:=hk t w ht hzb h.drop
     simp only at this
     rw [show 2+(((z'.1+7) / 8:Nat):Int)+4=((2+(z'.1+7) / 8+4:Nat):Int) by omega]
     exact this
theorem qce.c {K:Ending→World→Prop} (h:St F0 w0 w ps) [Rdb F0 w0 s ps 1 (u8s xs)] (hx:∀ x ∈ xs,0≤x∧x < 256) (hL:xs.length≤1000000) (hc:s.len≤s.cap) (hr:Unp xs most r)
 (hk:∀ t w',t.len=r.1.length→(∀ x ∈ r.1,0≤x∧x < 256)→St F0 w0 w' (rdA 1 t (u8s r.1) :: ps)→K (.returned (.tuple ⟨[.slice t.a t.len t.cap,.int .i64 r.2.1,.int .i64 r.2.2]⟩)) w'):Calls Tryz.prog 44 ⟨[.slice s.a s.len s.cap,.int .i64 most]⟩ w K:=by
 have hl:=(h.rdb s).1
 rw [qx] at hl
 refine qnc (qce.ok _ _ _ _ ?_)
 unfold qce
 have no:∀ w (e:Int),St F0 w0 w ps→r=([],0,e)→K (.returned (.tuple ⟨[.slice none 0 0,.int .i64 0,.int .i64 e]⟩)) w:=by
  intro w e h er
  subst er
  exact hk ⟨none,0,0⟩ w rfl (fun x hx=>by cases hx) (h.nil 1).ro
 unfold Unp at hr
 refine qxc (fun g=>?_) (fun g=>?_)
 · rw [if_pos (by omega)] at hr
   exact no w 3 h hr
 rw [if_neg (by omega)] at hr
 have b0:=hx _ (qde (xs:=xs) (i:=0) (by omega))
 have b1:=hx _ (qde (xs:=xs) (i:=1) (by omega))
 have bad:∀ w,St F0 w0 w ps→hdBad (xs.getD 0 0) (xs.getD 1 0)→K (.returned (.tuple ⟨[.slice none 0 0,.int .i64 0,.int .i64 2]⟩)) w:=by
  intro w h hb
  rw [if_pos hb] at hr
  exact no w 2 h hr
 refine h.drewK fun w h=>?_
 refine h.lx (s:=s) 0 rfl (by omega) (qwh ?_)
 refine qqe (fun g1=>bad w h (Or.inl (by simpa using g1))) (fun g1=>?_)
 refine h.lx (s:=s) 0 rfl (by omega) ⟨by decide,qwh ?_⟩
 refine qxc (fun g2=>bad w h (Or.inr (Or.inl g2))) (fun g2=>?_)
 refine h.lx (s:=s) 0 rfl (by omega) (qw (qi (by omega) (by omega)) ⟨by decide,qwh ?_⟩)
 refine h.lx (s:=s) 1 rfl (by omega) (qw (qi (by omega) (by omega)) (qwh ⟨by decide,qwh ?_⟩))
 refine qqe (fun g3=>bad w h (Or.inr (Or.inr (Or.inl (by simpa using g3))))) (fun g3=>?_)
 refine h.lx (s:=s) 1 rfl (by omega) (qwh ?_)
 refine qqe (fun g4=>bad w h (Or.inr (Or.inr (Or.inr (by simpa using g4))))) (fun g4=>?_)
 rw [if_neg (fun e=>by
  rcases e with e | e | e | e
  · exact e (by simpa using g1)
  · exact g2 e
  · exact e (by simpa using g3)
  · exact e (by simpa using g4))] at hr
 refine qzo (n:=2) rfl (by omega) (qwh ?_)
 by_cases hmo:most < 0 ∨ 262144 < most
 · rw [if_pos hmo] at hr
   refine qnc (qtb.ok _ _ _ _ ?_)
   unfold qtb qtb.j1
   refine qxc (fun g=>⟨⟨none,0,0⟩,_,_,rfl,qci rfl (no w 1 h hr)⟩) (fun g=>?_)
   refine qxc (fun g=>⟨⟨none,0,0⟩,_,_,rfl,qci rfl (no w 1 h hr)⟩) (fun g=>by omega)
 rw [if_neg hmo] at hr
 obtain ⟨V,z',hV,hz,hr⟩:=hr
 haveI:=h.cutR s 2 s.len (s.cap - 2) (ys:=xs.drop 2) (by omega) (by omega) hc (by rw [List.take_of_length_le (by rw [List.length_drop]; omega)])
 rw [hV] at this
 have hzp:=zinf_p hz
 have hzl:=zinf_len hz (by omega)
 have hzb:=zinf_allZ hz
 refine qtb.c (s:=⟨qwf s.a s.cap 2 1,s.len - 2,s.cap - 2⟩) (V:=V) (N:=xs.length - 2) h (by omega) (by omega) (by omega) hz (fun t w e0 ht _ h=>⟨t,_,_,rfl,qbi rfl ?_⟩) (fun w e0 h=>⟨⟨none,0,0⟩,_,_,rfl,qci (by simpa using e0) ?_⟩)
 rotate_left
 · refine no w _ h ?_
   rw [hr]
   unfold unpR
   rw [if_pos e0]
 unfold unpR at hr
 rw [if_neg (fun e=>e e0)] at hr
 refine qw (qi (by omega) (by omega)) ?_
 rw [show (((z'.1+7) / 8:Nat):Int)+2=((2+(z'.1+7) / 8:Nat):Int) by omega]
 generalize hn:2+(z'.1+7) / 8=n at hr ⊢
 refine qw (qi (by omega) (by omega)) ?_
 refine qxc (fun g=>?_) (fun g=>?_)
 · rw [if_pos (by omega)] at hr
   exact no w 3 h.drop hr
 rw [if_neg (by omega)] at hr
 have hd:(xs.drop n).take 4=[xs.getD n 0,xs.getD (n+1) 0,xs.getD (n+2) 0,xs.getD (n+3) 0]:=by
  rw [drop_sn (show n < xs.length by omega),drop_sn (show n+1 < xs.length by omega),drop_sn (show n+1+1 < xs.length by omega),drop_sn (show n+1+1+1 < xs.length by omega)]
  rfl
 rw [hd] at hr
 have c0:=hx _ (qde (xs:=xs) (i:=n) (by omega))
 have c1:=hx _ (qde (xs:=xs) (i:=n+1) (by omega))
 have c2:=hx _ (qde (xs:=xs) (i:=n+2) (by omega))
 have c3:=hx _ (qde (xs:=xs) (i:=n+3) (by omega))
 have wu:∀ x:Int,0≤x∧x < 256→IntKind.u32.wrap x=x:=fun x hx=>by rw [qlj]; omega
 refine h.drewK fun w h=>?_
 refine h.lx (s:=s) n rfl (by omega) (qw (wu _ c0) ⟨by decide,qwh ?_⟩)
 refine qw (qi (by omega) (by omega)) ?_
 refine h.lx (s:=s) (n+1) (by omega) (by omega) (qw (wu _ c1) ⟨by decide,qwh (qwh ?_)⟩)
 refine qw (qi (by omega) (by omega)) ?_
 refine h.lx (s:=s) (n+2) (by omega) (by omega) (qw (wu _ c2) ⟨by decide,qwh (qwh ?_)⟩)
 refine qw (qi (by omega) (by omega)) ?_
 refine h.lx (s:=s) (n+3) (by omega) (by omega) (qw (wu _ c3) (qw (word_of c0 c1 c2 c3) ?_))
 refine qeg.c (s:=t) h hzb (by omega) fun w h=>⟨_,rfl,?_⟩
 refine qqe (fun g=>?_) (fun g=>?_)
 · rw [if_pos (by simpa using g)] at hr
   exact no w 4 h.drop hr
 · rw [if_neg (by simpa using g)] at hr
   refine qw (qi (by omega) (by omega)) ?_
   subst hr
   have:=hk t w ht hzb h
   simp only at this
   rw [show (n:Int)+4=((n+4:Nat):Int) by omega]
   exact this
end
end Go.Proofs.YthdmmmfgjmmelaaGreat
namespace Go.Proofs.YthdmmmfgjmmelaaGreat
open Go Go.Proofs
set_option linter.unusedVariables false
set_option linter.unusedSimpArgs false
theorem qqq (V:Nat) (m k:Nat):qm (V:Int) (m+k)=qm (V:Int) m ++ qm ((V / 2 ^ m:Nat):Int) k:=by
 unfold qm
 rw [List.range_add,List.map_append,List.map_map]
 congr 1
 refine List.map_congr_left fun i hi=>?_
 show bt (V:Int) (m+i)=_
 rw [bt_nat,bt_nat,Nat.testBit_div_two_pow,Nat.add_comm]
theorem bitsOf_mod (V:Nat) (k:Nat):qm ((V % 2 ^ k:Nat):Int) k=qm (V:Int) k:=by
 unfold qm
 refine List.map_congr_left fun i hi=>?_
 rw [bt_nat,bt_nat,Nat.testBit_mod_two_pow]
 have:=List.mem_range.1 hi
 simp [this]
theorem bb_byt (V:Nat):∀ N,bb (byt V N)=qm (V:Int) (8 * N):=by
 intro N
 induction N with
 | zero=>rfl
 | succ N ih =>
   rw [qxo,bb_snoc,ih,show 8 * (N+1)=8 * N+8 by omega,qqq]
   congr 1
   exact bitsOf_mod _ 8
theorem bb_append (a b:List Int):bb (a ++ b)=bb a ++ bb b:=by simp [bb]
theorem qdh (D:List Bool):(bytes D).length=(D.length+7) / 8:=qgg _ _
theorem bytes_ok (D:List Bool):∀ x ∈ bytes D,0≤x∧x < 256:=byt_ok _ _
theorem qsr {V N:Nat} {D:List Bool} {t:List Int} (h:byt V N=bytes D ++ t):∃ r,qm (V:Int) (8 * N)=D ++ r:=by
 have e:=bb_byt V N
 rw [h,bb_append] at e
 have e2:bb (bytes D)=qm (val D:Int) (8 * ((D.length+7) / 8)):=bb_byt _ _
 rw [show 8 * ((D.length+7) / 8)=D.length+(8 * ((D.length+7) / 8) - D.length) by omega,qqq,qhm] at e2
 rw [e2,List.append_assoc] at e
 exact ⟨_,e.symm⟩
def frm (xs:List Int) (D:List Bool):List Int:=[120,156] ++ bytes D ++ beJ 4 4 (adV xs)
theorem beJ4_len (v:Int):(beJ 4 4 v).length=4:=by simp [beJ]
theorem qvh (xs:List Int) (D:List Bool):(frm xs D).length=2+(D.length+7) / 8+4:=by
 unfold frm
 rw [List.length_append,List.length_append,qdh,beJ4_len]; rfl
theorem frm_ok (xs:List Int) (D:List Bool):∀ x ∈ frm xs D,0≤x∧x < 256:=by
 intro x hx
 unfold frm at hx
 rcases List.mem_append.1 hx with hx | hx
 · rcases List.mem_append.1 hx with hx | hx
   · have:∀ x ∈ ([120,156]:List Int),0≤x∧x < 256:=by decide
     exact this x hx
   · exact bytes_ok D x hx
 · exact beJ_ok 4 4 _ x hx
theorem unp_gen {xs t:List Int} {D:List Bool} {most:Int} (hD:Dfl xs D) (ht:∀ x ∈ t,0≤x∧x < 256) (h0:0≤most) (h1:most≤262144) :
 ((xs.length:Int)≤most→Unp ([120,156] ++ bytes D ++ t) most (unpR ([120,156] ++ bytes D ++ t) (D.length,xs,0)))∧(most < xs.length→Unp ([120,156] ++ bytes D ++ t) most ([],0,5)):=by
 generalize hy:[120,156] ++ bytes D ++ t=ys
 have hyl:ys.length=2+(bytes D ++ t).length:=by rw [← hy]; simp; omega
 have hyd:ys.drop 2=bytes D ++ t:=by rw [← hy]; rfl
 have e0:ys.getD 0 0=120:=by rw [← hy]; rfl
 have e1:ys.getD 1 0=156:=by rw [← hy]; rfl
 obtain ⟨V,hV⟩:=byt_ex (bytes D ++ t) (fun x hx=>by
  rcases List.mem_append.1 hx with hx | hx
  · exact bytes_ok D x hx
  · exact ht x hx)
 obtain ⟨r,hr⟩:=qsr hV.symm
 obtain ⟨g1,g2⟩:=hD _ r most hr h0
 have hbad:¬ hdBad 120 156:=by decide +kernel
 have hl2:ys.length - 2=(bytes D ++ t).length:=by omega
 have mk:∀ z' q,ZAll (qm (V:Int) (8 * (bytes D ++ t).length)) most 0 (0,[],0) z'→q=unpR ys z'→Unp ys most q:=by
  intro z' q hz hq
  unfold Unp
  rw [if_neg (by omega),e0,e1,if_neg hbad,if_neg (by omega),hl2]
  exact ⟨V,z',by rw [hyd]; exact hV,⟨0,hz⟩,hq⟩
 refine ⟨fun hm=>mk _ _ (g1 hm) rfl,fun hm=>?_⟩
 obtain ⟨z',hz,h5⟩:=g2 hm
 refine mk z' _ hz ?_
 unfold unpR
 rw [if_pos (by rw [h5]; decide),h5]
theorem unp_frm {xs t:List Int} {D:List Bool} {most:Int} (hD:Dfl xs D) (ht:∀ x ∈ t,0≤x∧x < 256) (hm:(xs.length:Int)≤most) (h1:most≤262144):Unp (frm xs D ++ t) most (xs,((frm xs D).length:Int),0):=by
 have h:=(unp_gen (t:=beJ 4 4 (adV xs) ++ t) hD (fun x hx=>by
  rcases List.mem_append.1 hx with hx | hx
  · exact beJ_ok 4 4 _ x hx
  · exact ht x hx) (by omega) h1).1 hm
 rw [← List.append_assoc,show [120,156] ++ bytes D ++ beJ 4 4 (adV xs)=frm xs D from rfl] at h
 have hl:=qvh xs D
 have e:unpR (frm xs D ++ t) (D.length,xs,0)=(xs,((frm xs D).length:Int),0):=by
  unfold unpR
  simp only
  rw [if_neg (fun e=>e rfl),if_neg (by rw [List.length_append]; omega),if_neg,hl]
  have ed:((frm xs D ++ t).drop (2+(D.length+7) / 8)).take 4=beJ 4 4 (adV xs):=by
   unfold frm
   rw [List.append_assoc,List.drop_left' (by rw [List.length_append,qdh]; rfl),List.take_left' (beJ4_len _)]
  have hb:=adV_b xs
  rw [ed,be_beJ',show (2:Int) ^ (8 * 4)=4294967296 by decide,Int.emod_eq_of_lt hb.1 hb.2]
  exact fun e=>e rfl
 rwa [e] at h
theorem unp_long {xs t:List Int} {D:List Bool} {most:Int} (hD:Dfl xs D) (ht:∀ x ∈ t,0≤x∧x < 256) (h0:0≤most) (hm:most < xs.length) (h1:most≤262144):Unp (frm xs D ++ t) most ([],0,5):=by
 have h:=(unp_gen (t:=beJ 4 4 (adV xs) ++ t) hD (fun x hx=>by
  rcases List.mem_append.1 hx with hx | hx
  · exact beJ_ok 4 4 _ x hx
  · exact ht x hx) h0 h1).2 hm
 rw [← List.append_assoc,show [120,156] ++ bytes D ++ beJ 4 4 (adV xs)=frm xs D from rfl] at h
 exact h
theorem unp_cut {xs:List Int} {D:List Bool} {most:Int} (hD:Dfl xs D) (hm:(xs.length:Int)≤most) (h1:most≤262144):Unp ((frm xs D).take ((frm xs D).length - 1)) most ([],0,3):=by
 have hl:=qvh xs D
 have h:=(unp_gen (t:=(beJ 4 4 (adV xs)).take 3) hD (fun x hx=>beJ_ok 4 4 _ x (List.mem_of_mem_take hx)) (by omega) h1).1 hm
 have e:(frm xs D).take ((frm xs D).length - 1)=[120,156] ++ bytes D ++ (beJ 4 4 (adV xs)).take 3:=by
  have el:([120,156] ++ bytes D:List Int).length=2+(D.length+7) / 8:=by rw [List.length_append,qdh]; rfl
  rw [hl]
  unfold frm
  rw [List.take_append,List.take_of_length_le (by omega),el,show 2+(D.length+7) / 8+4 - 1 - (2+(D.length+7) / 8)=3 by omega]
 rw [e]
 have e2:unpR ([120,156] ++ bytes D ++ (beJ 4 4 (adV xs)).take 3) (D.length,xs,0)=([],0,3):=by
  unfold unpR
  simp only
  rw [if_neg (fun e=>e rfl),if_pos]
  rw [List.length_append,List.length_append,qdh,List.length_take,beJ4_len]
  simp only [List.length_cons,List.length_nil]
  omega
 rwa [e2] at h
end Go.Proofs.YthdmmmfgjmmelaaGreat
namespace Go.Proofs.YthdmmmfgjmmelaaGreat
set_option linter.unusedVariables false
set_option linter.unusedSimpArgs false
section
variable {α:Type} {k:α→Int}
def mrg (k:α→Int):List α→List α→List α
 | [],ys=>ys
 | x :: xs,[]=>x :: xs
 | x :: xs,y :: ys=>if k y < k x then y :: mrg k (x :: xs) ys else x :: mrg k xs (y :: ys)
termination_by xs ys=>xs.length+ys.length
theorem qah (ys:List α):mrg k [] ys=ys:=by unfold mrg; rfl
theorem qyg (xs:List α):mrg k xs []=xs:=by
 cases xs with
 | nil=>exact qah _
 | cons x xs=>unfold mrg; rfl
theorem qog (x y:α) (xs ys:List α):mrg k (x :: xs) (y :: ys)=if k y < k x then y :: mrg k (x :: xs) ys else x :: mrg k xs (y :: ys):=by
 conv=>lhs; unfold mrg
theorem qkr:∀ (n:Nat) (xs ys:List α),xs.length+ys.length=n→(mrg k xs ys).length=n:=by
 intro n
 induction n with
 | zero =>
   intro xs ys h
   have h1:xs=[]:=List.length_eq_zero_iff.1 (by omega)
   have h2:ys=[]:=List.length_eq_zero_iff.1 (by omega)
   subst h1; subst h2
   rw [qah]; rfl
 | succ n ih =>
   intro xs ys h
   cases xs with
   | nil=>rw [qah]; simpa using h
   | cons x xs =>
     cases ys with
     | nil=>rw [qyg]; simpa using h
     | cons y ys =>
       simp only [List.length_cons] at h
       rw [qog]
       split
       · rw [List.length_cons,ih _ _ (by simp only [List.length_cons]; omega)]
       · rw [List.length_cons,ih _ _ (by simp only [List.length_cons]; omega)]
def srt (k:α→Int) (l:List α):Prop:=l.Pairwise fun a b=>k a≤k b
theorem mrg_cut:∀ (n:Nat) (A1 A2 B1 B2:List α),A1.length+B1.length=n→(∀ a ∈ A2,∀ b ∈ B1,k b < k a)→(∀ a ∈ A1,∀ b ∈ B2,k a≤k b)→mrg k (A1 ++ A2) (B1 ++ B2)=mrg k A1 B1 ++ mrg k A2 B2:=by
 intro n
 induction n with
 | zero =>
   intro A1 A2 B1 B2 h _ _
   have h1:A1=[]:=List.length_eq_zero_iff.1 (by omega)
   have h2:B1=[]:=List.length_eq_zero_iff.1 (by omega)
   subst h1; subst h2
   rw [qah]; rfl
 | succ n ih =>
   intro A1 A2 B1 B2 h hA hB
   cases A1 with
   | nil =>
     rw [qah,List.nil_append]
     cases B1 with
     | nil=>rfl
     | cons b B1 =>
       cases A2 with
       | nil=>rw [qah,qah]
       | cons a A2 =>
         rw [List.cons_append,qog,if_pos (hA a (by simp) b (by simp))]
         have:=ih [] (a :: A2) B1 B2 (by simp only [List.length_cons,List.length_nil] at h ⊢; omega) (fun a ha b hb=>hA a ha b (by simp [hb])) (by simp)
         rw [List.nil_append,qah] at this
         rw [this]; rfl
   | cons a A1 =>
     cases B1 with
     | nil =>
       rw [qyg,List.nil_append]
       cases B2 with
       | nil=>rw [qyg,qyg]
       | cons b B2 =>
         have hab:=hB a (by simp) b (by simp)
         rw [List.cons_append,qog,if_neg (by omega)]
         have:=ih A1 A2 [] (b :: B2) (by simp only [List.length_cons,List.length_nil] at h ⊢; omega) (by simp) (fun a ha b hb=>hB a (by simp [ha]) b hb)
         rw [List.nil_append,qyg] at this
         rw [this]; rfl
     | cons b B1 =>
       rw [List.cons_append,List.cons_append,qog,qog]
       simp only [List.length_cons] at h
       split
       · have:=ih (a :: A1) A2 B1 B2 (by simp only [List.length_cons]; omega) (fun a ha b hb=>hA a ha b (by simp [hb])) hB
         rw [List.cons_append] at this
         rw [this]; rfl
       · have:=ih A1 A2 (b :: B1) B2 (by simp only [List.length_cons]; omega) hA (fun a ha b hb=>hB a (by simp [ha]) b hb)
         rw [List.cons_append] at this
         rw [this]; rfl
theorem mrg_left (A B:List α) (h:∀ a ∈ A,∀ b ∈ B,k a≤k b):mrg k A B=A ++ B:=by
 have:=mrg_cut (k:=k) _ A [] [] B rfl (by simp) h
 rw [List.append_nil,List.nil_append,qyg,qah] at this
 exact this
def insR (k:α→Int) (x:α):List α→List α
 | []=>[x]
 | y :: l=>if k x < k y then x :: y :: l else y :: insR k x l
def qhd (k:α→Int) (l:List α):List α:=l.foldl (fun a x=>insR k x a) []
theorem qsh (l:List α) (x:α):qhd k (l ++ [x])=insR k x (qhd k l):=by simp [qhd]
theorem insR_perm (x:α) (l:List α):(insR k x l).Perm (x :: l):=by
 induction l with
 | nil=>exact List.Perm.refl _
 | cons y l ih =>
   rw [insR]
   split
   · exact List.Perm.refl _
   · exact (List.Perm.cons y ih).trans (List.Perm.swap x y l)
theorem insR_srt {x:α} {l:List α} (h:srt k l):srt k (insR k x l):=by
 induction l with
 | nil=>exact List.pairwise_singleton _ _
 | cons y l ih =>
   rw [insR]
   have h':=List.pairwise_cons.1 h
   split
   · rename_i hlt
     refine List.pairwise_cons.2 ⟨fun z hz=>?_,h⟩
     rcases List.mem_cons.1 hz with rfl | hz
     · omega
     · have:=h'.1 z hz; omega
   · rename_i hlt
     refine List.pairwise_cons.2 ⟨fun z hz=>?_,ih h'.2⟩
     have:=(insR_perm (k:=k) x l).mem_iff.1 hz
     rcases List.mem_cons.1 this with rfl | hz
     · omega
     · exact h'.1 z hz
theorem qcn {Q:List α→Prop} (h0:Q []) (h1:∀ l x,Q l→Q (l ++ [x])) (l:List α):Q l:=by
 have:∀ n (l:List α),l.length=n→Q l:=by
  intro n
  induction n with
  | zero=>intro l h; rw [List.length_eq_zero_iff.1 h]; exact h0
  | succ n ih =>
    intro l h
    have hne:l ≠ []:=by intro e; subst e; simp at h
    rw [← List.dropLast_concat_getLast hne]
    exact h1 _ _ (ih _ (by rw [List.length_dropLast]; omega))
 exact this _ l rfl
theorem qxh (l:List α):srt k (qhd k l):=qcn (Q:=fun l=>srt k (qhd k l)) List.Pairwise.nil (fun l x h=>by rw [qsh]; exact insR_srt h) l
theorem qth (l:List α):(qhd k l).Perm l:=qcn (Q:=fun l=>(qhd k l).Perm l) (List.Perm.refl _) (fun l x h=>by
 rw [qsh]
 exact (insR_perm x _).trans ((List.Perm.cons x h).trans (List.perm_append_comm (l₁:=[x]) (l₂:=l)))) l
theorem qzc (l:List α):(qhd k l).length=l.length:=(qth l).length_eq
theorem insR_mrg (x:α):∀ (n:Nat) (A B:List α),A.length+B.length=n→srt k A→srt k B→insR k x (mrg k A B)=mrg k A (insR k x B):=by
 intro n
 induction n with
 | zero =>
   intro A B h _ _
   have h1:A=[]:=List.length_eq_zero_iff.1 (by omega)
   subst h1
   rw [qah,qah]
 | succ n ih =>
   intro A B h hA hB
   cases A with
   | nil=>rw [qah,qah]
   | cons a A =>
     have hA':=List.pairwise_cons.1 hA
     cases B with
     | nil =>
       rw [qyg]
       show (if k x < k a then x :: a :: A else a :: insR k x A)=mrg k (a :: A) [x]
       rw [qog]
       split
       · rw [qyg]
       · have:=ih A [] (by simp only [List.length_cons,List.length_nil] at h ⊢; omega) hA'.2 List.Pairwise.nil
         rw [qyg] at this
         rw [this]; rfl
     | cons b B =>
       have hB':=List.pairwise_cons.1 hB
       simp only [List.length_cons] at h
       rw [qog]
       by_cases h1:k b < k a
       · rw [if_pos h1]
         show (if k x < k b then x :: b :: mrg k (a :: A) B else b :: insR k x (mrg k (a :: A) B))=_
         show _=mrg k (a :: A) (if k x < k b then x :: b :: B else b :: insR k x B)
         by_cases h2:k x < k b
         · rw [if_pos h2,if_pos h2,qog,if_pos (by omega),qog,if_pos h1]
         · rw [if_neg h2,if_neg h2,qog,if_pos h1,ih (a :: A) B (by simp only [List.length_cons]; omega) hA hB'.2]
       · rw [if_neg h1]
         show (if k x < k a then x :: a :: mrg k A (b :: B) else a :: insR k x (mrg k A (b :: B)))=_
         by_cases h2:k x < k a
         · rw [if_pos h2]
           have h3:k x < k b:=by omega
           show _=mrg k (a :: A) (if k x < k b then x :: b :: B else b :: insR k x B)
           rw [if_pos h3,qog,if_pos h2,qog,if_neg h1]
         · rw [if_neg h2,ih A (b :: B) (by simp only [List.length_cons]; omega) hA'.2 hB]
           show a :: mrg k A (if k x < k b then x :: b :: B else b :: insR k x B)=mrg k (a :: A) (if k x < k b then x :: b :: B else b :: insR k x B)
           by_cases h3:k x < k b
           · rw [if_pos h3,qog,if_neg h2]
           · rw [if_neg h3,qog,if_neg h1]
theorem qgl (A B:List α):qhd k (A ++ B)=mrg k (qhd k A) (qhd k B):=qcn (Q:=fun B=>qhd k (A ++ B)=mrg k (qhd k A) (qhd k B)) (by rw [List.append_nil]; exact (qyg _).symm) (fun B x h=>by
 rw [← List.append_assoc,qsh,qsh,h,insR_mrg x _ _ _ rfl (qxh A) (qxh B)]) B
def bsort (k:α→Int) (c:Nat):Nat→List α→List α
 | 0,l=>qhd k l
 | f+1,l=>if l.length≤c then qhd k l else qhd k (l.take c) ++ bsort k c f (l.drop c)
end
end Go.Proofs.YthdmmmfgjmmelaaGreat
