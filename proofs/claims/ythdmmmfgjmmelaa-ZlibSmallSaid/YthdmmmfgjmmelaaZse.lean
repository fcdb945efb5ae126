/- Own texts as one, only what is reached (shake.py). -/
import Derived.Test.YthdmmmfgjmmelaaZsd
import Derived.Test.YthdmmmfgjmmelaaProg
namespace Go.Proofs.Ythdmmmfgjmmelaa
open Go Go.Proofs
set_option linter.unusedVariables false
set_option maxRecDepth 100000
def qab.j3 (w_3:OAd) (Q:VWP) (w:World):Prop :=
 Calls Try.prog 22 ⟨[.pointer w_3]⟩ w fun e1 w2 =>
 ∃ r3:Sl,e1=.returned (.slice r3.a r3.len r3.cap) ∧
 Q (.slice r3.a r3.len r3.cap) w2
def qab.j10 (b_0:Sl) (w_3:OAd) (more_4:Bool) (k_5:Int) (Q:VWP) (nx1:OAd→Sl→Bool→World→Prop) (w:World):Prop :=
 bd k_5 b_0.len fun n4 =>
 lt (⟨qzf b_0.a b_0.cap n4 1,b_0.len - n4,b_0.cap - n4⟩:Sl) fun s5 =>
 nx1 w_3 s5 more_4 w
def qab.b2 (b_0:Sl) (w_3:OAd) (more_4:Bool) (k_5:Int) (t36:Sl) (t37:Int) (t38:Int) (Q:VWP) (nx1:OAd→Sl→Bool→World→Prop) (nx2:Sl→OAd→Bool→Int→Sl→Int→Int→World→Prop) (w:World):Prop :=
 br (decide ((t38:Int) < t37)) (
 ixS t36.a t36.len t38 1 fun a6 =>
 ldI .u8 w a6 fun x7 =>
 Calls Try.prog 125 ⟨[.pointer w_3,.int .u8 x7]⟩ w fun e8 w9 =>
 e8=.returned (.tuple ⟨[]⟩) ∧
 lt (IntKind.i64.wrap (t38+1)) fun x10 =>
 nx2 b_0 w_3 more_4 k_5 t36 t37 x10 w9) (
 qab.j10 b_0 w_3 more_4 k_5 Q nx1 w)
def qab.l2 (b_0:Sl) (w_3:OAd) (more_4:Bool) (k_5:Int) (t36:Sl) (t37:Int) (t38:Int) (Q:VWP) (nx1:OAd→Sl→Bool→World→Prop) (w:World):Prop :=
 ∃ (I:Int→World→Prop) (μ:Int→World→Nat),I t38 w∧∀ t38:Int,∀ w:World,I t38 w→qab.b2 b_0 w_3 more_4 k_5 t36 t37 t38 Q nx1 (fun b_0' w_3' more_4' k_5' t36' t37' t38' w'=>(b_0'=b_0∧w_3'=w_3∧more_4'=more_4∧k_5'=k_5∧t36'=t36∧t37'=t37)∧I t38' w'∧μ t38' w' < μ t38 w) w
def qab.j11 (b_0:Sl) (w_3:OAd) (more_4:Bool) (k_5:Int) (t36:Sl) (t37:Int) (t38:Int) (Q:VWP) (nx1:OAd→Sl→Bool→World→Prop) (w:World):Prop :=
 qab.l2 b_0 w_3 more_4 k_5 t36 t37 t38 Q nx1 w
def qab.j9 (b_0:Sl) (w_3:OAd) (more_4:Bool) (k_5:Int) (Q:VWP) (nx1:OAd→Sl→Bool→World→Prop) (w:World):Prop :=
 bd k_5 b_0.cap fun n11 =>
 lt (⟨qzf b_0.a b_0.cap 0 1,n11 - 0,b_0.cap - 0⟩:Sl) fun s12 =>
 qab.j11 b_0 w_3 more_4 k_5 s12 ((s12.len:Nat):Int) 0 Q nx1 w
def qab.j8 (b_0:Sl) (w_3:OAd) (more_4:Bool) (k_5:Int) (Q:VWP) (nx1:OAd→Sl→Bool→World→Prop) (w:World):Prop :=
 Calls Try.prog 91 ⟨[.pointer w_3,.int .i64 k_5,.int .i64 16]⟩ w fun e13 w14 =>
 e13=.returned (.tuple ⟨[]⟩) ∧
 lt (xorV .i64 (if IntKind.signed .i64 then -1 else IntKind.max .i64) k_5) fun x15 =>
 Calls Try.prog 91 ⟨[.pointer w_3,.int .i64 x15,.int .i64 16]⟩ w14 fun e16 w17 =>
 e16=.returned (.tuple ⟨[]⟩) ∧
 qab.j9 b_0 w_3 more_4 k_5 Q nx1 w17
def qab.j7 (b_0:Sl) (w_3:OAd) (more_4:Bool) (k_5:Int) (last_6:Int) (Q:VWP) (nx1:OAd→Sl→Bool→World→Prop) (w:World):Prop :=
 Calls Try.prog 91 ⟨[.pointer w_3,.int .i64 last_6,.int .i64 3]⟩ w fun e18 w19 =>
 e18=.returned (.tuple ⟨[]⟩) ∧
 Calls Try.prog 124 ⟨[.pointer w_3]⟩ w19 fun e20 w21 =>
 e20=.returned (.tuple ⟨[]⟩) ∧
 qab.j8 b_0 w_3 more_4 k_5 Q nx1 w21
def qab.j6 (b_0:Sl) (w_3:OAd) (more_4:Bool) (k_5:Int) (Q:VWP) (nx1:OAd→Sl→Bool→World→Prop) (w:World):Prop :=
 br more_4 (
 qab.j7 b_0 w_3 more_4 k_5 0 Q nx1 w) (
 qab.j7 b_0 w_3 more_4 k_5 1 Q nx1 w)
def qab.j5 (b_0:Sl) (w_3:OAd) (Q:VWP) (nx1:OAd→Sl→Bool→World→Prop) (w:World):Prop :=
 lt (if (65535:Int) < ((b_0.len:Nat):Int) then 65535 else ((b_0.len:Nat):Int)) fun x22 =>
 qab.j6 b_0 w_3 (decide ((x22:Int) < ((b_0.len:Nat):Int))) x22 Q nx1 w
def qab.b1 (w_3:OAd) (b_0:Sl) (more_4:Bool) (Q:VWP) (nx1:OAd→Sl→Bool→World→Prop) (w:World):Prop :=
 br more_4 (
 qab.j5 b_0 w_3 Q nx1 w) (
 qab.j3 w_3 Q w)
def qab.l1 (w_3:OAd) (b_0:Sl) (more_4:Bool) (Q:VWP) (w:World):Prop :=
 ∃ (I:Sl→Bool→World→Prop) (μ:Sl→Bool→World→Nat),I b_0 more_4 w∧∀ b_0:Sl,∀ more_4:Bool,∀ w:World,I b_0 more_4 w→qab.b1 w_3 b_0 more_4 Q (fun w_3' b_0' more_4' w'=>(w_3'=w_3)∧I b_0' more_4' w'∧μ b_0' more_4' w' < μ b_0 more_4 w) w
def qab.j4 (b_0:Sl) (w_3:OAd) (more_4:Bool) (Q:VWP) (w:World):Prop :=
 qab.l1 w_3 b_0 more_4 Q w
def qab.j2 (b_0:Sl) (w_3:OAd) (Q:VWP) (w:World):Prop :=
 qab.j4 b_0 w_3 true Q w
def qab.j1 (b_0:Sl) (Q:VWP) (w:World):Prop :=
 br (decide ((((b_0.len:Nat):Int):Int) > 262144)) (
 Q (.slice none 0 0) w) (
 Calls Try.prog 18 ⟨[]⟩ w fun e23 w24 =>
 ∃ r25:OAd,e23=.returned (.pointer r25) ∧
 qab.j2 b_0 r25 Q w24)
def qab (b_0:Sl) (Q:VWP) (w:World):Prop :=
 qab.j1 b_0 Q w
theorem qab.ok (b_0:Sl) (Q:VWP) (w:World) (h:qab b_0 Q w):Calls Try.prog 79 ⟨[.slice b_0.a b_0.len b_0.cap]⟩ w (Ret Q):=by
 refine qn [.tmp 2] Try.func79 rfl rfl rfl rfl ?_
 refine qr (fun ρ w=>asL (ρ 0) fun b_0=>qab.j1 b_0 Q w) ?_ ?_
 · skip
   exact qg qpb _ (Eq.mp (by kernel_rfl) h)
 · intro ρ w h
   obtain ⟨b_0,e0,h⟩:=qj h
   refine qb e0 ?_
   refine qib qpb (fun ρ w=>asL (ρ 0) fun b_0=>asP (ρ 3) fun w_3=>qab.j2 b_0 w_3 Q w) (Eq.mp (by kernel_rfl) h) ?_
   intro ρ w h
   obtain ⟨b_0,e0,h⟩:=qj h
   obtain ⟨w_3,e3,h⟩:=qw h
   refine qb e0 (qb (qa e3 rfl) ?_)
   refine qr (fun ρ w=>asP (ρ 3) fun w_3=>qab.j3 w_3 Q w) ?_ ?_
   · skip
     refine qr (fun ρ w=>asL (ρ 0) fun b_0=>asP (ρ 3) fun w_3=>asB (ρ 4) fun more_4=>qab.j4 b_0 w_3 more_4 Q w) ?_ ?_
     · skip
       exact qg qpb _ (Eq.mp (by kernel_rfl) h)
     · intro ρ w h
       obtain ⟨b_0,e0,h⟩:=qj h
       obtain ⟨w_3,e3,h⟩:=qw h
       obtain ⟨more_4,e4,h⟩:=qgd h
       refine qb e0 (qb (qa e3 rfl) (qb (qa (qa e4 rfl) rfl) ?_))
       refine qcb ?_
       obtain ⟨I,μ,hI,hr⟩:=h
       refine qhb (α:=Sl × Bool) (fun s ρ=>ρ 0=.slice s.1.a s.1.len s.1.cap∧ρ 4=.bool s.2∧ρ 3=.pointer w_3) (fun s w=>I s.1 s.2 w) (fun s w=>μ s.1 s.2 w) (b_0,more_4) ⟨rfl,rfl,rfl⟩ hI ?_
       rintro ⟨b_0,more_4⟩ ρ w ⟨e0,e4,e3⟩ hI
       have h:=hr b_0 more_4 w hI
       clear hr
       obtain ⟨nx1,hnx⟩:∃ nx:OAd→Sl→Bool→World→Prop,nx=(fun w_3' b_0' more_4' w'=>(w_3'=w_3)∧I b_0' more_4' w'∧μ b_0' more_4' w' < μ b_0 more_4 w):=⟨_,rfl⟩
       rw [← hnx] at h
       refine qob (M:=fun ρ w=>asP (ρ 3) fun w_3=>asL (ρ 0) fun b_0=>asB (ρ 4) fun more_4=>nx1 w_3 b_0 more_4 w) ?_ (fun ρ w h=>?_)
       · skip
         refine qb e0 (qb (qa e3 rfl) (qb (qa (qa e4 rfl) rfl) ?_))
         refine qr (fun ρ w=>asL (ρ 0) fun b_0=>asP (ρ 3) fun w_3=>qab.j5 b_0 w_3 Q nx1 w) ?_ ?_
         · skip
           exact qg qpb _ (Eq.mp (by kernel_rfl) h)
         · intro ρ w h
           obtain ⟨b_0,e0,h⟩:=qj h
           obtain ⟨w_3,e3,h⟩:=qw h
           refine qb e0 (qb (qa e3 rfl) ?_)
           refine qcb ?_
           refine qib qpb (fun ρ w=>asL (ρ 0) fun b_0=>asP (ρ 3) fun w_3=>asB (ρ 4) fun more_4=>asI .i64 (ρ 5) fun k_5=>qab.j6 b_0 w_3 more_4 k_5 Q nx1 w) (Eq.mp (by kernel_rfl) h) ?_
           intro ρ w h
           obtain ⟨b_0,e0,h⟩:=qj h
           obtain ⟨w_3,e3,h⟩:=qw h
           obtain ⟨more_4,e4,h⟩:=qgd h
           obtain ⟨k_5,e5,h⟩:=qe h
           refine qb e0 (qb (qa e3 rfl) (qb (qa (qa e4 rfl) rfl) (qb (qa (qa (qa e5 rfl) rfl) rfl) ?_)))
           refine qib qpb (fun ρ w=>asL (ρ 0) fun b_0=>asP (ρ 3) fun w_3=>asB (ρ 4) fun more_4=>asI .i64 (ρ 5) fun k_5=>asI .i64 (ρ 6) fun last_6=>qab.j7 b_0 w_3 more_4 k_5 last_6 Q nx1 w) (Eq.mp (by kernel_rfl) h) ?_
           intro ρ w h
           obtain ⟨b_0,e0,h⟩:=qj h
           obtain ⟨w_3,e3,h⟩:=qw h
           obtain ⟨more_4,e4,h⟩:=qgd h
           obtain ⟨k_5,e5,h⟩:=qe h
           obtain ⟨last_6,e6,h⟩:=qe h
           refine qb e0 (qb (qa e3 rfl) (qb (qa (qa e4 rfl) rfl) (qb (qa (qa (qa e5 rfl) rfl) rfl) (qb (qa (qa (qa (qa e6 rfl) rfl) rfl) rfl) ?_))))
           refine qib qpb (fun ρ w=>asL (ρ 0) fun b_0=>asP (ρ 3) fun w_3=>asB (ρ 4) fun more_4=>asI .i64 (ρ 5) fun k_5=>qab.j8 b_0 w_3 more_4 k_5 Q nx1 w) (Eq.mp (by kernel_rfl) h) ?_
           intro ρ w h
           obtain ⟨b_0,e0,h⟩:=qj h
           obtain ⟨w_3,e3,h⟩:=qw h
           obtain ⟨more_4,e4,h⟩:=qgd h
           obtain ⟨k_5,e5,h⟩:=qe h
           refine qb e0 (qb (qa e3 rfl) (qb (qa (qa e4 rfl) rfl) (qb (qa (qa (qa e5 rfl) rfl) rfl) ?_)))
           refine qib qpb (fun ρ w=>asL (ρ 0) fun b_0=>asP (ρ 3) fun w_3=>asB (ρ 4) fun more_4=>asI .i64 (ρ 5) fun k_5=>qab.j9 b_0 w_3 more_4 k_5 Q nx1 w) (Eq.mp (by kernel_rfl) h) ?_
           intro ρ w h
           obtain ⟨b_0,e0,h⟩:=qj h
           obtain ⟨w_3,e3,h⟩:=qw h
           obtain ⟨more_4,e4,h⟩:=qgd h
           obtain ⟨k_5,e5,h⟩:=qe h
           refine qb e0 (qb (qa e3 rfl) (qb (qa (qa e4 rfl) rfl) (qb (qa (qa (qa e5 rfl) rfl) rfl) ?_)))
           refine qr (fun ρ w=>asL (ρ 0) fun b_0=>asP (ρ 3) fun w_3=>asB (ρ 4) fun more_4=>asI .i64 (ρ 5) fun k_5=>qab.j10 b_0 w_3 more_4 k_5 Q nx1 w) ?_ ?_
           · skip
             refine qr (fun ρ w=>asL (ρ 0) fun b_0=>asP (ρ 3) fun w_3=>asB (ρ 4) fun more_4=>asI .i64 (ρ 5) fun k_5=>asL (ρ 36) fun t36=>asI .i64 (ρ 37) fun t37=>asI .i64 (ρ 38) fun t38=>qab.j11 b_0 w_3 more_4 k_5 t36 t37 t38 Q nx1 w) ?_ ?_
             · skip
               exact qg qpb _ (Eq.mp (by kernel_rfl) h)
             · intro ρ w h
               obtain ⟨b_0,e0,h⟩:=qj h
               obtain ⟨w_3,e3,h⟩:=qw h
               obtain ⟨more_4,e4,h⟩:=qgd h
               obtain ⟨k_5,e5,h⟩:=qe h
               obtain ⟨t36,e36,h⟩:=qj h
               obtain ⟨t37,e37,h⟩:=qe h
               obtain ⟨t38,e38,h⟩:=qe h
               refine qb e0 (qb (qa e3 rfl) (qb (qa (qa e4 rfl) rfl) (qb (qa (qa (qa e5 rfl) rfl) rfl) (qb (qa (qa (qa (qa e36 rfl) rfl) rfl) rfl) (qb (qa (qa (qa (qa (qa e37 rfl) rfl) rfl) rfl) rfl) (qb (qa (qa (qa (qa (qa (qa e38 rfl) rfl) rfl) rfl) rfl) rfl) ?_))))))
               refine qcb ?_
               obtain ⟨I,μ,hI,hr⟩:=h
               refine qhb (α:=Int) (fun s ρ=>ρ 38=.int .i64 s∧ρ 0=.slice b_0.a b_0.len b_0.cap∧ρ 3=.pointer w_3∧ρ 4=.bool more_4∧ρ 5=.int .i64 k_5∧ρ 36=.slice t36.a t36.len t36.cap∧ρ 37=.int .i64 t37) (fun s w=>I s w) (fun s w=>μ s w) t38 ⟨rfl,rfl,rfl,rfl,rfl,rfl,rfl⟩ hI ?_
               rintro t38 ρ w ⟨e38,e0,e3,e4,e5,e36,e37⟩ hI
               have h:=hr t38 w hI
               clear hr
               obtain ⟨nx2,hnx⟩:∃ nx:Sl→OAd→Bool→Int→Sl→Int→Int→World→Prop,nx=(fun b_0' w_3' more_4' k_5' t36' t37' t38' w'=>(b_0'=b_0∧w_3'=w_3∧more_4'=more_4∧k_5'=k_5∧t36'=t36∧t37'=t37)∧I t38' w'∧μ t38' w' < μ t38 w):=⟨_,rfl⟩
               rw [← hnx] at h
               refine qob (M:=fun ρ w=>asL (ρ 0) fun b_0=>asP (ρ 3) fun w_3=>asB (ρ 4) fun more_4=>asI .i64 (ρ 5) fun k_5=>asL (ρ 36) fun t36=>asI .i64 (ρ 37) fun t37=>asI .i64 (ρ 38) fun t38=>nx2 b_0 w_3 more_4 k_5 t36 t37 t38 w) ?_ (fun ρ w h=>?_)
               · skip
                 refine qb e0 (qb (qa e3 rfl) (qb (qa (qa e4 rfl) rfl) (qb (qa (qa (qa e5 rfl) rfl) rfl) (qb (qa (qa (qa (qa e36 rfl) rfl) rfl) rfl) (qb (qa (qa (qa (qa (qa e37 rfl) rfl) rfl) rfl) rfl) (qb (qa (qa (qa (qa (qa (qa e38 rfl) rfl) rfl) rfl) rfl) rfl) ?_))))))
                 exact qg qpb _ (Eq.mp (by kernel_rfl) h)
               · skip
                 obtain ⟨b_0',e0',h⟩:=qj h
                 obtain ⟨w_3',e3',h⟩:=qw h
                 obtain ⟨more_4',e4',h⟩:=qgd h
                 obtain ⟨k_5',e5',h⟩:=qe h
                 obtain ⟨t36',e36',h⟩:=qj h
                 obtain ⟨t37',e37',h⟩:=qe h
                 obtain ⟨t38',e38',h⟩:=qe h
                 rw [hnx] at h
                 obtain ⟨hu,hI2,hμ⟩:=h
                 obtain ⟨rfl,rfl,rfl,rfl,rfl,rfl⟩:=hu
                 exact ⟨t38',⟨e38',e0',e3',e4',e5',e36',e37'⟩,hI2,hμ⟩
           · intro ρ w h
             obtain ⟨b_0,e0,h⟩:=qj h
             obtain ⟨w_3,e3,h⟩:=qw h
             obtain ⟨more_4,e4,h⟩:=qgd h
             obtain ⟨k_5,e5,h⟩:=qe h
             refine qb e0 (qb (qa e3 rfl) (qb (qa (qa e4 rfl) rfl) (qb (qa (qa (qa e5 rfl) rfl) rfl) ?_)))
             exact qg qpb _ (Eq.mp (by kernel_rfl) h)
       · skip
         obtain ⟨w_3',e3',h⟩:=qw h
         obtain ⟨b_0',e0',h⟩:=qj h
         obtain ⟨more_4',e4',h⟩:=qgd h
         rw [hnx] at h
         obtain ⟨hu,hI2,hμ⟩:=h
         obtain rfl:=hu
         exact ⟨(b_0',more_4'),⟨e0',e4',e3'⟩,hI2,hμ⟩
   · intro ρ w h
     obtain ⟨w_3,e3,h⟩:=qw h
     refine qb e3 ?_
     exact qg qpb _ (Eq.mp (by kernel_rfl) h)
def qyd.b1 (v_0:Int) (t6:Addr) (p_7:Addr) (k_8:Int) (Q:VWP) (nx1:Int→Addr→Addr→Int→World→Prop) (w:World):Prop :=
 Calls Try.prog 159 ⟨[.int .i64 k_8]⟩ w fun e1 w2 =>
 ∃ r3:Int,∃ r4:Int,∃ r5:Bool,e1=.returned (.tuple ⟨[.int .i64 r3,.int .i64 r4,.bool r5]⟩) ∧
 br (!r5) (
 ldA w2 p_7 3 fun c6 =>
 (c6).size=3 ∧
 stA w2 t6 c6 fun w7 =>
 ldA w7 t6 3 fun c8 =>
 Q (.agg c8) w7) (
 br (decide ((r3:Int) > v_0)) (
 ldA w2 p_7 3 fun c9 =>
 (c9).size=3 ∧
 stA w2 t6 c9 fun w10 =>
 ldA w10 t6 3 fun c11 =>
 Q (.agg c11) w10) (
 lt (IntKind.i64.wrap (v_0 - r3)) fun x12 =>
 ((⟨[.int .i64 k_8,.int .i64 x12,.int .i64 r4]⟩:Array Value)).size=3 ∧
 stA w2 p_7 (⟨[.int .i64 k_8,.int .i64 x12,.int .i64 r4]⟩:Array Value) fun w13 =>
 lt (IntKind.i64.wrap (k_8+1)) fun x14 =>
 nx1 v_0 t6 p_7 x14 w13))
def qyd.l1 (v_0:Int) (t6:Addr) (p_7:Addr) (k_8:Int) (Q:VWP) (w:World):Prop :=
 ∃ (I:Int→World→Prop) (μ:Int→World→Nat),I k_8 w∧∀ k_8:Int,∀ w:World,I k_8 w→qyd.b1 v_0 t6 p_7 k_8 Q (fun v_0' t6' p_7' k_8' w'=>(v_0'=v_0∧t6'=t6∧p_7'=p_7)∧I k_8' w'∧μ k_8' w' < μ k_8 w) w
def qyd.j2 (v_0:Int) (t6:Addr) (p_7:Addr) (k_8:Int) (Q:VWP) (w:World):Prop :=
 qyd.l1 v_0 t6 p_7 k_8 Q w
def qyd.j1 (v_0 from_1:Int) (t6:Addr) (Q:VWP) (w:World):Prop :=
 lt (⟨World.heapSize w,0,none⟩:Addr) fun a15 =>
 lt (World.alloc w (.cells (zc Try.prog 172) 172)) fun w16 =>
 ((⟨[.int .i64 0,.int .i64 0,.int .i64 0]⟩:Array Value)).size=3 ∧
 stA w16 a15 (⟨[.int .i64 0,.int .i64 0,.int .i64 0]⟩:Array Value) fun w17 =>
 qyd.j2 v_0 t6 a15 from_1 Q w17
def qyd (v_0 from_1:Int) (Q:VWP) (w:World):Prop :=
 lt (⟨World.heapSize w,0,none⟩:Addr) fun a18 =>
 lt (World.alloc w (.cells (zc Try.prog 172) 172)) fun w19 =>
 qyd.j1 v_0 from_1 a18 Q w19
theorem qyd.ok (v_0:Int) (from_1:Int) (Q:VWP) (w:World) (h:qyd v_0 from_1 Q w):Calls Try.prog 158 ⟨[.int .i64 v_0,.int .i64 from_1,.func (.func 159) ⟨[]⟩ ⟨[]⟩]⟩ w (Ret Q):=by
 refine qn [.cell 6 172] Try.func158 rfl rfl rfl rfl ?_
 refine qr (fun ρ w=>asI .i64 (ρ 0) fun v_0=>asI .i64 (ρ 1) fun from_1=>qth 159 (ρ 2) <| asA (ρ 6) fun t6=>qyd.j1 v_0 from_1 t6 Q w) ?_ ?_
 · skip
   exact qg qpb _ (Eq.mp (by kernel_rfl) h)
 · intro ρ w h
   obtain ⟨v_0,e0,h⟩:=qe h
   obtain ⟨from_1,e1,h⟩:=qe h
   obtain ⟨e2,h⟩:=qsc h
   obtain ⟨t6,e6,h⟩:=qbe h
   refine qb e0 (qb (qa e1 rfl) (qb (qa (qa e2 rfl) rfl) (qb (qa (qa (qa e6 rfl) rfl) rfl) ?_)))
   refine qib qpb (fun ρ w=>asI .i64 (ρ 0) fun v_0=>qth 159 (ρ 2) <| asA (ρ 6) fun t6=>asA (ρ 7) fun p_7=>asI .i64 (ρ 8) fun k_8=>qyd.j2 v_0 t6 p_7 k_8 Q w) (Eq.mp (by kernel_rfl) h) ?_
   intro ρ w h
   obtain ⟨v_0,e0,h⟩:=qe h
   obtain ⟨e2,h⟩:=qsc h
   obtain ⟨t6,e6,h⟩:=qbe h
   obtain ⟨p_7,e7,h⟩:=qbe h
   obtain ⟨k_8,e8,h⟩:=qe h
   refine qb e0 (qb (qa e2 rfl) (qb (qa (qa e6 rfl) rfl) (qb (qa (qa (qa e7 rfl) rfl) rfl) (qb (qa (qa (qa (qa e8 rfl) rfl) rfl) rfl) ?_))))
   refine qcb ?_
   obtain ⟨I,μ,hI,hr⟩:=h
   refine qhb (α:=Int) (fun s ρ=>ρ 8=.int .i64 s∧ρ 0=.int .i64 v_0∧ρ 2=.func (.func 159) ⟨[]⟩ ⟨[]⟩∧ρ 6=.pointer (some t6)∧ρ 7=.pointer (some p_7)) (fun s w=>I s w) (fun s w=>μ s w) k_8 ⟨rfl,rfl,rfl,rfl,rfl⟩ hI ?_
   rintro k_8 ρ w ⟨e8,e0,e2,e6,e7⟩ hI
   have h:=hr k_8 w hI
   clear hr
   obtain ⟨nx1,hnx⟩:∃ nx:Int→Addr→Addr→Int→World→Prop,nx=(fun v_0' t6' p_7' k_8' w'=>(v_0'=v_0∧t6'=t6∧p_7'=p_7)∧I k_8' w'∧μ k_8' w' < μ k_8 w):=⟨_,rfl⟩
   rw [← hnx] at h
   refine qob (M:=fun ρ w=>asI .i64 (ρ 0) fun v_0=>qth 159 (ρ 2) <| asA (ρ 6) fun t6=>asA (ρ 7) fun p_7=>asI .i64 (ρ 8) fun k_8=>nx1 v_0 t6 p_7 k_8 w) ?_ (fun ρ w h=>?_)
   · skip
     refine qb e0 (qb (qa e2 rfl) (qb (qa (qa e6 rfl) rfl) (qb (qa (qa (qa e7 rfl) rfl) rfl) (qb (qa (qa (qa (qa e8 rfl) rfl) rfl) rfl) ?_))))
     exact qg qpb _ (Eq.mp (by kernel_rfl) h)
   · skip
     obtain ⟨v_0',e0',h⟩:=qe h
     obtain ⟨e2',h⟩:=qsc h
     obtain ⟨t6',e6',h⟩:=qbe h
     obtain ⟨p_7',e7',h⟩:=qbe h
     obtain ⟨k_8',e8',h⟩:=qe h
     rw [hnx] at h
     obtain ⟨hu,hI2,hμ⟩:=h
     obtain ⟨rfl,rfl,rfl⟩:=hu
     exact ⟨k_8',⟨e8',e0',e2',e6',e7'⟩,hI2,hμ⟩
def qzd.b1 (v_0:Int) (t6:Addr) (p_7:Addr) (k_8:Int) (Q:VWP) (nx1:Int→Addr→Addr→Int→World→Prop) (w:World):Prop :=
 Calls Try.prog 160 ⟨[.int .i64 k_8]⟩ w fun e1 w2 =>
 ∃ r3:Int,∃ r4:Int,∃ r5:Bool,e1=.returned (.tuple ⟨[.int .i64 r3,.int .i64 r4,.bool r5]⟩) ∧
 br (!r5) (
 ldA w2 p_7 3 fun c6 =>
 (c6).size=3 ∧
 stA w2 t6 c6 fun w7 =>
 ldA w7 t6 3 fun c8 =>
 Q (.agg c8) w7) (
 br (decide ((r3:Int) > v_0)) (
 ldA w2 p_7 3 fun c9 =>
 (c9).size=3 ∧
 stA w2 t6 c9 fun w10 =>
 ldA w10 t6 3 fun c11 =>
 Q (.agg c11) w10) (
 lt (IntKind.i64.wrap (v_0 - r3)) fun x12 =>
 ((⟨[.int .i64 k_8,.int .i64 x12,.int .i64 r4]⟩:Array Value)).size=3 ∧
 stA w2 p_7 (⟨[.int .i64 k_8,.int .i64 x12,.int .i64 r4]⟩:Array Value) fun w13 =>
 lt (IntKind.i64.wrap (k_8+1)) fun x14 =>
 nx1 v_0 t6 p_7 x14 w13))
def qzd.l1 (v_0:Int) (t6:Addr) (p_7:Addr) (k_8:Int) (Q:VWP) (w:World):Prop :=
 ∃ (I:Int→World→Prop) (μ:Int→World→Nat),I k_8 w∧∀ k_8:Int,∀ w:World,I k_8 w→qzd.b1 v_0 t6 p_7 k_8 Q (fun v_0' t6' p_7' k_8' w'=>(v_0'=v_0∧t6'=t6∧p_7'=p_7)∧I k_8' w'∧μ k_8' w' < μ k_8 w) w
def qzd.j2 (v_0:Int) (t6:Addr) (p_7:Addr) (k_8:Int) (Q:VWP) (w:World):Prop :=
 qzd.l1 v_0 t6 p_7 k_8 Q w
def qzd.j1 (v_0 from_1:Int) (t6:Addr) (Q:VWP) (w:World):Prop :=
 lt (⟨World.heapSize w,0,none⟩:Addr) fun a15 =>
 lt (World.alloc w (.cells (zc Try.prog 172) 172)) fun w16 =>
 ((⟨[.int .i64 0,.int .i64 0,.int .i64 0]⟩:Array Value)).size=3 ∧
 stA w16 a15 (⟨[.int .i64 0,.int .i64 0,.int .i64 0]⟩:Array Value) fun w17 =>
 qzd.j2 v_0 t6 a15 from_1 Q w17
def qzd (v_0 from_1:Int) (Q:VWP) (w:World):Prop :=
 lt (⟨World.heapSize w,0,none⟩:Addr) fun a18 =>
 lt (World.alloc w (.cells (zc Try.prog 172) 172)) fun w19 =>
 qzd.j1 v_0 from_1 a18 Q w19
theorem qzd.ok (v_0:Int) (from_1:Int) (Q:VWP) (w:World) (h:qzd v_0 from_1 Q w):Calls Try.prog 158 ⟨[.int .i64 v_0,.int .i64 from_1,.func (.func 160) ⟨[]⟩ ⟨[]⟩]⟩ w (Ret Q):=by
 refine qn [.cell 6 172] Try.func158 rfl rfl rfl rfl ?_
 refine qr (fun ρ w=>asI .i64 (ρ 0) fun v_0=>asI .i64 (ρ 1) fun from_1=>qth 160 (ρ 2) <| asA (ρ 6) fun t6=>qzd.j1 v_0 from_1 t6 Q w) ?_ ?_
 · skip
   exact qg qpb _ (Eq.mp (by kernel_rfl) h)
 · intro ρ w h
   obtain ⟨v_0,e0,h⟩:=qe h
   obtain ⟨from_1,e1,h⟩:=qe h
   obtain ⟨e2,h⟩:=qsc h
   obtain ⟨t6,e6,h⟩:=qbe h
   refine qb e0 (qb (qa e1 rfl) (qb (qa (qa e2 rfl) rfl) (qb (qa (qa (qa e6 rfl) rfl) rfl) ?_)))
   refine qib qpb (fun ρ w=>asI .i64 (ρ 0) fun v_0=>qth 160 (ρ 2) <| asA (ρ 6) fun t6=>asA (ρ 7) fun p_7=>asI .i64 (ρ 8) fun k_8=>qzd.j2 v_0 t6 p_7 k_8 Q w) (Eq.mp (by kernel_rfl) h) ?_
   intro ρ w h
   obtain ⟨v_0,e0,h⟩:=qe h
   obtain ⟨e2,h⟩:=qsc h
   obtain ⟨t6,e6,h⟩:=qbe h
   obtain ⟨p_7,e7,h⟩:=qbe h
   obtain ⟨k_8,e8,h⟩:=qe h
   refine qb e0 (qb (qa e2 rfl) (qb (qa (qa e6 rfl) rfl) (qb (qa (qa (qa e7 rfl) rfl) rfl) (qb (qa (qa (qa (qa e8 rfl) rfl) rfl) rfl) ?_))))
   refine qcb ?_
   obtain ⟨I,μ,hI,hr⟩:=h
   refine qhb (α:=Int) (fun s ρ=>ρ 8=.int .i64 s∧ρ 0=.int .i64 v_0∧ρ 2=.func (.func 160) ⟨[]⟩ ⟨[]⟩∧ρ 6=.pointer (some t6)∧ρ 7=.pointer (some p_7)) (fun s w=>I s w) (fun s w=>μ s w) k_8 ⟨rfl,rfl,rfl,rfl,rfl⟩ hI ?_
   rintro k_8 ρ w ⟨e8,e0,e2,e6,e7⟩ hI
   have h:=hr k_8 w hI
   clear hr
   obtain ⟨nx1,hnx⟩:∃ nx:Int→Addr→Addr→Int→World→Prop,nx=(fun v_0' t6' p_7' k_8' w'=>(v_0'=v_0∧t6'=t6∧p_7'=p_7)∧I k_8' w'∧μ k_8' w' < μ k_8 w):=⟨_,rfl⟩
   rw [← hnx] at h
   refine qob (M:=fun ρ w=>asI .i64 (ρ 0) fun v_0=>qth 160 (ρ 2) <| asA (ρ 6) fun t6=>asA (ρ 7) fun p_7=>asI .i64 (ρ 8) fun k_8=>nx1 v_0 t6 p_7 k_8 w) ?_ (fun ρ w h=>?_)
   · skip
     refine qb e0 (qb (qa e2 rfl) (qb (qa (qa e6 rfl) rfl) (qb (qa (qa (qa e7 rfl) rfl) rfl) (qb (qa (qa (qa (qa e8 rfl) rfl) rfl) rfl) ?_))))
     exact qg qpb _ (Eq.mp (by kernel_rfl) h)
   · skip
     obtain ⟨v_0',e0',h⟩:=qe h
     obtain ⟨e2',h⟩:=qsc h
     obtain ⟨t6',e6',h⟩:=qbe h
     obtain ⟨p_7',e7',h⟩:=qbe h
     obtain ⟨k_8',e8',h⟩:=qe h
     rw [hnx] at h
     obtain ⟨hu,hI2,hμ⟩:=h
     obtain ⟨rfl,rfl,rfl⟩:=hu
     exact ⟨k_8',⟨e8',e0',e2',e6',e7'⟩,hI2,hμ⟩
def qrg (t_0:(Array Value)) (Q:VWP) (w:World):Prop :=
 lt (⟨World.heapSize w,0,none⟩:Addr) fun a1 =>
 lt (World.alloc w (.cells t_0 170)) fun w2 =>
 lt (⟨World.heapSize w2,0,none⟩:Addr) fun a3 =>
 lt (World.alloc w2 (.cells (zc Try.prog 172) 172)) fun w4 =>
 lt (⟨World.heapSize w4,0,none⟩:Addr) fun a5 =>
 lt (World.alloc w4 (.cells (zc Try.prog 172) 172)) fun w6 =>
 ldI .i64 w6 (Addr.add a1 1) fun x7 =>
 br ((x7:Int) == 0) (
 ldI .u8 w6 (Addr.add a1 0) fun x8 =>
 lt (IntKind.i64.wrap x8) fun x9 =>
 ((⟨[.int .i64 x9,.int .i64 0,.int .i64 0]⟩:Array Value)).size=3 ∧
 stA w6 a3 (⟨[.int .i64 x9,.int .i64 0,.int .i64 0]⟩:Array Value) fun w10 =>
 ((⟨[.int .i64 0,.int .i64 0,.int .i64 0]⟩:Array Value)).size=3 ∧
 stA w10 a5 (⟨[.int .i64 0,.int .i64 0,.int .i64 0]⟩:Array Value) fun w11 =>
 ldA w11 a3 3 fun c12 =>
 ldA w11 a5 3 fun c13 =>
 Q (.tuple ⟨[.agg c12,.agg c13,.bool false]⟩) w11) (
 lt (World.drew w6) fun w14 =>
 ldI .i64 w14 (Addr.add a1 1) fun x15 =>
 (Calls Try.prog 158 ⟨[.int .i64 x15,.int .i64 257,.func (.func 159) ⟨[]⟩ ⟨[]⟩]⟩ w14 fun e16 w17 =>
 ∃ r18:(Array Value),e16=.returned (.agg r18) ∧
 ldI .i64 w17 (Addr.add a1 2) fun x19 =>
 Calls Try.prog 158 ⟨[.int .i64 x19,.int .i64 0,.func (.func 160) ⟨[]⟩ ⟨[]⟩]⟩ w17 fun e20 w21 =>
 ∃ r22:(Array Value),e20=.returned (.agg r22) ∧
 (r18).size=3 ∧
 stA w21 a3 r18 fun w23 =>
 (r22).size=3 ∧
 stA w23 a5 r22 fun w24 =>
 ldA w24 a3 3 fun c25 =>
 ldA w24 a5 3 fun c26 =>
 Q (.tuple ⟨[.agg c25,.agg c26,.bool true]⟩) w24)∧(
 ldI .i64 w14 (Addr.add a1 2) fun x27 =>
 Calls Try.prog 158 ⟨[.int .i64 x15,.int .i64 257,.func (.func 159) ⟨[]⟩ ⟨[]⟩]⟩ w14 fun e28 w29 =>
 ∃ r30:(Array Value),e28=.returned (.agg r30) ∧
 Calls Try.prog 158 ⟨[.int .i64 x27,.int .i64 0,.func (.func 160) ⟨[]⟩ ⟨[]⟩]⟩ w29 fun e31 w32 =>
 ∃ r33:(Array Value),e31=.returned (.agg r33) ∧
 (r30).size=3 ∧
 stA w32 a3 r30 fun w34 =>
 (r33).size=3 ∧
 stA w34 a5 r33 fun w35 =>
 ldA w35 a3 3 fun c36 =>
 ldA w35 a5 3 fun c37 =>
 Q (.tuple ⟨[.agg c36,.agg c37,.bool true]⟩) w35))
theorem qrg.ok (t_0:(Array Value)) (Q:VWP) (w:World) (h:qrg t_0 Q w):Calls Try.prog 120 ⟨[.agg t_0]⟩ w (Ret Q):=by
 refine qn [.cell 2 172,.cell 3 172,.tmp 4] Try.func120 rfl rfl rfl rfl ?_
 exact qg qpb _ (Eq.mp (by kernel_rfl) h)
def qqc.j2 (k_3:OAd) (Q:VWP) (w:World):Prop :=
 nz k_3 fun a1 =>
 ldL w (Addr.add a1 1) fun x2 =>
 ixS x2.a x2.len 256 1 fun a3 =>
 ldI .i64 w a3 fun x4 =>
 lt (IntKind.i64.wrap (x4+1)) fun x5 =>
 ixS x2.a x2.len 256 1 fun a6 =>
 st w a6 (.int .i64 x5) fun w7 =>
 Q (.pointer k_3) w7
def qqc.b1 (k_3:OAd) (t14:Sl) (t15 t16:Int) (Q:VWP) (nx1:OAd→Sl→Int→Int→World→Prop) (w:World):Prop :=
 br (decide ((t16:Int) < t15)) (
 ixS t14.a t14.len t16 3 fun a8 =>
 ldA w a8 3 fun c9 =>
 lt (⟨World.heapSize w,0,none⟩:Addr) fun a10 =>
 lt (World.alloc w (.cells (zc Try.prog 170) 170)) fun w11 =>
 (c9).size=3 ∧
 stA w11 a10 c9 fun w12 =>
 ldA w12 a10 3 fun c13 =>
 Calls Try.prog 120 ⟨[.agg c13]⟩ w12 fun e14 w15 =>
 ∃ r16:(Array Value),∃ r17:(Array Value),∃ r18:Bool,e14=.returned (.tuple ⟨[.agg r16,.agg r17,.bool r18]⟩) ∧
 lt (⟨World.heapSize w15,0,none⟩:Addr) fun a19 =>
 lt (World.alloc w15 (.cells (zc Try.prog 172) 172)) fun w20 =>
 lt (⟨World.heapSize w20,0,none⟩:Addr) fun a21 =>
 lt (World.alloc w20 (.cells (zc Try.prog 172) 172)) fun w22 =>
 (r16).size=3 ∧
 stA w22 a19 r16 fun w23 =>
 (r17).size=3 ∧
 stA w23 a21 r17 fun w24 =>
 lt (World.drew w24) fun w25 =>
 nz k_3 fun a26 =>
 ldL w25 (Addr.add a26 1) fun x27 =>
 ldI .i64 w25 (Addr.add a19 0) fun x28 =>
 ixS x27.a x27.len x28 1 fun a29 =>
 ldI .i64 w25 a29 fun x30 =>
 lt (IntKind.i64.wrap (x30+1)) fun x31 =>
 ixS x27.a x27.len x28 1 fun a32 =>
 st w25 a32 (.int .i64 x31) fun w33 =>
 br r18 (
 lt (World.drew w33) fun w34 =>
 nz k_3 fun a35 =>
 ldL w34 (Addr.add a35 2) fun x36 =>
 ldI .i64 w34 (Addr.add a21 0) fun x37 =>
 ixS x36.a x36.len x37 1 fun a38 =>
 ldI .i64 w34 a38 fun x39 =>
 lt (IntKind.i64.wrap (x39+1)) fun x40 =>
 ixS x36.a x36.len x37 1 fun a41 =>
 st w34 a41 (.int .i64 x40) fun w42 =>
 lt (IntKind.i64.wrap (t16+1)) fun x43 =>
 nx1 k_3 t14 t15 x43 w42) (
 lt (IntKind.i64.wrap (t16+1)) fun x44 =>
 nx1 k_3 t14 t15 x44 w33)) (
 qqc.j2 k_3 Q w)
def qqc.l1 (k_3:OAd) (t14:Sl) (t15 t16:Int) (Q:VWP) (w:World):Prop :=
 ∃ (I:Int→World→Prop) (μ:Int→World→Nat),I t16 w∧∀ t16:Int,∀ w:World,I t16 w→qqc.b1 k_3 t14 t15 t16 Q (fun k_3' t14' t15' t16' w'=>(k_3'=k_3∧t14'=t14∧t15'=t15)∧I t16' w'∧μ t16' w' < μ t16 w) w
def qqc.j3 (k_3:OAd) (t14:Sl) (t15 t16:Int) (Q:VWP) (w:World):Prop :=
 qqc.l1 k_3 t14 t15 t16 Q w
def qqc.j1 (l_0:Sl) (k_3:OAd) (Q:VWP) (w:World):Prop :=
 qqc.j3 k_3 l_0 ((l_0.len:Nat):Int) 0 Q w
def qqc (l_0:Sl) (Q:VWP) (w:World):Prop :=
 lt (World.drew w) fun w45 =>
 (mkK Try.prog 3 w45 286 286 fun s46 w47 =>
 mkK Try.prog 3 w47 30 30 fun s48 w49 =>
 lt (⟨World.heapSize w49,0,none⟩:Addr) fun a50 =>
 lt (World.alloc w49 (.cells (⟨[.slice l_0.a l_0.len l_0.cap,.slice s46.a s46.len s46.cap,.slice s48.a s48.len s48.cap]⟩:Array Value) 168)) fun w51 =>
 qqc.j1 l_0 (some a50) Q w51)∧(
 mkK Try.prog 3 w45 30 30 fun s52 w53 =>
 mkK Try.prog 3 w53 286 286 fun s54 w55 =>
 lt (⟨World.heapSize w55,0,none⟩:Addr) fun a56 =>
 lt (World.alloc w55 (.cells (⟨[.slice l_0.a l_0.len l_0.cap,.slice s54.a s54.len s54.cap,.slice s52.a s52.len s52.cap]⟩:Array Value) 168)) fun w57 =>
 qqc.j1 l_0 (some a56) Q w57)
theorem qqc.ok (l_0:Sl) (Q:VWP) (w:World) (h:qqc l_0 Q w):Calls Try.prog 77 ⟨[.slice l_0.a l_0.len l_0.cap]⟩ w (Ret Q):=by
 refine qn [.tmp 2] Try.func77 rfl rfl rfl rfl ?_
 refine qib qpb (fun ρ w=>asL (ρ 0) fun l_0=>asP (ρ 3) fun k_3=>qqc.j1 l_0 k_3 Q w) (Eq.mp (by kernel_rfl) h) ?_
 intro ρ w h
 obtain ⟨l_0,e0,h⟩:=qj h
 obtain ⟨k_3,e3,h⟩:=qw h
 refine qb e0 (qb (qa e3 rfl) ?_)
 refine qr (fun ρ w=>asP (ρ 3) fun k_3=>qqc.j2 k_3 Q w) ?_ ?_
 · skip
   refine qr (fun ρ w=>asP (ρ 3) fun k_3=>asL (ρ 14) fun t14=>asI .i64 (ρ 15) fun t15=>asI .i64 (ρ 16) fun t16=>qqc.j3 k_3 t14 t15 t16 Q w) ?_ ?_
   · skip
     exact qg qpb _ (Eq.mp (by kernel_rfl) h)
   · intro ρ w h
     obtain ⟨k_3,e3,h⟩:=qw h
     obtain ⟨t14,e14,h⟩:=qj h
     obtain ⟨t15,e15,h⟩:=qe h
     obtain ⟨t16,e16,h⟩:=qe h
     refine qb e3 (qb (qa e14 rfl) (qb (qa (qa e15 rfl) rfl) (qb (qa (qa (qa e16 rfl) rfl) rfl) ?_)))
     refine qcb ?_
     obtain ⟨I,μ,hI,hr⟩:=h
     refine qhb (α:=Int) (fun s ρ=>ρ 16=.int .i64 s∧ρ 3=.pointer k_3∧ρ 14=.slice t14.a t14.len t14.cap∧ρ 15=.int .i64 t15) (fun s w=>I s w) (fun s w=>μ s w) t16 ⟨rfl,rfl,rfl,rfl⟩ hI ?_
     rintro t16 ρ w ⟨e16,e3,e14,e15⟩ hI
     have h:=hr t16 w hI
     clear hr
     obtain ⟨nx1,hnx⟩:∃ nx:OAd→Sl→Int→Int→World→Prop,nx=(fun k_3' t14' t15' t16' w'=>(k_3'=k_3∧t14'=t14∧t15'=t15)∧I t16' w'∧μ t16' w' < μ t16 w):=⟨_,rfl⟩
     rw [← hnx] at h
     refine qob (M:=fun ρ w=>asP (ρ 3) fun k_3=>asL (ρ 14) fun t14=>asI .i64 (ρ 15) fun t15=>asI .i64 (ρ 16) fun t16=>nx1 k_3 t14 t15 t16 w) ?_ (fun ρ w h=>?_)
     · skip
       refine qb e3 (qb (qa e14 rfl) (qb (qa (qa e15 rfl) rfl) (qb (qa (qa (qa e16 rfl) rfl) rfl) ?_)))
       exact qg qpb _ (Eq.mp (by kernel_rfl) h)
     · skip
       obtain ⟨k_3',e3',h⟩:=qw h
       obtain ⟨t14',e14',h⟩:=qj h
       obtain ⟨t15',e15',h⟩:=qe h
       obtain ⟨t16',e16',h⟩:=qe h
       rw [hnx] at h
       obtain ⟨hu,hI2,hμ⟩:=h
       obtain ⟨rfl,rfl,rfl⟩:=hu
       exact ⟨t16',⟨e16',e3',e14',e15'⟩,hI2,hμ⟩
 · intro ρ w h
   obtain ⟨k_3,e3,h⟩:=qw h
   refine qb e3 ?_
   exact qg qpb _ (Eq.mp (by kernel_rfl) h)
def qzb.j1 (w_1 lit_2:OAd) (Q:VWP) (w:World):Prop :=
 Calls Try.prog 19 ⟨[.pointer lit_2,.pointer w_1,.int .i64 256]⟩ w fun e1 w2 =>
 ∃ r3:Bool,e1=.returned (.bool r3) ∧
 Q (.tuple ⟨[]⟩) w2
def qzb.b1 (w_1 lit_2 dist_3:OAd) (t16:Sl) (t17 t18:Int) (Q:VWP) (nx1:OAd→OAd→OAd→Sl→Int→Int→World→Prop) (w:World):Prop :=
 br (decide ((t18:Int) < t17)) (
 ixS t16.a t16.len t18 3 fun a4 =>
 ldA w a4 3 fun c5 =>
 lt (⟨World.heapSize w,0,none⟩:Addr) fun a6 =>
 lt (World.alloc w (.cells (zc Try.prog 170) 170)) fun w7 =>
 (c5).size=3 ∧
 stA w7 a6 c5 fun w8 =>
 ldA w8 a6 3 fun c9 =>
 Calls Try.prog 120 ⟨[.agg c9]⟩ w8 fun e10 w11 =>
 ∃ r12:(Array Value),∃ r13:(Array Value),∃ r14:Bool,e10=.returned (.tuple ⟨[.agg r12,.agg r13,.bool r14]⟩) ∧
 lt (⟨World.heapSize w11,0,none⟩:Addr) fun a15 =>
 lt (World.alloc w11 (.cells (zc Try.prog 172) 172)) fun w16 =>
 lt (⟨World.heapSize w16,0,none⟩:Addr) fun a17 =>
 lt (World.alloc w16 (.cells (zc Try.prog 172) 172)) fun w18 =>
 (r12).size=3 ∧
 stA w18 a15 r12 fun w19 =>
 (r13).size=3 ∧
 stA w19 a17 r13 fun w20 =>
 ldI .i64 w20 (Addr.add a15 0) fun x21 =>
 Calls Try.prog 19 ⟨[.pointer lit_2,.pointer w_1,.int .i64 x21]⟩ w20 fun e22 w23 =>
 ∃ r24:Bool,e22=.returned (.bool r24) ∧
 br r14 (
 ldI .i64 w23 (Addr.add a15 1) fun x25 =>
 ldI .i64 w23 (Addr.add a15 2) fun x26 =>
 Calls Try.prog 91 ⟨[.pointer w_1,.int .i64 x25,.int .i64 x26]⟩ w23 fun e27 w28 =>
 e27=.returned (.tuple ⟨[]⟩) ∧
 ldI .i64 w28 (Addr.add a17 0) fun x29 =>
 Calls Try.prog 19 ⟨[.pointer dist_3,.pointer w_1,.int .i64 x29]⟩ w28 fun e30 w31 =>
 ∃ r32:Bool,e30=.returned (.bool r32) ∧
 ldI .i64 w31 (Addr.add a17 1) fun x33 =>
 ldI .i64 w31 (Addr.add a17 2) fun x34 =>
 Calls Try.prog 91 ⟨[.pointer w_1,.int .i64 x33,.int .i64 x34]⟩ w31 fun e35 w36 =>
 e35=.returned (.tuple ⟨[]⟩) ∧
 lt (IntKind.i64.wrap (t18+1)) fun x37 =>
 nx1 w_1 lit_2 dist_3 t16 t17 x37 w36) (
 lt (IntKind.i64.wrap (t18+1)) fun x38 =>
 nx1 w_1 lit_2 dist_3 t16 t17 x38 w23)) (
 qzb.j1 w_1 lit_2 Q w)
def qzb.l1 (w_1 lit_2 dist_3:OAd) (t16:Sl) (t17 t18:Int) (Q:VWP) (w:World):Prop :=
 ∃ (I:Int→World→Prop) (μ:Int→World→Nat),I t18 w∧∀ t18:Int,∀ w:World,I t18 w→qzb.b1 w_1 lit_2 dist_3 t16 t17 t18 Q (fun w_1' lit_2' dist_3' t16' t17' t18' w'=>(w_1'=w_1∧lit_2'=lit_2∧dist_3'=dist_3∧t16'=t16∧t17'=t17)∧I t18' w'∧μ t18' w' < μ t18 w) w
def qzb.j2 (w_1 lit_2 dist_3:OAd) (t16:Sl) (t17 t18:Int) (Q:VWP) (w:World):Prop :=
 qzb.l1 w_1 lit_2 dist_3 t16 t17 t18 Q w
def qzb (k_0 w_1 lit_2 dist_3:OAd) (Q:VWP) (w:World):Prop :=
 nz k_0 fun a39 =>
 ldL w (Addr.add a39 0) fun x40 =>
 qzb.j2 w_1 lit_2 dist_3 x40 ((x40.len:Nat):Int) 0 Q w
theorem qzb.ok (k_0:OAd) (w_1:OAd) (lit_2:OAd) (dist_3:OAd) (Q:VWP) (w:World) (h:qzb k_0 w_1 lit_2 dist_3 Q w):Calls Try.prog 127 ⟨[.pointer k_0,.pointer w_1,.pointer lit_2,.pointer dist_3]⟩ w (Ret Q):=by
 refine qn [] Try.func127 rfl rfl rfl rfl ?_
 refine qr (fun ρ w=>asP (ρ 1) fun w_1=>asP (ρ 2) fun lit_2=>qzb.j1 w_1 lit_2 Q w) ?_ ?_
 · skip
   refine qr (fun ρ w=>asP (ρ 1) fun w_1=>asP (ρ 2) fun lit_2=>asP (ρ 3) fun dist_3=>asL (ρ 16) fun t16=>asI .i64 (ρ 17) fun t17=>asI .i64 (ρ 18) fun t18=>qzb.j2 w_1 lit_2 dist_3 t16 t17 t18 Q w) ?_ ?_
   · skip
     exact qg qpb _ (Eq.mp (by kernel_rfl) h)
   · intro ρ w h
     obtain ⟨w_1,e1,h⟩:=qw h
     obtain ⟨lit_2,e2,h⟩:=qw h
     obtain ⟨dist_3,e3,h⟩:=qw h
     obtain ⟨t16,e16,h⟩:=qj h
     obtain ⟨t17,e17,h⟩:=qe h
     obtain ⟨t18,e18,h⟩:=qe h
     refine qb e1 (qb (qa e2 rfl) (qb (qa (qa e3 rfl) rfl) (qb (qa (qa (qa e16 rfl) rfl) rfl) (qb (qa (qa (qa (qa e17 rfl) rfl) rfl) rfl) (qb (qa (qa (qa (qa (qa e18 rfl) rfl) rfl) rfl) rfl) ?_)))))
     refine qcb ?_
     obtain ⟨I,μ,hI,hr⟩:=h
     refine qhb (α:=Int) (fun s ρ=>ρ 18=.int .i64 s∧ρ 1=.pointer w_1∧ρ 2=.pointer lit_2∧ρ 3=.pointer dist_3∧ρ 16=.slice t16.a t16.len t16.cap∧ρ 17=.int .i64 t17) (fun s w=>I s w) (fun s w=>μ s w) t18 ⟨rfl,rfl,rfl,rfl,rfl,rfl⟩ hI ?_
     rintro t18 ρ w ⟨e18,e1,e2,e3,e16,e17⟩ hI
     have h:=hr t18 w hI
     clear hr
     obtain ⟨nx1,hnx⟩:∃ nx:OAd→OAd→OAd→Sl→Int→Int→World→Prop,nx=(fun w_1' lit_2' dist_3' t16' t17' t18' w'=>(w_1'=w_1∧lit_2'=lit_2∧dist_3'=dist_3∧t16'=t16∧t17'=t17)∧I t18' w'∧μ t18' w' < μ t18 w):=⟨_,rfl⟩
     rw [← hnx] at h
     refine qob (M:=fun ρ w=>asP (ρ 1) fun w_1=>asP (ρ 2) fun lit_2=>asP (ρ 3) fun dist_3=>asL (ρ 16) fun t16=>asI .i64 (ρ 17) fun t17=>asI .i64 (ρ 18) fun t18=>nx1 w_1 lit_2 dist_3 t16 t17 t18 w) ?_ (fun ρ w h=>?_)
     · skip
       refine qb e1 (qb (qa e2 rfl) (qb (qa (qa e3 rfl) rfl) (qb (qa (qa (qa e16 rfl) rfl) rfl) (qb (qa (qa (qa (qa e17 rfl) rfl) rfl) rfl) (qb (qa (qa (qa (qa (qa e18 rfl) rfl) rfl) rfl) rfl) ?_)))))
       exact qg qpb _ (Eq.mp (by kernel_rfl) h)
     · skip
       obtain ⟨w_1',e1',h⟩:=qw h
       obtain ⟨lit_2',e2',h⟩:=qw h
       obtain ⟨dist_3',e3',h⟩:=qw h
       obtain ⟨t16',e16',h⟩:=qj h
       obtain ⟨t17',e17',h⟩:=qe h
       obtain ⟨t18',e18',h⟩:=qe h
       rw [hnx] at h
       obtain ⟨hu,hI2,hμ⟩:=h
       obtain ⟨rfl,rfl,rfl,rfl,rfl⟩:=hu
       exact ⟨t18',⟨e18',e1',e2',e3',e16',e17'⟩,hI2,hμ⟩
 · intro ρ w h
   obtain ⟨w_1,e1,h⟩:=qw h
   obtain ⟨lit_2,e2,h⟩:=qw h
   refine qb e1 (qb (qa e2 rfl) ?_)
   exact qg qpb _ (Eq.mp (by kernel_rfl) h)
def qne (k_0:OAd) (Q:VWP) (w:World):Prop :=
 Calls Try.prog 18 ⟨[]⟩ w fun e1 w2 =>
 ∃ r3:OAd,e1=.returned (.pointer r3) ∧
 Calls Try.prog 91 ⟨[.pointer r3,.int .i64 3,.int .i64 3]⟩ w2 fun e4 w5 =>
 e4=.returned (.tuple ⟨[]⟩) ∧
 Calls Try.prog 126 ⟨[]⟩ w5 fun e6 w7 =>
 ∃ r8:Sl,∃ r9:Sl,e6=.returned (.tuple ⟨[.slice r8.a r8.len r8.cap,.slice r9.a r9.len r9.cap]⟩) ∧
 Calls Try.prog 16 ⟨[.slice r8.a r8.len r8.cap,.bool true]⟩ w7 fun e10 w11 =>
 ∃ r12:OAd,∃ r13:Int,e10=.returned (.tuple ⟨[.pointer r12,.int .i64 r13]⟩) ∧
 Calls Try.prog 16 ⟨[.slice r9.a r9.len r9.cap,.bool true]⟩ w11 fun e14 w15 =>
 ∃ r16:OAd,∃ r17:Int,e14=.returned (.tuple ⟨[.pointer r16,.int .i64 r17]⟩) ∧
 Calls Try.prog 127 ⟨[.pointer k_0,.pointer r3,.pointer r12,.pointer r16]⟩ w15 fun e18 w19 =>
 e18=.returned (.tuple ⟨[]⟩) ∧
 Calls Try.prog 22 ⟨[.pointer r3]⟩ w19 fun e20 w21 =>
 ∃ r22:Sl,e20=.returned (.slice r22.a r22.len r22.cap) ∧
 Q (.slice r22.a r22.len r22.cap) w21
theorem qne.ok (k_0:OAd) (Q:VWP) (w:World) (h:qne k_0 Q w):Calls Try.prog 80 ⟨[.pointer k_0]⟩ w (Ret Q):=by
 refine qn [.tmp 2] Try.func80 rfl rfl rfl rfl ?_
 exact qg qpb _ (Eq.mp (by kernel_rfl) h)
def qeb.j2 (t3:Sl) (Q:VWP) (w:World):Prop :=
 Q (.slice t3.a t3.len t3.cap) w
def qeb.j7 (d_0 t3:Sl) (t4:Int) (t5:Int) (Q:VWP) (nx1:Sl→Sl→Int→World→Prop) (w:World):Prop :=
 lt (IntKind.i64.wrap (t4+t5)) fun x1 =>
 nx1 d_0 t3 x1 w
def qeb.j10 (d_0 t3:Sl) (t4:Int) (t5:Int) (t73:Bool) (Q:VWP) (nx1:Sl→Sl→Int→World→Prop) (w:World):Prop :=
 br t73 (
 lt (if (6:Int) < t5 then 6 else t5) fun x15 =>
 lt (IntKind.i64.wrap (x15 - 3)) fun x16 =>
 ((⟨[.int .i64 16,.int .i64 x16,.int .i64 2]⟩:Array Value)).size=3 ∧
 lt (⟨World.heapSize w,0,none⟩:Addr) fun a17 =>
 lt (World.alloc w (.cells ⟨(spl [.int .i64 0,.int .i64 0,.int .i64 0] 0 (⟨[.int .i64 16,.int .i64 x16,.int .i64 2]⟩:Array Value))⟩ 172)) fun w18 =>
 rdO w18 (some a17) (1 * 3) fun c19 =>
 apK Try.prog 172 w18 t3.a t3.len t3.cap 1 c19 fun s20 w21 =>
 qeb.j7 d_0 s20 t4 x15 Q nx1 w21) (
 ixS d_0.a d_0.len t4 1 fun a22 =>
 ldI .i64 w a22 fun x23 =>
 ((⟨[.int .i64 x23,.int .i64 0,.int .i64 0]⟩:Array Value)).size=3 ∧
 lt (⟨World.heapSize w,0,none⟩:Addr) fun a24 =>
 lt (World.alloc w (.cells ⟨(spl [.int .i64 0,.int .i64 0,.int .i64 0] 0 (⟨[.int .i64 x23,.int .i64 0,.int .i64 0]⟩:Array Value))⟩ 172)) fun w25 =>
 rdO w25 (some a24) (1 * 3) fun c26 =>
 apK Try.prog 172 w25 t3.a t3.len t3.cap 1 c26 fun s27 w28 =>
 qeb.j7 d_0 s27 t4 1 Q nx1 w28)
def qeb.j9 (d_0 t3:Sl) (t4:Int) (t5:Int) (t57:Bool) (Q:VWP) (nx1:Sl→Sl→Int→World→Prop) (w:World):Prop :=
 br t57 (
 lt (IntKind.i64.wrap (t5 - 3)) fun x9 =>
 ((⟨[.int .i64 17,.int .i64 x9,.int .i64 3]⟩:Array Value)).size=3 ∧
 lt (⟨World.heapSize w,0,none⟩:Addr) fun a10 =>
 lt (World.alloc w (.cells ⟨(spl [.int .i64 0,.int .i64 0,.int .i64 0] 0 (⟨[.int .i64 17,.int .i64 x9,.int .i64 3]⟩:Array Value))⟩ 172)) fun w11 =>
 rdO w11 (some a10) (1 * 3) fun c12 =>
 apK Try.prog 172 w11 t3.a t3.len t3.cap 1 c12 fun s13 w14 =>
 qeb.j7 d_0 s13 t4 t5 Q nx1 w14) (
 lt (World.drew w) fun w29 =>
 br (decide ((t4:Int) > 0)) (
 ixS d_0.a d_0.len t4 1 fun a30 =>
 ldI .i64 w29 a30 fun x31 =>
 lt (IntKind.i64.wrap (t4 - 1)) fun x32 =>
 ixS d_0.a d_0.len x32 1 fun a33 =>
 ldI .i64 w29 a33 fun x34 =>
 br ((x31:Int) == x34) (
 qeb.j10 d_0 t3 t4 t5 (decide ((t5:Int) ≥ 3)) Q nx1 w29) (
 qeb.j10 d_0 t3 t4 t5 false Q nx1 w29)) (
 qeb.j10 d_0 t3 t4 t5 false Q nx1 w29))
def qeb.j8 (d_0 t3:Sl) (t4:Int) (t5:Int) (t39:Bool) (Q:VWP) (nx1:Sl→Sl→Int→World→Prop) (w:World):Prop :=
 br t39 (
 lt (if (138:Int) < t5 then 138 else t5) fun x2 =>
 lt (IntKind.i64.wrap (x2 - 11)) fun x3 =>
 ((⟨[.int .i64 18,.int .i64 x3,.int .i64 7]⟩:Array Value)).size=3 ∧
 lt (⟨World.heapSize w,0,none⟩:Addr) fun a4 =>
 lt (World.alloc w (.cells ⟨(spl [.int .i64 0,.int .i64 0,.int .i64 0] 0 (⟨[.int .i64 18,.int .i64 x3,.int .i64 7]⟩:Array Value))⟩ 172)) fun w5 =>
 rdO w5 (some a4) (1 * 3) fun c6 =>
 apK Try.prog 172 w5 t3.a t3.len t3.cap 1 c6 fun s7 w8 =>
 qeb.j7 d_0 s7 t4 x2 Q nx1 w8) (
 ixS d_0.a d_0.len t4 1 fun a35 =>
 ldI .i64 w a35 fun x36 =>
 br ((x36:Int) == 0) (
 qeb.j9 d_0 t3 t4 t5 (decide ((t5:Int) ≥ 3)) Q nx1 w) (
 qeb.j9 d_0 t3 t4 t5 false Q nx1 w))
def qeb.j6 (d_0 t3:Sl) (t4:Int) (t5:Int) (Q:VWP) (nx1:Sl→Sl→Int→World→Prop) (w:World):Prop :=
 ixS d_0.a d_0.len t4 1 fun a37 =>
 ldI .i64 w a37 fun x38 =>
 br ((x38:Int) == 0) (
 qeb.j8 d_0 t3 t4 t5 (decide ((t5:Int) ≥ 11)) Q nx1 w) (
 qeb.j8 d_0 t3 t4 t5 false Q nx1 w)
def qeb.b2 (d_0 t3:Sl) (t4:Int) (t5:Int) (Q:VWP) (nx1:Sl→Sl→Int→World→Prop) (nx2:Sl→Sl→Int→Int→World→Prop) (w:World):Prop :=
 lt (World.drew w) fun w39 =>
 lt (IntKind.i64.wrap (t4+t5)) fun x40 =>
 br (decide ((x40:Int) < ((d_0.len:Nat):Int))) (
 lt (IntKind.i64.wrap (t4+t5)) fun x41 =>
 ixS d_0.a d_0.len x41 1 fun a42 =>
 ldI .i64 w39 a42 fun x43 =>
 ixS d_0.a d_0.len t4 1 fun a44 =>
 ldI .i64 w39 a44 fun x45 =>
 br ((x43:Int) == x45) (
 lt (IntKind.i64.wrap (t5+1)) fun x46 =>
 nx2 d_0 t3 t4 x46 w39) (
 qeb.j6 d_0 t3 t4 t5 Q nx1 w39)) (
 qeb.j6 d_0 t3 t4 t5 Q nx1 w39)
def qeb.l2 (d_0 t3:Sl) (t4:Int) (t5:Int) (Q:VWP) (nx1:Sl→Sl→Int→World→Prop) (w:World):Prop :=
 ∃ (I:Int→World→Prop) (μ:Int→World→Nat),I t5 w∧∀ t5:Int,∀ w:World,I t5 w→qeb.b2 d_0 t3 t4 t5 Q nx1 (fun d_0' t3' t4' t5' w'=>(d_0'=d_0∧t3'=t3∧t4'=t4)∧I t5' w'∧μ t5' w' < μ t5 w) w
def qeb.j5 (d_0 t3:Sl) (t4:Int) (t5:Int) (Q:VWP) (nx1:Sl→Sl→Int→World→Prop) (w:World):Prop :=
 qeb.l2 d_0 t3 t4 t5 Q nx1 w
def qeb.j4 (d_0 t3:Sl) (t4:Int) (Q:VWP) (nx1:Sl→Sl→Int→World→Prop) (w:World):Prop :=
 qeb.j5 d_0 t3 t4 1 Q nx1 w
def qeb.b1 (d_0 t3:Sl) (t4:Int) (Q:VWP) (nx1:Sl→Sl→Int→World→Prop) (w:World):Prop :=
 br (decide ((t4:Int) < ((d_0.len:Nat):Int))) (
 qeb.j4 d_0 t3 t4 Q nx1 w) (
 qeb.j2 t3 Q w)
def qeb.l1 (d_0 t3:Sl) (t4:Int) (Q:VWP) (w:World):Prop :=
 ∃ (I:Sl→Int→World→Prop) (μ:Sl→Int→World→Nat),I t3 t4 w∧∀ t3:Sl,∀ t4:Int,∀ w:World,I t3 t4 w→qeb.b1 d_0 t3 t4 Q (fun d_0' t3' t4' w'=>(d_0'=d_0)∧I t3' t4' w'∧μ t3' t4' w' < μ t3 t4 w) w
def qeb.j3 (d_0 t3:Sl) (t4:Int) (Q:VWP) (w:World):Prop :=
 qeb.l1 d_0 t3 t4 Q w
def qeb.j1 (d_0 t3:Sl) (Q:VWP) (w:World):Prop :=
 qeb.j3 d_0 t3 0 Q w
def qeb (d_0:Sl) (Q:VWP) (w:World):Prop :=
 qeb.j1 d_0 ⟨none,0,0⟩ Q w
theorem qeb.ok (d_0:Sl) (Q:VWP) (w:World) (h:qeb d_0 Q w):Calls Try.prog 129 ⟨[.slice d_0.a d_0.len d_0.cap]⟩ w (Ret Q):=by
 refine qn [.tmp 2] Try.func129 rfl rfl rfl rfl ?_
 refine qib qpb (fun ρ w=>asL (ρ 0) fun d_0=>asL (ρ 3) fun t3=>qeb.j1 d_0 t3 Q w) (Eq.mp (by kernel_rfl) h) ?_
 intro ρ w h
 obtain ⟨d_0,e0,h⟩:=qj h
 obtain ⟨t3,e3,h⟩:=qj h
 refine qb e0 (qb (qa e3 rfl) ?_)
 refine qr (fun ρ w=>asL (ρ 3) fun t3=>qeb.j2 t3 Q w) ?_ ?_
 · skip
   refine qr (fun ρ w=>asL (ρ 0) fun d_0=>asL (ρ 3) fun t3=>asI .i64 (ρ 4) fun t4=>qeb.j3 d_0 t3 t4 Q w) ?_ ?_
   · skip
     exact qg qpb _ (Eq.mp (by kernel_rfl) h)
   · intro ρ w h
     obtain ⟨d_0,e0,h⟩:=qj h
     obtain ⟨t3,e3,h⟩:=qj h
     obtain ⟨t4,e4,h⟩:=qe h
     refine qb e0 (qb (qa e3 rfl) (qb (qa (qa e4 rfl) rfl) ?_))
     refine qcb ?_
     obtain ⟨I,μ,hI,hr⟩:=h
     refine qhb (α:=Sl × Int) (fun s ρ=>ρ 3=.slice s.1.a s.1.len s.1.cap∧ρ 4=.int .i64 s.2∧ρ 0=.slice d_0.a d_0.len d_0.cap) (fun s w=>I s.1 s.2 w) (fun s w=>μ s.1 s.2 w) (t3,t4) ⟨rfl,rfl,rfl⟩ hI ?_
     rintro ⟨t3,t4⟩ ρ w ⟨e3,e4,e0⟩ hI
     have h:=hr t3 t4 w hI
     clear hr
     obtain ⟨nx1,hnx⟩:∃ nx:Sl→Sl→Int→World→Prop,nx=(fun d_0' t3' t4' w'=>(d_0'=d_0)∧I t3' t4' w'∧μ t3' t4' w' < μ t3 t4 w):=⟨_,rfl⟩
     rw [← hnx] at h
     refine qob (M:=fun ρ w=>asL (ρ 0) fun d_0=>asL (ρ 3) fun t3=>asI .i64 (ρ 4) fun t4=>nx1 d_0 t3 t4 w) ?_ (fun ρ w h=>?_)
     · skip
       refine qb e0 (qb (qa e3 rfl) (qb (qa (qa e4 rfl) rfl) ?_))
       refine qr (fun ρ w=>asL (ρ 0) fun d_0=>asL (ρ 3) fun t3=>asI .i64 (ρ 4) fun t4=>qeb.j4 d_0 t3 t4 Q nx1 w) ?_ ?_
       · skip
         exact qg qpb _ (Eq.mp (by kernel_rfl) h)
       · intro ρ w h
         obtain ⟨d_0,e0,h⟩:=qj h
         obtain ⟨t3,e3,h⟩:=qj h
         obtain ⟨t4,e4,h⟩:=qe h
         refine qb e0 (qb (qa e3 rfl) (qb (qa (qa e4 rfl) rfl) ?_))
         refine qcb ?_
         refine qr (fun ρ w=>asL (ρ 0) fun d_0=>asL (ρ 3) fun t3=>asI .i64 (ρ 4) fun t4=>asI .i64 (ρ 5) fun t5=>qeb.j5 d_0 t3 t4 t5 Q nx1 w) ?_ ?_
         · skip
           exact qg qpb _ (Eq.mp (by kernel_rfl) h)
         · intro ρ w h
           obtain ⟨d_0,e0,h⟩:=qj h
           obtain ⟨t3,e3,h⟩:=qj h
           obtain ⟨t4,e4,h⟩:=qe h
           obtain ⟨t5,e5,h⟩:=qe h
           refine qb e0 (qb (qa e3 rfl) (qb (qa (qa e4 rfl) rfl) (qb (qa (qa (qa e5 rfl) rfl) rfl) ?_)))
           refine qr (fun ρ w=>asL (ρ 0) fun d_0=>asL (ρ 3) fun t3=>asI .i64 (ρ 4) fun t4=>asI .i64 (ρ 5) fun t5=>qeb.j6 d_0 t3 t4 t5 Q nx1 w) ?_ ?_
           · skip
             refine qcb ?_
             obtain ⟨I,μ,hI,hr⟩:=h
             refine qhb (α:=Int) (fun s ρ=>ρ 5=.int .i64 s∧ρ 0=.slice d_0.a d_0.len d_0.cap∧ρ 3=.slice t3.a t3.len t3.cap∧ρ 4=.int .i64 t4) (fun s w=>I s w) (fun s w=>μ s w) t5 ⟨rfl,rfl,rfl,rfl⟩ hI ?_
             rintro t5 ρ w ⟨e5,e0,e3,e4⟩ hI
             have h:=hr t5 w hI
             clear hr
             obtain ⟨nx2,hnx⟩:∃ nx:Sl→Sl→Int→Int→World→Prop,nx=(fun d_0' t3' t4' t5' w'=>(d_0'=d_0∧t3'=t3∧t4'=t4)∧I t5' w'∧μ t5' w' < μ t5 w):=⟨_,rfl⟩
             rw [← hnx] at h
             refine qob (M:=fun ρ w=>asL (ρ 0) fun d_0=>asL (ρ 3) fun t3=>asI .i64 (ρ 4) fun t4=>asI .i64 (ρ 5) fun t5=>nx2 d_0 t3 t4 t5 w) ?_ (fun ρ w h=>?_)
             · skip
               refine qb e0 (qb (qa e3 rfl) (qb (qa (qa e4 rfl) rfl) (qb (qa (qa (qa e5 rfl) rfl) rfl) ?_)))
               exact qg qpb _ (Eq.mp (by kernel_rfl) h)
             · skip
               obtain ⟨d_0',e0',h⟩:=qj h
               obtain ⟨t3',e3',h⟩:=qj h
               obtain ⟨t4',e4',h⟩:=qe h
               obtain ⟨t5',e5',h⟩:=qe h
               rw [hnx] at h
               obtain ⟨hu,hI2,hμ⟩:=h
               obtain ⟨rfl,rfl,rfl⟩:=hu
               exact ⟨t5',⟨e5',e0',e3',e4'⟩,hI2,hμ⟩
           · intro ρ w h
             obtain ⟨d_0,e0,h⟩:=qj h
             obtain ⟨t3,e3,h⟩:=qj h
             obtain ⟨t4,e4,h⟩:=qe h
             obtain ⟨t5,e5,h⟩:=qe h
             refine qb e0 (qb (qa e3 rfl) (qb (qa (qa e4 rfl) rfl) (qb (qa (qa (qa e5 rfl) rfl) rfl) ?_)))
             refine qr (fun ρ w=>asL (ρ 0) fun d_0=>asL (ρ 3) fun t3=>asI .i64 (ρ 4) fun t4=>asI .i64 (ρ 5) fun t5=>qeb.j7 d_0 t3 t4 t5 Q nx1 w) ?_ ?_
             · skip
               refine qcb ?_
               refine qr (fun ρ w=>asL (ρ 0) fun d_0=>asL (ρ 3) fun t3=>asI .i64 (ρ 4) fun t4=>asI .i64 (ρ 5) fun t5=>asB (ρ 39) fun t39=>qeb.j8 d_0 t3 t4 t5 t39 Q nx1 w) ?_ ?_
               · skip
                 exact qg qpb _ (Eq.mp (by kernel_rfl) h)
               · intro ρ w h
                 obtain ⟨d_0,e0,h⟩:=qj h
                 obtain ⟨t3,e3,h⟩:=qj h
                 obtain ⟨t4,e4,h⟩:=qe h
                 obtain ⟨t5,e5,h⟩:=qe h
                 obtain ⟨t39,e39,h⟩:=qgd h
                 refine qb e0 (qb (qa e3 rfl) (qb (qa (qa e4 rfl) rfl) (qb (qa (qa (qa e5 rfl) rfl) rfl) (qb (qa (qa (qa (qa e39 rfl) rfl) rfl) rfl) ?_))))
                 refine qal (b:=t39) rfl (fun hb=>?_) (fun hb=>?_)
                 · have h:=br_t h hb
                   exact qg qpb _ (Eq.mp (by kernel_rfl) h)
                 · have h:=br_f h hb
                   refine qr (fun ρ w=>asL (ρ 0) fun d_0=>asL (ρ 3) fun t3=>asI .i64 (ρ 4) fun t4=>asI .i64 (ρ 5) fun t5=>asB (ρ 57) fun t57=>qeb.j9 d_0 t3 t4 t5 t57 Q nx1 w) ?_ ?_
                   · skip
                     exact qg qpb _ (Eq.mp (by kernel_rfl) h)
                   · intro ρ w h
                     obtain ⟨d_0,e0,h⟩:=qj h
                     obtain ⟨t3,e3,h⟩:=qj h
                     obtain ⟨t4,e4,h⟩:=qe h
                     obtain ⟨t5,e5,h⟩:=qe h
                     obtain ⟨t57,e57,h⟩:=qgd h
                     refine qb e0 (qb (qa e3 rfl) (qb (qa (qa e4 rfl) rfl) (qb (qa (qa (qa e5 rfl) rfl) rfl) (qb (qa (qa (qa (qa e57 rfl) rfl) rfl) rfl) ?_))))
                     refine qal (b:=t57) rfl (fun hb=>?_) (fun hb=>?_)
                     · have h:=br_t h hb
                       exact qg qpb _ (Eq.mp (by kernel_rfl) h)
                     · have h:=br_f h hb
                       refine qr (fun ρ w=>asL (ρ 0) fun d_0=>asL (ρ 3) fun t3=>asI .i64 (ρ 4) fun t4=>asI .i64 (ρ 5) fun t5=>asB (ρ 73) fun t73=>qeb.j10 d_0 t3 t4 t5 t73 Q nx1 w) ?_ ?_
                       · skip
                         exact qg qpb _ (Eq.mp (by kernel_rfl) h)
                       · intro ρ w h
                         obtain ⟨d_0,e0,h⟩:=qj h
                         obtain ⟨t3,e3,h⟩:=qj h
                         obtain ⟨t4,e4,h⟩:=qe h
                         obtain ⟨t5,e5,h⟩:=qe h
                         obtain ⟨t73,e73,h⟩:=qgd h
                         refine qb e0 (qb (qa e3 rfl) (qb (qa (qa e4 rfl) rfl) (qb (qa (qa (qa e5 rfl) rfl) rfl) (qb (qa (qa (qa (qa e73 rfl) rfl) rfl) rfl) ?_))))
                         exact qg qpb _ (Eq.mp (by kernel_rfl) h)
             · intro ρ w h
               obtain ⟨d_0,e0,h⟩:=qj h
               obtain ⟨t3,e3,h⟩:=qj h
               obtain ⟨t4,e4,h⟩:=qe h
               obtain ⟨t5,e5,h⟩:=qe h
               refine qb e0 (qb (qa e3 rfl) (qb (qa (qa e4 rfl) rfl) (qb (qa (qa (qa e5 rfl) rfl) rfl) ?_)))
               exact qg qpb _ (Eq.mp (by kernel_rfl) h)
     · skip
       obtain ⟨d_0',e0',h⟩:=qj h
       obtain ⟨t3',e3',h⟩:=qj h
       obtain ⟨t4',e4',h⟩:=qe h
       rw [hnx] at h
       obtain ⟨hu,hI2,hμ⟩:=h
       obtain rfl:=hu
       exact ⟨(t3',t4'),⟨e3',e4',e0'⟩,hI2,hμ⟩
 · intro ρ w h
   obtain ⟨t3,e3,h⟩:=qj h
   refine qb e3 ?_
   exact qg qpb _ (Eq.mp (by kernel_rfl) h)
def qfd.j2 (l_0:Sl) (Q:VWP) (w:World):Prop :=
 Q (.slice l_0.a l_0.len l_0.cap) w
def qfd.b1 (least_1:Int) (l_0:Sl) (Q:VWP) (nx1:Int→Sl→World→Prop) (w:World):Prop :=
 br (decide ((((l_0.len:Nat):Int):Int) > least_1)) (
 lt (IntKind.i64.wrap (((l_0.len:Nat):Int) - 1)) fun x1 =>
 ixS l_0.a l_0.len x1 1 fun a2 =>
 ldI .i64 w a2 fun x3 =>
 br ((x3:Int) == 0) (
 lt (IntKind.i64.wrap (((l_0.len:Nat):Int) - 1)) fun x4 =>
 bd x4 l_0.cap fun n5 =>
 lt (⟨qzf l_0.a l_0.cap 0 1,n5 - 0,l_0.cap - 0⟩:Sl) fun s6 =>
 nx1 least_1 s6 w) (
 qfd.j2 l_0 Q w)) (
 qfd.j2 l_0 Q w)
def qfd.l1 (least_1:Int) (l_0:Sl) (Q:VWP) (w:World):Prop :=
 ∃ (I:Sl→World→Prop) (μ:Sl→World→Nat),I l_0 w∧∀ l_0:Sl,∀ w:World,I l_0 w→qfd.b1 least_1 l_0 Q (fun least_1' l_0' w'=>(least_1'=least_1)∧I l_0' w'∧μ l_0' w' < μ l_0 w) w
def qfd.j1 (l_0:Sl) (least_1:Int) (Q:VWP) (w:World):Prop :=
 qfd.l1 least_1 l_0 Q w
def qfd (l_0:Sl) (least_1:Int) (Q:VWP) (w:World):Prop :=
 qfd.j1 l_0 least_1 Q w
theorem qfd.ok (l_0:Sl) (least_1:Int) (Q:VWP) (w:World) (h:qfd l_0 least_1 Q w):Calls Try.prog 128 ⟨[.slice l_0.a l_0.len l_0.cap,.int .i64 least_1]⟩ w (Ret Q):=by
 refine qn [.tmp 4] Try.func128 rfl rfl rfl rfl ?_
 refine qr (fun ρ w=>asL (ρ 0) fun l_0=>asI .i64 (ρ 1) fun least_1=>qfd.j1 l_0 least_1 Q w) ?_ ?_
 · skip
   exact qg qpb _ (Eq.mp (by kernel_rfl) h)
 · intro ρ w h
   obtain ⟨l_0,e0,h⟩:=qj h
   obtain ⟨least_1,e1,h⟩:=qe h
   refine qb e0 (qb (qa e1 rfl) ?_)
   refine qr (fun ρ w=>asL (ρ 0) fun l_0=>qfd.j2 l_0 Q w) ?_ ?_
   · skip
     refine qcb ?_
     obtain ⟨I,μ,hI,hr⟩:=h
     refine qhb (α:=Sl) (fun s ρ=>ρ 0=.slice s.a s.len s.cap∧ρ 1=.int .i64 least_1) (fun s w=>I s w) (fun s w=>μ s w) l_0 ⟨rfl,rfl⟩ hI ?_
     rintro l_0 ρ w ⟨e0,e1⟩ hI
     have h:=hr l_0 w hI
     clear hr
     obtain ⟨nx1,hnx⟩:∃ nx:Int→Sl→World→Prop,nx=(fun least_1' l_0' w'=>(least_1'=least_1)∧I l_0' w'∧μ l_0' w' < μ l_0 w):=⟨_,rfl⟩
     rw [← hnx] at h
     refine qob (M:=fun ρ w=>asI .i64 (ρ 1) fun least_1=>asL (ρ 0) fun l_0=>nx1 least_1 l_0 w) ?_ (fun ρ w h=>?_)
     · skip
       refine qb e0 (qb (qa e1 rfl) ?_)
       exact qg qpb _ (Eq.mp (by kernel_rfl) h)
     · skip
       obtain ⟨least_1',e1',h⟩:=qe h
       obtain ⟨l_0',e0',h⟩:=qj h
       rw [hnx] at h
       obtain ⟨hu,hI2,hμ⟩:=h
       obtain rfl:=hu
       exact ⟨l_0',⟨e0',e1'⟩,hI2,hμ⟩
   · intro ρ w h
     obtain ⟨l_0,e0,h⟩:=qj h
     refine qb e0 ?_
     exact qg qpb _ (Eq.mp (by kernel_rfl) h)
def qsb.j3 (m_3:Int) (Q:VWP) (w:World):Prop :=
 Q (.int .i64 m_3) w
def qsb.b1 (x_0:Sl) (m_3:Int) (i_4:Int) (Q:VWP) (nx1:Sl→Int→Int→World→Prop) (w:World):Prop :=
 br (decide ((i_4:Int) < ((x_0.len:Nat):Int))) (
 ixS x_0.a x_0.len i_4 1 fun a1 =>
 ldI .i64 w a1 fun x2 =>
 lt (if (x2:Int) > m_3 then x2 else m_3) fun x3 =>
 lt (IntKind.i64.wrap (i_4+1)) fun x4 =>
 nx1 x_0 x3 x4 w) (
 qsb.j3 m_3 Q w)
def qsb.l1 (x_0:Sl) (m_3:Int) (i_4:Int) (Q:VWP) (w:World):Prop :=
 ∃ (I:Int→Int→World→Prop) (μ:Int→Int→World→Nat),I m_3 i_4 w∧∀ m_3:Int,∀ i_4:Int,∀ w:World,I m_3 i_4 w→qsb.b1 x_0 m_3 i_4 Q (fun x_0' m_3' i_4' w'=>(x_0'=x_0)∧I m_3' i_4' w'∧μ m_3' i_4' w' < μ m_3 i_4 w) w
def qsb.j4 (x_0:Sl) (m_3:Int) (i_4:Int) (Q:VWP) (w:World):Prop :=
 qsb.l1 x_0 m_3 i_4 Q w
def qsb.j2 (x_0:Sl) (m_3:Int) (Q:VWP) (w:World):Prop :=
 qsb.j4 x_0 m_3 1 Q w
def qsb.j1 (x_0:Sl) (Q:VWP) (w:World):Prop :=
 br (decide ((((x_0.len:Nat):Int):Int) < 1)) (
 False) (
 ixS x_0.a x_0.len 0 1 fun a5 =>
 ldI .i64 w a5 fun x6 =>
 qsb.j2 x_0 x6 Q w)
def qsb (x_0:Sl) (Q:VWP) (w:World):Prop :=
 qsb.j1 x_0 Q w
theorem qsb.ok (x_0:Sl) (Q:VWP) (w:World) (h:qsb x_0 Q w):Calls Try.prog 130 ⟨[.slice x_0.a x_0.len x_0.cap]⟩ w (Ret Q):=by
 refine qn [.tmp 2] Try.func130 rfl rfl rfl rfl ?_
 refine qr (fun ρ w=>asL (ρ 0) fun x_0=>qsb.j1 x_0 Q w) ?_ ?_
 · skip
   exact qg qpb _ (Eq.mp (by kernel_rfl) h)
 · intro ρ w h
   obtain ⟨x_0,e0,h⟩:=qj h
   refine qb e0 ?_
   refine qib qpb (fun ρ w=>asL (ρ 0) fun x_0=>asI .i64 (ρ 3) fun m_3=>qsb.j2 x_0 m_3 Q w) (Eq.mp (by kernel_rfl) h) ?_
   intro ρ w h
   obtain ⟨x_0,e0,h⟩:=qj h
   obtain ⟨m_3,e3,h⟩:=qe h
   refine qb e0 (qb (qa e3 rfl) ?_)
   refine qr (fun ρ w=>asI .i64 (ρ 3) fun m_3=>qsb.j3 m_3 Q w) ?_ ?_
   · skip
     refine qr (fun ρ w=>asL (ρ 0) fun x_0=>asI .i64 (ρ 3) fun m_3=>asI .i64 (ρ 4) fun i_4=>qsb.j4 x_0 m_3 i_4 Q w) ?_ ?_
     · skip
       exact qg qpb _ (Eq.mp (by kernel_rfl) h)
     · intro ρ w h
       obtain ⟨x_0,e0,h⟩:=qj h
       obtain ⟨m_3,e3,h⟩:=qe h
       obtain ⟨i_4,e4,h⟩:=qe h
       refine qb e0 (qb (qa e3 rfl) (qb (qa (qa e4 rfl) rfl) ?_))
       refine qcb ?_
       obtain ⟨I,μ,hI,hr⟩:=h
       refine qhb (α:=Int × Int) (fun s ρ=>ρ 3=.int .i64 s.1∧ρ 4=.int .i64 s.2∧ρ 0=.slice x_0.a x_0.len x_0.cap) (fun s w=>I s.1 s.2 w) (fun s w=>μ s.1 s.2 w) (m_3,i_4) ⟨rfl,rfl,rfl⟩ hI ?_
       rintro ⟨m_3,i_4⟩ ρ w ⟨e3,e4,e0⟩ hI
       have h:=hr m_3 i_4 w hI
       clear hr
       obtain ⟨nx1,hnx⟩:∃ nx:Sl→Int→Int→World→Prop,nx=(fun x_0' m_3' i_4' w'=>(x_0'=x_0)∧I m_3' i_4' w'∧μ m_3' i_4' w' < μ m_3 i_4 w):=⟨_,rfl⟩
       rw [← hnx] at h
       refine qob (M:=fun ρ w=>asL (ρ 0) fun x_0=>asI .i64 (ρ 3) fun m_3=>asI .i64 (ρ 4) fun i_4=>nx1 x_0 m_3 i_4 w) ?_ (fun ρ w h=>?_)
       · skip
         refine qb e0 (qb (qa e3 rfl) (qb (qa (qa e4 rfl) rfl) ?_))
         exact qg qpb _ (Eq.mp (by kernel_rfl) h)
       · skip
         obtain ⟨x_0',e0',h⟩:=qj h
         obtain ⟨m_3',e3',h⟩:=qe h
         obtain ⟨i_4',e4',h⟩:=qe h
         rw [hnx] at h
         obtain ⟨hu,hI2,hμ⟩:=h
         obtain rfl:=hu
         exact ⟨(m_3',i_4'),⟨e3',e4',e0'⟩,hI2,hμ⟩
   · intro ρ w h
     obtain ⟨m_3,e3,h⟩:=qe h
     refine qb e3 ?_
     exact qg qpb _ (Eq.mp (by kernel_rfl) h)
def qd.j14 (d_0 t7 t9 t21:OAd) (Q:VWP) (w:World):Prop :=
 Calls Try.prog 127 ⟨[.pointer d_0,.pointer t21,.pointer t7,.pointer t9]⟩ w fun e1 w2 =>
 e1=.returned (.tuple ⟨[]⟩) ∧
 Calls Try.prog 22 ⟨[.pointer t21]⟩ w2 fun e3 w4 =>
 ∃ r5:Sl,e3=.returned (.slice r5.a r5.len r5.cap) ∧
 Q (.slice r5.a r5.len r5.cap) w4
def qd.b1 (d_0 t7 t9 t17 t21:OAd) (t153:Sl) (t154 t155:Int) (Q:VWP) (nx1:OAd→OAd→OAd→OAd→OAd→Sl→Int→Int→World→Prop) (w:World):Prop :=
 br (decide ((t155:Int) < t154)) (
 ixS t153.a t153.len t155 3 fun a6 =>
 ldA w a6 3 fun c7 =>
 lt (⟨World.heapSize w,0,none⟩:Addr) fun a8 =>
 lt (World.alloc w (.cells (zc Try.prog 172) 172)) fun w9 =>
 (c7).size=3 ∧
 stA w9 a8 c7 fun w10 =>
 ldI .i64 w10 (Addr.add a8 0) fun x11 =>
 Calls Try.prog 19 ⟨[.pointer t17,.pointer t21,.int .i64 x11]⟩ w10 fun e12 w13 =>
 ∃ r14:Bool,e12=.returned (.bool r14) ∧
 ldI .i64 w13 (Addr.add a8 1) fun x15 =>
 ldI .i64 w13 (Addr.add a8 2) fun x16 =>
 Calls Try.prog 91 ⟨[.pointer t21,.int .i64 x15,.int .i64 x16]⟩ w13 fun e17 w18 =>
 e17=.returned (.tuple ⟨[]⟩) ∧
 lt (IntKind.i64.wrap (t155+1)) fun x19 =>
 nx1 d_0 t7 t9 t17 t21 t153 t154 x19 w18) (
 qd.j14 d_0 t7 t9 t21 Q w)
def qd.l1 (d_0 t7 t9 t17 t21:OAd) (t153:Sl) (t154 t155:Int) (Q:VWP) (w:World):Prop :=
 ∃ (I:Int→World→Prop) (μ:Int→World→Nat),I t155 w∧∀ t155:Int,∀ w:World,I t155 w→qd.b1 d_0 t7 t9 t17 t21 t153 t154 t155 Q (fun d_0' t7' t9' t17' t21' t153' t154' t155' w'=>(d_0'=d_0∧t7'=t7∧t9'=t9∧t17'=t17∧t21'=t21∧t153'=t153∧t154'=t154)∧I t155' w'∧μ t155' w' < μ t155 w) w
def qd.j15 (d_0 t7 t9 t17 t21:OAd) (t153:Sl) (t154 t155:Int) (Q:VWP) (w:World):Prop :=
 qd.l1 d_0 t7 t9 t17 t21 t153 t154 t155 Q w
def qd.j13 (d_0 t7 t9:OAd) (t11:Sl) (t17 t21:OAd) (Q:VWP) (w:World):Prop :=
 qd.j15 d_0 t7 t9 t17 t21 t11 ((t11.len:Nat):Int) 0 Q w
def qd.b2 (d_0 t7 t9:OAd) (t11:Sl) (t15:Sl) (t17:OAd) (t21:OAd) (t140:Sl) (t141 t142:Int) (Q:VWP) (nx2:OAd→OAd→OAd→Sl→Sl→OAd→OAd→Sl→Int→Int→World→Prop) (w:World):Prop :=
 br (decide ((t142:Int) < t141)) (
 ixS t140.a t140.len t142 1 fun a20 =>
 ldI .i64 w a20 fun x21 =>
 ixS t15.a t15.len x21 1 fun a22 =>
 ldI .i64 w a22 fun x23 =>
 Calls Try.prog 91 ⟨[.pointer t21,.int .i64 x23,.int .i64 3]⟩ w fun e24 w25 =>
 e24=.returned (.tuple ⟨[]⟩) ∧
 lt (IntKind.i64.wrap (t142+1)) fun x26 =>
 nx2 d_0 t7 t9 t11 t15 t17 t21 t140 t141 x26 w25) (
 qd.j13 d_0 t7 t9 t11 t17 t21 Q w)
def qd.l2 (d_0 t7 t9:OAd) (t11:Sl) (t15:Sl) (t17:OAd) (t21:OAd) (t140:Sl) (t141 t142:Int) (Q:VWP) (w:World):Prop :=
 ∃ (I:Int→World→Prop) (μ:Int→World→Nat),I t142 w∧∀ t142:Int,∀ w:World,I t142 w→qd.b2 d_0 t7 t9 t11 t15 t17 t21 t140 t141 t142 Q (fun d_0' t7' t9' t11' t15' t17' t21' t140' t141' t142' w'=>(d_0'=d_0∧t7'=t7∧t9'=t9∧t11'=t11∧t15'=t15∧t17'=t17∧t21'=t21∧t140'=t140∧t141'=t141)∧I t142' w'∧μ t142' w' < μ t142 w) w
def qd.j16 (d_0 t7 t9:OAd) (t11:Sl) (t15:Sl) (t17:OAd) (t21:OAd) (t140:Sl) (t141 t142:Int) (Q:VWP) (w:World):Prop :=
 qd.l2 d_0 t7 t9 t11 t15 t17 t21 t140 t141 t142 Q w
def qd.j12 (d_0 t7 t9:OAd) (t11:Sl) (t15:Sl) (t17:OAd) (t19:Sl) (t20:Int) (t21:OAd) (Q:VWP) (w:World):Prop :=
 bd t20 t19.cap fun n27 =>
 lt (⟨qzf t19.a t19.cap 0 1,n27 - 0,t19.cap - 0⟩:Sl) fun s28 =>
 qd.j16 d_0 t7 t9 t11 t15 t17 t21 s28 ((s28.len:Nat):Int) 0 Q w
def qd.j11 (d_0:OAd) (t5:Sl) (t7 t9:OAd) (t11:Sl) (t15:Sl) (t17:OAd) (t19:Sl) (t20:Int) (t21:OAd) (Q:VWP) (w:World):Prop :=
 lt (IntKind.i64.wrap (((t5.len:Nat):Int) - 1)) fun x29 =>
 Calls Try.prog 91 ⟨[.pointer t21,.int .i64 x29,.int .i64 5]⟩ w fun e30 w31 =>
 e30=.returned (.tuple ⟨[]⟩) ∧
 lt (IntKind.i64.wrap (t20 - 4)) fun x32 =>
 Calls Try.prog 91 ⟨[.pointer t21,.int .i64 x32,.int .i64 4]⟩ w31 fun e33 w34 =>
 e33=.returned (.tuple ⟨[]⟩) ∧
 qd.j12 d_0 t7 t9 t11 t15 t17 t19 t20 t21 Q w34
def qd.j10 (d_0:OAd) (t3:Sl) (t5:Sl) (t7:OAd) (t9:OAd) (t11:Sl) (t15:Sl) (t17:OAd) (t19:Sl) (t20:Int) (t21:OAd) (Q:VWP) (w:World):Prop :=
 Calls Try.prog 91 ⟨[.pointer t21,.int .i64 5,.int .i64 3]⟩ w fun e35 w36 =>
 e35=.returned (.tuple ⟨[]⟩) ∧
 lt (IntKind.i64.wrap (((t3.len:Nat):Int) - 256)) fun x37 =>
 lt (IntKind.i64.wrap (x37 - 1)) fun x38 =>
 Calls Try.prog 91 ⟨[.pointer t21,.int .i64 x38,.int .i64 5]⟩ w36 fun e39 w40 =>
 e39=.returned (.tuple ⟨[]⟩) ∧
 qd.j11 d_0 t5 t7 t9 t11 t15 t17 t19 t20 t21 Q w40
def qd.j9 (d_0:OAd) (t3:Sl) (t5:Sl) (t7:OAd) (t9:OAd) (t11:Sl) (t15:Sl) (t17:OAd) (t19:Sl) (t20:Int) (Q:VWP) (w:World):Prop :=
 Calls Try.prog 18 ⟨[]⟩ w fun e41 w42 =>
 ∃ r43:OAd,e41=.returned (.pointer r43) ∧
 qd.j10 d_0 t3 t5 t7 t9 t11 t15 t17 t19 t20 r43 Q w42
def qd.b3 (d_0:OAd) (t3:Sl) (t5:Sl) (t7:OAd) (t9:OAd) (t11:Sl) (t15:Sl) (t17:OAd) (t19:Sl) (t20:Int) (Q:VWP) (nx3:OAd→Sl→Sl→OAd→OAd→Sl→Sl→OAd→Sl→Int→World→Prop) (w:World):Prop :=
 br (decide ((t20:Int) > 4)) (
 lt (IntKind.i64.wrap (t20 - 1)) fun x44 =>
 ixS t19.a t19.len x44 1 fun a45 =>
 ldI .i64 w a45 fun x46 =>
 ixS t15.a t15.len x46 1 fun a47 =>
 ldI .i64 w a47 fun x48 =>
 br ((x48:Int) == 0) (
 lt (IntKind.i64.wrap (t20 - 1)) fun x49 =>
 nx3 d_0 t3 t5 t7 t9 t11 t15 t17 t19 x49 w) (
 qd.j9 d_0 t3 t5 t7 t9 t11 t15 t17 t19 t20 Q w)) (
 qd.j9 d_0 t3 t5 t7 t9 t11 t15 t17 t19 t20 Q w)
def qd.l3 (d_0:OAd) (t3:Sl) (t5:Sl) (t7:OAd) (t9:OAd) (t11:Sl) (t15:Sl) (t17:OAd) (t19:Sl) (t20:Int) (Q:VWP) (w:World):Prop :=
 ∃ (I:Int→World→Prop) (μ:Int→World→Nat),I t20 w∧∀ t20:Int,∀ w:World,I t20 w→qd.b3 d_0 t3 t5 t7 t9 t11 t15 t17 t19 t20 Q (fun d_0' t3' t5' t7' t9' t11' t15' t17' t19' t20' w'=>(d_0'=d_0∧t3'=t3∧t5'=t5∧t7'=t7∧t9'=t9∧t11'=t11∧t15'=t15∧t17'=t17∧t19'=t19)∧I t20' w'∧μ t20' w' < μ t20 w) w
def qd.j8 (d_0:OAd) (t3:Sl) (t5:Sl) (t7:OAd) (t9:OAd) (t11:Sl) (t15:Sl) (t17:OAd) (t19:Sl) (t20:Int) (Q:VWP) (w:World):Prop :=
 qd.l3 d_0 t3 t5 t7 t9 t11 t15 t17 t19 t20 Q w
def qd.j7 (d_0:OAd) (t3:Sl) (t5:Sl) (t7:OAd) (t9:OAd) (t11:Sl) (t15:Sl) (t17:OAd) (Q:VWP) (w:World):Prop :=
 lt (⟨World.heapSize w,0,none⟩:Addr) fun a50 =>
 lt (World.alloc w (.cells ⟨[.int .i64 16,.int .i64 17,.int .i64 18,.int .i64 0,.int .i64 8,.int .i64 7,.int .i64 9,.int .i64 6,.int .i64 10,.int .i64 5,.int .i64 11,.int .i64 4,.int .i64 12,.int .i64 3,.int .i64 13,.int .i64 2,.int .i64 14,.int .i64 1,.int .i64 15]⟩ 3)) fun w51 =>
 qd.j8 d_0 t3 t5 t7 t9 t11 t15 t17 ⟨(some a50),19,19⟩ ((19:Nat):Int) Q w51
def qd.j6 (d_0:OAd) (t3:Sl) (t5:Sl) (t7:OAd) (t9:OAd) (t11:Sl) (t12:Sl) (Q:VWP) (w:World):Prop :=
 Calls Try.prog 11 ⟨[.slice t12.a t12.len t12.cap,.int .i64 7]⟩ w fun e52 w53 =>
 ∃ r54:Sl,∃ r55:Int,e52=.returned (.tuple ⟨[.slice r54.a r54.len r54.cap,.int .i64 r55]⟩) ∧
 Calls Try.prog 16 ⟨[.slice r54.a r54.len r54.cap,.bool false]⟩ w53 fun e56 w57 =>
 ∃ r58:OAd,∃ r59:Int,e56=.returned (.tuple ⟨[.pointer r58,.int .i64 r59]⟩) ∧
 qd.j7 d_0 t3 t5 t7 t9 t11 r54 r58 Q w57
def qd.j5 (d_0:OAd) (t3:Sl) (t5:Sl) (t7:OAd) (t9:OAd) (t11:Sl) (t12:Sl) (Q:VWP) (w:World):Prop :=
 Calls Try.prog 130 ⟨[.slice t12.a t12.len t12.cap]⟩ w fun e60 w61 =>
 ∃ r62:Int,e60=.returned (.int .i64 r62) ∧
 br ((r62:Int) == ((t11.len:Nat):Int)) (
 ixS t11.a t11.len 0 3 fun a63 =>
 ldI .i64 w61 (Addr.add a63 0) fun x64 =>
 lt (IntKind.i64.wrap (x64+1)) fun x65 =>
 (2:Int) ≠ 0 ∧
 lt (Int.tmod x65 2) fun x66 =>
 ixS t12.a t12.len x66 1 fun a67 =>
 ldI .i64 w61 a67 fun x68 =>
 lt (IntKind.i64.wrap (x68+1)) fun x69 =>
 ixS t12.a t12.len x66 1 fun a70 =>
 st w61 a70 (.int .i64 x69) fun w71 =>
 qd.j6 d_0 t3 t5 t7 t9 t11 t12 Q w71) (
 qd.j6 d_0 t3 t5 t7 t9 t11 t12 Q w61)
def qd.b4 (d_0:OAd) (t3:Sl) (t5:Sl) (t7:OAd) (t9:OAd) (t11:Sl) (t12 t62:Sl) (t63:Int) (t64:Int) (Q:VWP) (nx4:OAd→Sl→Sl→OAd→OAd→Sl→Sl→Sl→Int→Int→World→Prop) (w:World):Prop :=
 br (decide ((t64:Int) < t63)) (
 ixS t62.a t62.len t64 3 fun a72 =>
 ldA w a72 3 fun c73 =>
 lt (⟨World.heapSize w,0,none⟩:Addr) fun a74 =>
 lt (World.alloc w (.cells (zc Try.prog 172) 172)) fun w75 =>
 (c73).size=3 ∧
 stA w75 a74 c73 fun w76 =>
 ldI .i64 w76 (Addr.add a74 0) fun x77 =>
 ixS t12.a t12.len x77 1 fun a78 =>
 ldI .i64 w76 a78 fun x79 =>
 lt (IntKind.i64.wrap (x79+1)) fun x80 =>
 ixS t12.a t12.len x77 1 fun a81 =>
 st w76 a81 (.int .i64 x80) fun w82 =>
 lt (IntKind.i64.wrap (t64+1)) fun x83 =>
 nx4 d_0 t3 t5 t7 t9 t11 t12 t62 t63 x83 w82) (
 qd.j5 d_0 t3 t5 t7 t9 t11 t12 Q w)
def qd.l4 (d_0:OAd) (t3:Sl) (t5:Sl) (t7:OAd) (t9:OAd) (t11:Sl) (t12 t62:Sl) (t63:Int) (t64:Int) (Q:VWP) (w:World):Prop :=
 ∃ (I:Int→World→Prop) (μ:Int→World→Nat),I t64 w∧∀ t64:Int,∀ w:World,I t64 w→qd.b4 d_0 t3 t5 t7 t9 t11 t12 t62 t63 t64 Q (fun d_0' t3' t5' t7' t9' t11' t12' t62' t63' t64' w'=>(d_0'=d_0∧t3'=t3∧t5'=t5∧t7'=t7∧t9'=t9∧t11'=t11∧t12'=t12∧t62'=t62∧t63'=t63)∧I t64' w'∧μ t64' w' < μ t64 w) w
def qd.j17 (d_0:OAd) (t3:Sl) (t5:Sl) (t7:OAd) (t9:OAd) (t11:Sl) (t12 t62:Sl) (t63:Int) (t64:Int) (Q:VWP) (w:World):Prop :=
 qd.l4 d_0 t3 t5 t7 t9 t11 t12 t62 t63 t64 Q w
def qd.j4 (d_0:OAd) (t3:Sl) (t5:Sl) (t7:OAd) (t9:OAd) (t11:Sl) (t12:Sl) (Q:VWP) (w:World):Prop :=
 qd.j17 d_0 t3 t5 t7 t9 t11 t12 t11 ((t11.len:Nat):Int) 0 Q w
def qd.j3 (d_0:OAd) (t3:Sl) (t5:Sl) (t7:OAd) (t9:OAd) (Q:VWP) (w:World):Prop :=
 lt (⟨World.heapSize w,0,none⟩:Addr) fun a84 =>
 lt (World.alloc w (.cells ⟨[.slice t3.a t3.len t3.cap,.slice t5.a t5.len t5.cap]⟩ 22)) fun w85 =>
 Calls Try.prog 88 ⟨[.slice (some a84) 2 2]⟩ w85 fun e86 w87 =>
 ∃ r88:Sl,e86=.returned (.slice r88.a r88.len r88.cap) ∧
 Calls Try.prog 129 ⟨[.slice r88.a r88.len r88.cap]⟩ w87 fun e89 w90 =>
 ∃ r91:Sl,e89=.returned (.slice r91.a r91.len r91.cap) ∧
 mkK Try.prog 3 w90 19 19 fun s92 w93 =>
 qd.j4 d_0 t3 t5 t7 t9 r91 s92 Q w93
def qd.j2 (d_0:OAd) (t3:Sl) (t5:Sl) (t7:OAd) (Q:VWP) (w:World):Prop :=
 Calls Try.prog 16 ⟨[.slice t5.a t5.len t5.cap,.bool true]⟩ w fun e94 w95 =>
 ∃ r96:OAd,∃ r97:Int,e94=.returned (.tuple ⟨[.pointer r96,.int .i64 r97]⟩) ∧
 Calls Try.prog 128 ⟨[.slice t3.a t3.len t3.cap,.int .i64 257]⟩ w95 fun e98 w99 =>
 ∃ r100:Sl,e98=.returned (.slice r100.a r100.len r100.cap) ∧
 Calls Try.prog 128 ⟨[.slice t5.a t5.len t5.cap,.int .i64 1]⟩ w99 fun e101 w102 =>
 ∃ r103:Sl,e101=.returned (.slice r103.a r103.len r103.cap) ∧
 qd.j3 d_0 r100 r103 t7 r96 Q w102
def qd.j1 (d_0:OAd) (t3:Sl) (Q:VWP) (w:World):Prop :=
 nz d_0 fun a104 =>
 ldL w (Addr.add a104 2) fun x105 =>
 Calls Try.prog 11 ⟨[.slice x105.a x105.len x105.cap,.int .i64 15]⟩ w fun e106 w107 =>
 ∃ r108:Sl,∃ r109:Int,e106=.returned (.tuple ⟨[.slice r108.a r108.len r108.cap,.int .i64 r109]⟩) ∧
 Calls Try.prog 16 ⟨[.slice t3.a t3.len t3.cap,.bool true]⟩ w107 fun e110 w111 =>
 ∃ r112:OAd,∃ r113:Int,e110=.returned (.tuple ⟨[.pointer r112,.int .i64 r113]⟩) ∧
 qd.j2 d_0 t3 r108 r112 Q w111
def qd (d_0:OAd) (Q:VWP) (w:World):Prop :=
 nz d_0 fun a114 =>
 ldL w (Addr.add a114 1) fun x115 =>
 Calls Try.prog 11 ⟨[.slice x115.a x115.len x115.cap,.int .i64 15]⟩ w fun e116 w117 =>
 ∃ r118:Sl,∃ r119:Int,e116=.returned (.tuple ⟨[.slice r118.a r118.len r118.cap,.int .i64 r119]⟩) ∧
 qd.j1 d_0 r118 Q w117
theorem qd.ok (d_0:OAd) (Q:VWP) (w:World) (h:qd d_0 Q w):Calls Try.prog 81 ⟨[.pointer d_0]⟩ w (Ret Q):=by
 refine qn [.tmp 2] Try.func81 rfl rfl rfl rfl ?_
 refine qib qpb (fun ρ w=>asP (ρ 0) fun d_0=>asL (ρ 3) fun t3=>qd.j1 d_0 t3 Q w) (Eq.mp (by kernel_rfl) h) ?_
 intro ρ w h
 obtain ⟨d_0,e0,h⟩:=qw h
 obtain ⟨t3,e3,h⟩:=qj h
 refine qb e0 (qb (qa e3 rfl) ?_)
 refine qib qpb (fun ρ w=>asP (ρ 0) fun d_0=>asL (ρ 3) fun t3=>asL (ρ 5) fun t5=>asP (ρ 7) fun t7=>qd.j2 d_0 t3 t5 t7 Q w) (Eq.mp (by kernel_rfl) h) ?_
 intro ρ w h
 obtain ⟨d_0,e0,h⟩:=qw h
 obtain ⟨t3,e3,h⟩:=qj h
 obtain ⟨t5,e5,h⟩:=qj h
 obtain ⟨t7,e7,h⟩:=qw h
 refine qb e0 (qb (qa e3 rfl) (qb (qa (qa e5 rfl) rfl) (qb (qa (qa (qa e7 rfl) rfl) rfl) ?_)))
 refine qib qpb (fun ρ w=>asP (ρ 0) fun d_0=>asL (ρ 3) fun t3=>asL (ρ 5) fun t5=>asP (ρ 7) fun t7=>asP (ρ 9) fun t9=>qd.j3 d_0 t3 t5 t7 t9 Q w) (Eq.mp (by kernel_rfl) h) ?_
 intro ρ w h
 obtain ⟨d_0,e0,h⟩:=qw h
 obtain ⟨t3,e3,h⟩:=qj h
 obtain ⟨t5,e5,h⟩:=qj h
 obtain ⟨t7,e7,h⟩:=qw h
 obtain ⟨t9,e9,h⟩:=qw h
 refine qb e0 (qb (qa e3 rfl) (qb (qa (qa e5 rfl) rfl) (qb (qa (qa (qa e7 rfl) rfl) rfl) (qb (qa (qa (qa (qa e9 rfl) rfl) rfl) rfl) ?_))))
 refine qib qpb (fun ρ w=>asP (ρ 0) fun d_0=>asL (ρ 3) fun t3=>asL (ρ 5) fun t5=>asP (ρ 7) fun t7=>asP (ρ 9) fun t9=>asL (ρ 11) fun t11=>asL (ρ 12) fun t12=>qd.j4 d_0 t3 t5 t7 t9 t11 t12 Q w) (Eq.mp (by kernel_rfl) h) ?_
 intro ρ w h
 obtain ⟨d_0,e0,h⟩:=qw h
 obtain ⟨t3,e3,h⟩:=qj h
 obtain ⟨t5,e5,h⟩:=qj h
 obtain ⟨t7,e7,h⟩:=qw h
 obtain ⟨t9,e9,h⟩:=qw h
 obtain ⟨t11,e11,h⟩:=qj h
 obtain ⟨t12,e12,h⟩:=qj h
 refine qb e0 (qb (qa e3 rfl) (qb (qa (qa e5 rfl) rfl) (qb (qa (qa (qa e7 rfl) rfl) rfl) (qb (qa (qa (qa (qa e9 rfl) rfl) rfl) rfl) (qb (qa (qa (qa (qa (qa e11 rfl) rfl) rfl) rfl) rfl) (qb (qa (qa (qa (qa (qa (qa e12 rfl) rfl) rfl) rfl) rfl) rfl) ?_))))))
 refine qr (fun ρ w=>asP (ρ 0) fun d_0=>asL (ρ 3) fun t3=>asL (ρ 5) fun t5=>asP (ρ 7) fun t7=>asP (ρ 9) fun t9=>asL (ρ 11) fun t11=>asL (ρ 12) fun t12=>qd.j5 d_0 t3 t5 t7 t9 t11 t12 Q w) ?_ ?_
 · skip
   refine qr (fun ρ w=>asP (ρ 0) fun d_0=>asL (ρ 3) fun t3=>asL (ρ 5) fun t5=>asP (ρ 7) fun t7=>asP (ρ 9) fun t9=>asL (ρ 11) fun t11=>asL (ρ 12) fun t12=>asL (ρ 62) fun t62=>asI .i64 (ρ 63) fun t63=>asI .i64 (ρ 64) fun t64=>qd.j17 d_0 t3 t5 t7 t9 t11 t12 t62 t63 t64 Q w) ?_ ?_
   · skip
     exact qg qpb _ (Eq.mp (by kernel_rfl) h)
   · intro ρ w h
     obtain ⟨d_0,e0,h⟩:=qw h
     obtain ⟨t3,e3,h⟩:=qj h
     obtain ⟨t5,e5,h⟩:=qj h
     obtain ⟨t7,e7,h⟩:=qw h
     obtain ⟨t9,e9,h⟩:=qw h
     obtain ⟨t11,e11,h⟩:=qj h
     obtain ⟨t12,e12,h⟩:=qj h
     obtain ⟨t62,e62,h⟩:=qj h
     obtain ⟨t63,e63,h⟩:=qe h
     obtain ⟨t64,e64,h⟩:=qe h
     refine qb e0 (qb (qa e3 rfl) (qb (qa (qa e5 rfl) rfl) (qb (qa (qa (qa e7 rfl) rfl) rfl) (qb (qa (qa (qa (qa e9 rfl) rfl) rfl) rfl) (qb (qa (qa (qa (qa (qa e11 rfl) rfl) rfl) rfl) rfl) (qb (qa (qa (qa (qa (qa (qa e12 rfl) rfl) rfl) rfl) rfl) rfl) (qb (qa (qa (qa (qa (qa (qa (qa e62 rfl) rfl) rfl) rfl) rfl) rfl) rfl) (qb (qa (qa (qa (qa (qa (qa (qa (qa e63 rfl) rfl) rfl) rfl) rfl) rfl) rfl) rfl) (qb (qa (qa (qa (qa (qa (qa (qa (qa (qa e64 rfl) rfl) rfl) rfl) rfl) rfl) rfl) rfl) rfl) ?_)))))))))
     refine qcb ?_
     obtain ⟨I,μ,hI,hr⟩:=h
     refine qhb (α:=Int) (fun s ρ=>ρ 64=.int .i64 s∧ρ 0=.pointer d_0∧ρ 3=.slice t3.a t3.len t3.cap∧ρ 5=.slice t5.a t5.len t5.cap∧ρ 7=.pointer t7∧ρ 9=.pointer t9∧ρ 11=.slice t11.a t11.len t11.cap∧ρ 12=.slice t12.a t12.len t12.cap∧ρ 62=.slice t62.a t62.len t62.cap∧ρ 63=.int .i64 t63) (fun s w=>I s w) (fun s w=>μ s w) t64 ⟨rfl,rfl,rfl,rfl,rfl,rfl,rfl,rfl,rfl,rfl⟩ hI ?_
     rintro t64 ρ w ⟨e64,e0,e3,e5,e7,e9,e11,e12,e62,e63⟩ hI
     have h:=hr t64 w hI
     clear hr
     obtain ⟨nx4,hnx⟩:∃ nx:OAd→Sl→Sl→OAd→OAd→Sl→Sl→Sl→Int→Int→World→Prop,nx=(fun d_0' t3' t5' t7' t9' t11' t12' t62' t63' t64' w'=>(d_0'=d_0∧t3'=t3∧t5'=t5∧t7'=t7∧t9'=t9∧t11'=t11∧t12'=t12∧t62'=t62∧t63'=t63)∧I t64' w'∧μ t64' w' < μ t64 w):=⟨_,rfl⟩
     rw [← hnx] at h
     refine qob (M:=fun ρ w=>asP (ρ 0) fun d_0=>asL (ρ 3) fun t3=>asL (ρ 5) fun t5=>asP (ρ 7) fun t7=>asP (ρ 9) fun t9=>asL (ρ 11) fun t11=>asL (ρ 12) fun t12=>asL (ρ 62) fun t62=>asI .i64 (ρ 63) fun t63=>asI .i64 (ρ 64) fun t64=>nx4 d_0 t3 t5 t7 t9 t11 t12 t62 t63 t64 w) ?_ (fun ρ w h=>?_)
     · skip
       refine qb e0 (qb (qa e3 rfl) (qb (qa (qa e5 rfl) rfl) (qb (qa (qa (qa e7 rfl) rfl) rfl) (qb (qa (qa (qa (qa e9 rfl) rfl) rfl) rfl) (qb (qa (qa (qa (qa (qa e11 rfl) rfl) rfl) rfl) rfl) (qb (qa (qa (qa (qa (qa (qa e12 rfl) rfl) rfl) rfl) rfl) rfl) (qb (qa (qa (qa (qa (qa (qa (qa e62 rfl) rfl) rfl) rfl) rfl) rfl) rfl) (qb (qa (qa (qa (qa (qa (qa (qa (qa e63 rfl) rfl) rfl) rfl) rfl) rfl) rfl) rfl) (qb (qa (qa (qa (qa (qa (qa (qa (qa (qa e64 rfl) rfl) rfl) rfl) rfl) rfl) rfl) rfl) rfl) ?_)))))))))
       exact qg qpb _ (Eq.mp (by kernel_rfl) h)
     · skip
       obtain ⟨d_0',e0',h⟩:=qw h
       obtain ⟨t3',e3',h⟩:=qj h
       obtain ⟨t5',e5',h⟩:=qj h
       obtain ⟨t7',e7',h⟩:=qw h
       obtain ⟨t9',e9',h⟩:=qw h
       obtain ⟨t11',e11',h⟩:=qj h
       obtain ⟨t12',e12',h⟩:=qj h
       obtain ⟨t62',e62',h⟩:=qj h
       obtain ⟨t63',e63',h⟩:=qe h
       obtain ⟨t64',e64',h⟩:=qe h
       rw [hnx] at h
       obtain ⟨hu,hI2,hμ⟩:=h
       obtain ⟨rfl,rfl,rfl,rfl,rfl,rfl,rfl,rfl,rfl⟩:=hu
       exact ⟨t64',⟨e64',e0',e3',e5',e7',e9',e11',e12',e62',e63'⟩,hI2,hμ⟩
 · intro ρ w h
   obtain ⟨d_0,e0,h⟩:=qw h
   obtain ⟨t3,e3,h⟩:=qj h
   obtain ⟨t5,e5,h⟩:=qj h
   obtain ⟨t7,e7,h⟩:=qw h
   obtain ⟨t9,e9,h⟩:=qw h
   obtain ⟨t11,e11,h⟩:=qj h
   obtain ⟨t12,e12,h⟩:=qj h
   refine qb e0 (qb (qa e3 rfl) (qb (qa (qa e5 rfl) rfl) (qb (qa (qa (qa e7 rfl) rfl) rfl) (qb (qa (qa (qa (qa e9 rfl) rfl) rfl) rfl) (qb (qa (qa (qa (qa (qa e11 rfl) rfl) rfl) rfl) rfl) (qb (qa (qa (qa (qa (qa (qa e12 rfl) rfl) rfl) rfl) rfl) rfl) ?_))))))
   refine qr (fun ρ w=>asP (ρ 0) fun d_0=>asL (ρ 3) fun t3=>asL (ρ 5) fun t5=>asP (ρ 7) fun t7=>asP (ρ 9) fun t9=>asL (ρ 11) fun t11=>asL (ρ 12) fun t12=>qd.j6 d_0 t3 t5 t7 t9 t11 t12 Q w) ?_ ?_
   · skip
     exact qg qpb _ (Eq.mp (by kernel_rfl) h)
   · intro ρ w h
     obtain ⟨d_0,e0,h⟩:=qw h
     obtain ⟨t3,e3,h⟩:=qj h
     obtain ⟨t5,e5,h⟩:=qj h
     obtain ⟨t7,e7,h⟩:=qw h
     obtain ⟨t9,e9,h⟩:=qw h
     obtain ⟨t11,e11,h⟩:=qj h
     obtain ⟨t12,e12,h⟩:=qj h
     refine qb e0 (qb (qa e3 rfl) (qb (qa (qa e5 rfl) rfl) (qb (qa (qa (qa e7 rfl) rfl) rfl) (qb (qa (qa (qa (qa e9 rfl) rfl) rfl) rfl) (qb (qa (qa (qa (qa (qa e11 rfl) rfl) rfl) rfl) rfl) (qb (qa (qa (qa (qa (qa (qa e12 rfl) rfl) rfl) rfl) rfl) rfl) ?_))))))
     refine qib qpb (fun ρ w=>asP (ρ 0) fun d_0=>asL (ρ 3) fun t3=>asL (ρ 5) fun t5=>asP (ρ 7) fun t7=>asP (ρ 9) fun t9=>asL (ρ 11) fun t11=>asL (ρ 15) fun t15=>asP (ρ 17) fun t17=>qd.j7 d_0 t3 t5 t7 t9 t11 t15 t17 Q w) (Eq.mp (by kernel_rfl) h) ?_
     intro ρ w h
     obtain ⟨d_0,e0,h⟩:=qw h
     obtain ⟨t3,e3,h⟩:=qj h
     obtain ⟨t5,e5,h⟩:=qj h
     obtain ⟨t7,e7,h⟩:=qw h
     obtain ⟨t9,e9,h⟩:=qw h
     obtain ⟨t11,e11,h⟩:=qj h
     obtain ⟨t15,e15,h⟩:=qj h
     obtain ⟨t17,e17,h⟩:=qw h
     refine qb e0 (qb (qa e3 rfl) (qb (qa (qa e5 rfl) rfl) (qb (qa (qa (qa e7 rfl) rfl) rfl) (qb (qa (qa (qa (qa e9 rfl) rfl) rfl) rfl) (qb (qa (qa (qa (qa (qa e11 rfl) rfl) rfl) rfl) rfl) (qb (qa (qa (qa (qa (qa (qa e15 rfl) rfl) rfl) rfl) rfl) rfl) (qb (qa (qa (qa (qa (qa (qa (qa e17 rfl) rfl) rfl) rfl) rfl) rfl) rfl) ?_)))))))
     refine qib qpb (fun ρ w=>asP (ρ 0) fun d_0=>asL (ρ 3) fun t3=>asL (ρ 5) fun t5=>asP (ρ 7) fun t7=>asP (ρ 9) fun t9=>asL (ρ 11) fun t11=>asL (ρ 15) fun t15=>asP (ρ 17) fun t17=>asL (ρ 19) fun t19=>asI .i64 (ρ 20) fun t20=>qd.j8 d_0 t3 t5 t7 t9 t11 t15 t17 t19 t20 Q w) (Eq.mp (by kernel_rfl) h) ?_
     intro ρ w h
     obtain ⟨d_0,e0,h⟩:=qw h
     obtain ⟨t3,e3,h⟩:=qj h
     obtain ⟨t5,e5,h⟩:=qj h
     obtain ⟨t7,e7,h⟩:=qw h
     obtain ⟨t9,e9,h⟩:=qw h
     obtain ⟨t11,e11,h⟩:=qj h
     obtain ⟨t15,e15,h⟩:=qj h
     obtain ⟨t17,e17,h⟩:=qw h
     obtain ⟨t19,e19,h⟩:=qj h
     obtain ⟨t20,e20,h⟩:=qe h
     refine qb e0 (qb (qa e3 rfl) (qb (qa (qa e5 rfl) rfl) (qb (qa (qa (qa e7 rfl) rfl) rfl) (qb (qa (qa (qa (qa e9 rfl) rfl) rfl) rfl) (qb (qa (qa (qa (qa (qa e11 rfl) rfl) rfl) rfl) rfl) (qb (qa (qa (qa (qa (qa (qa e15 rfl) rfl) rfl) rfl) rfl) rfl) (qb (qa (qa (qa (qa (qa (qa (qa e17 rfl) rfl) rfl) rfl) rfl) rfl) rfl) (qb (qa (qa (qa (qa (qa (qa (qa (qa e19 rfl) rfl) rfl) rfl) rfl) rfl) rfl) rfl) (qb (qa (qa (qa (qa (qa (qa (qa (qa (qa e20 rfl) rfl) rfl) rfl) rfl) rfl) rfl) rfl) rfl) ?_)))))))))
     refine qr (fun ρ w=>asP (ρ 0) fun d_0=>asL (ρ 3) fun t3=>asL (ρ 5) fun t5=>asP (ρ 7) fun t7=>asP (ρ 9) fun t9=>asL (ρ 11) fun t11=>asL (ρ 15) fun t15=>asP (ρ 17) fun t17=>asL (ρ 19) fun t19=>asI .i64 (ρ 20) fun t20=>qd.j9 d_0 t3 t5 t7 t9 t11 t15 t17 t19 t20 Q w) ?_ ?_
     · skip
       refine qcb ?_
       obtain ⟨I,μ,hI,hr⟩:=h
       refine qhb (α:=Int) (fun s ρ=>ρ 20=.int .i64 s∧ρ 0=.pointer d_0∧ρ 3=.slice t3.a t3.len t3.cap∧ρ 5=.slice t5.a t5.len t5.cap∧ρ 7=.pointer t7∧ρ 9=.pointer t9∧ρ 11=.slice t11.a t11.len t11.cap∧ρ 15=.slice t15.a t15.len t15.cap∧ρ 17=.pointer t17∧ρ 19=.slice t19.a t19.len t19.cap) (fun s w=>I s w) (fun s w=>μ s w) t20 ⟨rfl,rfl,rfl,rfl,rfl,rfl,rfl,rfl,rfl,rfl⟩ hI ?_
       rintro t20 ρ w ⟨e20,e0,e3,e5,e7,e9,e11,e15,e17,e19⟩ hI
       have h:=hr t20 w hI
       clear hr
       obtain ⟨nx3,hnx⟩:∃ nx:OAd→Sl→Sl→OAd→OAd→Sl→Sl→OAd→Sl→Int→World→Prop,nx=(fun d_0' t3' t5' t7' t9' t11' t15' t17' t19' t20' w'=>(d_0'=d_0∧t3'=t3∧t5'=t5∧t7'=t7∧t9'=t9∧t11'=t11∧t15'=t15∧t17'=t17∧t19'=t19)∧I t20' w'∧μ t20' w' < μ t20 w):=⟨_,rfl⟩
       rw [← hnx] at h
       refine qob (M:=fun ρ w=>asP (ρ 0) fun d_0=>asL (ρ 3) fun t3=>asL (ρ 5) fun t5=>asP (ρ 7) fun t7=>asP (ρ 9) fun t9=>asL (ρ 11) fun t11=>asL (ρ 15) fun t15=>asP (ρ 17) fun t17=>asL (ρ 19) fun t19=>asI .i64 (ρ 20) fun t20=>nx3 d_0 t3 t5 t7 t9 t11 t15 t17 t19 t20 w) ?_ (fun ρ w h=>?_)
       · skip
         refine qb e0 (qb (qa e3 rfl) (qb (qa (qa e5 rfl) rfl) (qb (qa (qa (qa e7 rfl) rfl) rfl) (qb (qa (qa (qa (qa e9 rfl) rfl) rfl) rfl) (qb (qa (qa (qa (qa (qa e11 rfl) rfl) rfl) rfl) rfl) (qb (qa (qa (qa (qa (qa (qa e15 rfl) rfl) rfl) rfl) rfl) rfl) (qb (qa (qa (qa (qa (qa (qa (qa e17 rfl) rfl) rfl) rfl) rfl) rfl) rfl) (qb (qa (qa (qa (qa (qa (qa (qa (qa e19 rfl) rfl) rfl) rfl) rfl) rfl) rfl) rfl) (qb (qa (qa (qa (qa (qa (qa (qa (qa (qa e20 rfl) rfl) rfl) rfl) rfl) rfl) rfl) rfl) rfl) ?_)))))))))
         exact qg qpb _ (Eq.mp (by kernel_rfl) h)
       · skip
         obtain ⟨d_0',e0',h⟩:=qw h
         obtain ⟨t3',e3',h⟩:=qj h
         obtain ⟨t5',e5',h⟩:=qj h
         obtain ⟨t7',e7',h⟩:=qw h
         obtain ⟨t9',e9',h⟩:=qw h
         obtain ⟨t11',e11',h⟩:=qj h
         obtain ⟨t15',e15',h⟩:=qj h
         obtain ⟨t17',e17',h⟩:=qw h
         obtain ⟨t19',e19',h⟩:=qj h
         obtain ⟨t20',e20',h⟩:=qe h
         rw [hnx] at h
         obtain ⟨hu,hI2,hμ⟩:=h
         obtain ⟨rfl,rfl,rfl,rfl,rfl,rfl,rfl,rfl,rfl⟩:=hu
         exact ⟨t20',⟨e20',e0',e3',e5',e7',e9',e11',e15',e17',e19'⟩,hI2,hμ⟩
     · intro ρ w h
       obtain ⟨d_0,e0,h⟩:=qw h
       obtain ⟨t3,e3,h⟩:=qj h
       obtain ⟨t5,e5,h⟩:=qj h
       obtain ⟨t7,e7,h⟩:=qw h
       obtain ⟨t9,e9,h⟩:=qw h
       obtain ⟨t11,e11,h⟩:=qj h
       obtain ⟨t15,e15,h⟩:=qj h
       obtain ⟨t17,e17,h⟩:=qw h
       obtain ⟨t19,e19,h⟩:=qj h
       obtain ⟨t20,e20,h⟩:=qe h
       refine qb e0 (qb (qa e3 rfl) (qb (qa (qa e5 rfl) rfl) (qb (qa (qa (qa e7 rfl) rfl) rfl) (qb (qa (qa (qa (qa e9 rfl) rfl) rfl) rfl) (qb (qa (qa (qa (qa (qa e11 rfl) rfl) rfl) rfl) rfl) (qb (qa (qa (qa (qa (qa (qa e15 rfl) rfl) rfl) rfl) rfl) rfl) (qb (qa (qa (qa (qa (qa (qa (qa e17 rfl) rfl) rfl) rfl) rfl) rfl) rfl) (qb (qa (qa (qa (qa (qa (qa (qa (qa e19 rfl) rfl) rfl) rfl) rfl) rfl) rfl) rfl) (qb (qa (qa (qa (qa (qa (qa (qa (qa (qa e20 rfl) rfl) rfl) rfl) rfl) rfl) rfl) rfl) rfl) ?_)))))))))
       refine qr (fun ρ w=>asP (ρ 0) fun d_0=>asL (ρ 3) fun t3=>asL (ρ 5) fun t5=>asP (ρ 7) fun t7=>asP (ρ 9) fun t9=>asL (ρ 11) fun t11=>asL (ρ 15) fun t15=>asP (ρ 17) fun t17=>asL (ρ 19) fun t19=>asI .i64 (ρ 20) fun t20=>asP (ρ 21) fun t21=>qd.j10 d_0 t3 t5 t7 t9 t11 t15 t17 t19 t20 t21 Q w) ?_ ?_
       · skip
         exact qg qpb _ (Eq.mp (by kernel_rfl) h)
       · intro ρ w h
         obtain ⟨d_0,e0,h⟩:=qw h
         obtain ⟨t3,e3,h⟩:=qj h
         obtain ⟨t5,e5,h⟩:=qj h
         obtain ⟨t7,e7,h⟩:=qw h
         obtain ⟨t9,e9,h⟩:=qw h
         obtain ⟨t11,e11,h⟩:=qj h
         obtain ⟨t15,e15,h⟩:=qj h
         obtain ⟨t17,e17,h⟩:=qw h
         obtain ⟨t19,e19,h⟩:=qj h
         obtain ⟨t20,e20,h⟩:=qe h
         obtain ⟨t21,e21,h⟩:=qw h
         refine qb e0 (qb (qa e3 rfl) (qb (qa (qa e5 rfl) rfl) (qb (qa (qa (qa e7 rfl) rfl) rfl) (qb (qa (qa (qa (qa e9 rfl) rfl) rfl) rfl) (qb (qa (qa (qa (qa (qa e11 rfl) rfl) rfl) rfl) rfl) (qb (qa (qa (qa (qa (qa (qa e15 rfl) rfl) rfl) rfl) rfl) rfl) (qb (qa (qa (qa (qa (qa (qa (qa e17 rfl) rfl) rfl) rfl) rfl) rfl) rfl) (qb (qa (qa (qa (qa (qa (qa (qa (qa e19 rfl) rfl) rfl) rfl) rfl) rfl) rfl) rfl) (qb (qa (qa (qa (qa (qa (qa (qa (qa (qa e20 rfl) rfl) rfl) rfl) rfl) rfl) rfl) rfl) rfl) (qb (qa (qa (qa (qa (qa (qa (qa (qa (qa (qa e21 rfl) rfl) rfl) rfl) rfl) rfl) rfl) rfl) rfl) rfl) ?_))))))))))
         refine qib qpb (fun ρ w=>asP (ρ 0) fun d_0=>asL (ρ 5) fun t5=>asP (ρ 7) fun t7=>asP (ρ 9) fun t9=>asL (ρ 11) fun t11=>asL (ρ 15) fun t15=>asP (ρ 17) fun t17=>asL (ρ 19) fun t19=>asI .i64 (ρ 20) fun t20=>asP (ρ 21) fun t21=>qd.j11 d_0 t5 t7 t9 t11 t15 t17 t19 t20 t21 Q w) (Eq.mp (by kernel_rfl) h) ?_
         intro ρ w h
         obtain ⟨d_0,e0,h⟩:=qw h
         obtain ⟨t5,e5,h⟩:=qj h
         obtain ⟨t7,e7,h⟩:=qw h
         obtain ⟨t9,e9,h⟩:=qw h
         obtain ⟨t11,e11,h⟩:=qj h
         obtain ⟨t15,e15,h⟩:=qj h
         obtain ⟨t17,e17,h⟩:=qw h
         obtain ⟨t19,e19,h⟩:=qj h
         obtain ⟨t20,e20,h⟩:=qe h
         obtain ⟨t21,e21,h⟩:=qw h
         refine qb e0 (qb (qa e5 rfl) (qb (qa (qa e7 rfl) rfl) (qb (qa (qa (qa e9 rfl) rfl) rfl) (qb (qa (qa (qa (qa e11 rfl) rfl) rfl) rfl) (qb (qa (qa (qa (qa (qa e15 rfl) rfl) rfl) rfl) rfl) (qb (qa (qa (qa (qa (qa (qa e17 rfl) rfl) rfl) rfl) rfl) rfl) (qb (qa (qa (qa (qa (qa (qa (qa e19 rfl) rfl) rfl) rfl) rfl) rfl) rfl) (qb (qa (qa (qa (qa (qa (qa (qa (qa e20 rfl) rfl) rfl) rfl) rfl) rfl) rfl) rfl) (qb (qa (qa (qa (qa (qa (qa (qa (qa (qa e21 rfl) rfl) rfl) rfl) rfl) rfl) rfl) rfl) rfl) ?_)))))))))
         refine qib qpb (fun ρ w=>asP (ρ 0) fun d_0=>asP (ρ 7) fun t7=>asP (ρ 9) fun t9=>asL (ρ 11) fun t11=>asL (ρ 15) fun t15=>asP (ρ 17) fun t17=>asL (ρ 19) fun t19=>asI .i64 (ρ 20) fun t20=>asP (ρ 21) fun t21=>qd.j12 d_0 t7 t9 t11 t15 t17 t19 t20 t21 Q w) (Eq.mp (by kernel_rfl) h) ?_
         intro ρ w h
         obtain ⟨d_0,e0,h⟩:=qw h
         obtain ⟨t7,e7,h⟩:=qw h
         obtain ⟨t9,e9,h⟩:=qw h
         obtain ⟨t11,e11,h⟩:=qj h
         obtain ⟨t15,e15,h⟩:=qj h
         obtain ⟨t17,e17,h⟩:=qw h
         obtain ⟨t19,e19,h⟩:=qj h
         obtain ⟨t20,e20,h⟩:=qe h
         obtain ⟨t21,e21,h⟩:=qw h
         refine qb e0 (qb (qa e7 rfl) (qb (qa (qa e9 rfl) rfl) (qb (qa (qa (qa e11 rfl) rfl) rfl) (qb (qa (qa (qa (qa e15 rfl) rfl) rfl) rfl) (qb (qa (qa (qa (qa (qa e17 rfl) rfl) rfl) rfl) rfl) (qb (qa (qa (qa (qa (qa (qa e19 rfl) rfl) rfl) rfl) rfl) rfl) (qb (qa (qa (qa (qa (qa (qa (qa e20 rfl) rfl) rfl) rfl) rfl) rfl) rfl) (qb (qa (qa (qa (qa (qa (qa (qa (qa e21 rfl) rfl) rfl) rfl) rfl) rfl) rfl) rfl) ?_))))))))
         refine qr (fun ρ w=>asP (ρ 0) fun d_0=>asP (ρ 7) fun t7=>asP (ρ 9) fun t9=>asL (ρ 11) fun t11=>asP (ρ 17) fun t17=>asP (ρ 21) fun t21=>qd.j13 d_0 t7 t9 t11 t17 t21 Q w) ?_ ?_
         · skip
           refine qr (fun ρ w=>asP (ρ 0) fun d_0=>asP (ρ 7) fun t7=>asP (ρ 9) fun t9=>asL (ρ 11) fun t11=>asL (ρ 15) fun t15=>asP (ρ 17) fun t17=>asP (ρ 21) fun t21=>asL (ρ 140) fun t140=>asI .i64 (ρ 141) fun t141=>asI .i64 (ρ 142) fun t142=>qd.j16 d_0 t7 t9 t11 t15 t17 t21 t140 t141 t142 Q w) ?_ ?_
           · skip
             exact qg qpb _ (Eq.mp (by kernel_rfl) h)
           · intro ρ w h
             obtain ⟨d_0,e0,h⟩:=qw h
             obtain ⟨t7,e7,h⟩:=qw h
             obtain ⟨t9,e9,h⟩:=qw h
             obtain ⟨t11,e11,h⟩:=qj h
             obtain ⟨t15,e15,h⟩:=qj h
             obtain ⟨t17,e17,h⟩:=qw h
             obtain ⟨t21,e21,h⟩:=qw h
             obtain ⟨t140,e140,h⟩:=qj h
             obtain ⟨t141,e141,h⟩:=qe h
             obtain ⟨t142,e142,h⟩:=qe h
             refine qb e0 (qb (qa e7 rfl) (qb (qa (qa e9 rfl) rfl) (qb (qa (qa (qa e11 rfl) rfl) rfl) (qb (qa (qa (qa (qa e15 rfl) rfl) rfl) rfl) (qb (qa (qa (qa (qa (qa e17 rfl) rfl) rfl) rfl) rfl) (qb (qa (qa (qa (qa (qa (qa e21 rfl) rfl) rfl) rfl) rfl) rfl) (qb (qa (qa (qa (qa (qa (qa (qa e140 rfl) rfl) rfl) rfl) rfl) rfl) rfl) (qb (qa (qa (qa (qa (qa (qa (qa (qa e141 rfl) rfl) rfl) rfl) rfl) rfl) rfl) rfl) (qb (qa (qa (qa (qa (qa (qa (qa (qa (qa e142 rfl) rfl) rfl) rfl) rfl) rfl) rfl) rfl) rfl) ?_)))))))))
             refine qcb ?_
             obtain ⟨I,μ,hI,hr⟩:=h
             refine qhb (α:=Int) (fun s ρ=>ρ 142=.int .i64 s∧ρ 0=.pointer d_0∧ρ 7=.pointer t7∧ρ 9=.pointer t9∧ρ 11=.slice t11.a t11.len t11.cap∧ρ 15=.slice t15.a t15.len t15.cap∧ρ 17=.pointer t17∧ρ 21=.pointer t21∧ρ 140=.slice t140.a t140.len t140.cap∧ρ 141=.int .i64 t141) (fun s w=>I s w) (fun s w=>μ s w) t142 ⟨rfl,rfl,rfl,rfl,rfl,rfl,rfl,rfl,rfl,rfl⟩ hI ?_
             rintro t142 ρ w ⟨e142,e0,e7,e9,e11,e15,e17,e21,e140,e141⟩ hI
             have h:=hr t142 w hI
             clear hr
             obtain ⟨nx2,hnx⟩:∃ nx:OAd→OAd→OAd→Sl→Sl→OAd→OAd→Sl→Int→Int→World→Prop,nx=(fun d_0' t7' t9' t11' t15' t17' t21' t140' t141' t142' w'=>(d_0'=d_0∧t7'=t7∧t9'=t9∧t11'=t11∧t15'=t15∧t17'=t17∧t21'=t21∧t140'=t140∧t141'=t141)∧I t142' w'∧μ t142' w' < μ t142 w):=⟨_,rfl⟩
             rw [← hnx] at h
             refine qob (M:=fun ρ w=>asP (ρ 0) fun d_0=>asP (ρ 7) fun t7=>asP (ρ 9) fun t9=>asL (ρ 11) fun t11=>asL (ρ 15) fun t15=>asP (ρ 17) fun t17=>asP (ρ 21) fun t21=>asL (ρ 140) fun t140=>asI .i64 (ρ 141) fun t141=>asI .i64 (ρ 142) fun t142=>nx2 d_0 t7 t9 t11 t15 t17 t21 t140 t141 t142 w) ?_ (fun ρ w h=>?_)
             · skip
               refine qb e0 (qb (qa e7 rfl) (qb (qa (qa e9 rfl) rfl) (qb (qa (qa (qa e11 rfl) rfl) rfl) (qb (qa (qa (qa (qa e15 rfl) rfl) rfl) rfl) (qb (qa (qa (qa (qa (qa e17 rfl) rfl) rfl) rfl) rfl) (qb (qa (qa (qa (qa (qa (qa e21 rfl) rfl) rfl) rfl) rfl) rfl) (qb (qa (qa (qa (qa (qa (qa (qa e140 rfl) rfl) rfl) rfl) rfl) rfl) rfl) (qb (qa (qa (qa (qa (qa (qa (qa (qa e141 rfl) rfl) rfl) rfl) rfl) rfl) rfl) rfl) (qb (qa (qa (qa (qa (qa (qa (qa (qa (qa e142 rfl) rfl) rfl) rfl) rfl) rfl) rfl) rfl) rfl) ?_)))))))))
               exact qg qpb _ (Eq.mp (by kernel_rfl) h)
             · skip
               obtain ⟨d_0',e0',h⟩:=qw h
               obtain ⟨t7',e7',h⟩:=qw h
               obtain ⟨t9',e9',h⟩:=qw h
               obtain ⟨t11',e11',h⟩:=qj h
               obtain ⟨t15',e15',h⟩:=qj h
               obtain ⟨t17',e17',h⟩:=qw h
               obtain ⟨t21',e21',h⟩:=qw h
               obtain ⟨t140',e140',h⟩:=qj h
               obtain ⟨t141',e141',h⟩:=qe h
               obtain ⟨t142',e142',h⟩:=qe h
               rw [hnx] at h
               obtain ⟨hu,hI2,hμ⟩:=h
               obtain ⟨rfl,rfl,rfl,rfl,rfl,rfl,rfl,rfl,rfl⟩:=hu
               exact ⟨t142',⟨e142',e0',e7',e9',e11',e15',e17',e21',e140',e141'⟩,hI2,hμ⟩
         · intro ρ w h
           obtain ⟨d_0,e0,h⟩:=qw h
           obtain ⟨t7,e7,h⟩:=qw h
           obtain ⟨t9,e9,h⟩:=qw h
           obtain ⟨t11,e11,h⟩:=qj h
           obtain ⟨t17,e17,h⟩:=qw h
           obtain ⟨t21,e21,h⟩:=qw h
           refine qb e0 (qb (qa e7 rfl) (qb (qa (qa e9 rfl) rfl) (qb (qa (qa (qa e11 rfl) rfl) rfl) (qb (qa (qa (qa (qa e17 rfl) rfl) rfl) rfl) (qb (qa (qa (qa (qa (qa e21 rfl) rfl) rfl) rfl) rfl) ?_)))))
           refine qr (fun ρ w=>asP (ρ 0) fun d_0=>asP (ρ 7) fun t7=>asP (ρ 9) fun t9=>asP (ρ 21) fun t21=>qd.j14 d_0 t7 t9 t21 Q w) ?_ ?_
           · skip
             refine qr (fun ρ w=>asP (ρ 0) fun d_0=>asP (ρ 7) fun t7=>asP (ρ 9) fun t9=>asP (ρ 17) fun t17=>asP (ρ 21) fun t21=>asL (ρ 153) fun t153=>asI .i64 (ρ 154) fun t154=>asI .i64 (ρ 155) fun t155=>qd.j15 d_0 t7 t9 t17 t21 t153 t154 t155 Q w) ?_ ?_
             · skip
               exact qg qpb _ (Eq.mp (by kernel_rfl) h)
             · intro ρ w h
               obtain ⟨d_0,e0,h⟩:=qw h
               obtain ⟨t7,e7,h⟩:=qw h
               obtain ⟨t9,e9,h⟩:=qw h
               obtain ⟨t17,e17,h⟩:=qw h
               obtain ⟨t21,e21,h⟩:=qw h
               obtain ⟨t153,e153,h⟩:=qj h
               obtain ⟨t154,e154,h⟩:=qe h
               obtain ⟨t155,e155,h⟩:=qe h
               refine qb e0 (qb (qa e7 rfl) (qb (qa (qa e9 rfl) rfl) (qb (qa (qa (qa e17 rfl) rfl) rfl) (qb (qa (qa (qa (qa e21 rfl) rfl) rfl) rfl) (qb (qa (qa (qa (qa (qa e153 rfl) rfl) rfl) rfl) rfl) (qb (qa (qa (qa (qa (qa (qa e154 rfl) rfl) rfl) rfl) rfl) rfl) (qb (qa (qa (qa (qa (qa (qa (qa e155 rfl) rfl) rfl) rfl) rfl) rfl) rfl) ?_)))))))
               refine qcb ?_
               obtain ⟨I,μ,hI,hr⟩:=h
               refine qhb (α:=Int) (fun s ρ=>ρ 155=.int .i64 s∧ρ 0=.pointer d_0∧ρ 7=.pointer t7∧ρ 9=.pointer t9∧ρ 17=.pointer t17∧ρ 21=.pointer t21∧ρ 153=.slice t153.a t153.len t153.cap∧ρ 154=.int .i64 t154) (fun s w=>I s w) (fun s w=>μ s w) t155 ⟨rfl,rfl,rfl,rfl,rfl,rfl,rfl,rfl⟩ hI ?_
               rintro t155 ρ w ⟨e155,e0,e7,e9,e17,e21,e153,e154⟩ hI
               have h:=hr t155 w hI
               clear hr
               obtain ⟨nx1,hnx⟩:∃ nx:OAd→OAd→OAd→OAd→OAd→Sl→Int→Int→World→Prop,nx=(fun d_0' t7' t9' t17' t21' t153' t154' t155' w'=>(d_0'=d_0∧t7'=t7∧t9'=t9∧t17'=t17∧t21'=t21∧t153'=t153∧t154'=t154)∧I t155' w'∧μ t155' w' < μ t155 w):=⟨_,rfl⟩
               rw [← hnx] at h
               refine qob (M:=fun ρ w=>asP (ρ 0) fun d_0=>asP (ρ 7) fun t7=>asP (ρ 9) fun t9=>asP (ρ 17) fun t17=>asP (ρ 21) fun t21=>asL (ρ 153) fun t153=>asI .i64 (ρ 154) fun t154=>asI .i64 (ρ 155) fun t155=>nx1 d_0 t7 t9 t17 t21 t153 t154 t155 w) ?_ (fun ρ w h=>?_)
               · skip
                 refine qb e0 (qb (qa e7 rfl) (qb (qa (qa e9 rfl) rfl) (qb (qa (qa (qa e17 rfl) rfl) rfl) (qb (qa (qa (qa (qa e21 rfl) rfl) rfl) rfl) (qb (qa (qa (qa (qa (qa e153 rfl) rfl) rfl) rfl) rfl) (qb (qa (qa (qa (qa (qa (qa e154 rfl) rfl) rfl) rfl) rfl) rfl) (qb (qa (qa (qa (qa (qa (qa (qa e155 rfl) rfl) rfl) rfl) rfl) rfl) rfl) ?_)))))))
                 exact qg qpb _ (Eq.mp (by kernel_rfl) h)
               · skip
                 obtain ⟨d_0',e0',h⟩:=qw h
                 obtain ⟨t7',e7',h⟩:=qw h
                 obtain ⟨t9',e9',h⟩:=qw h
                 obtain ⟨t17',e17',h⟩:=qw h
                 obtain ⟨t21',e21',h⟩:=qw h
                 obtain ⟨t153',e153',h⟩:=qj h
                 obtain ⟨t154',e154',h⟩:=qe h
                 obtain ⟨t155',e155',h⟩:=qe h
                 rw [hnx] at h
                 obtain ⟨hu,hI2,hμ⟩:=h
                 obtain ⟨rfl,rfl,rfl,rfl,rfl,rfl,rfl⟩:=hu
                 exact ⟨t155',⟨e155',e0',e7',e9',e17',e21',e153',e154'⟩,hI2,hμ⟩
           · intro ρ w h
             obtain ⟨d_0,e0,h⟩:=qw h
             obtain ⟨t7,e7,h⟩:=qw h
             obtain ⟨t9,e9,h⟩:=qw h
             obtain ⟨t21,e21,h⟩:=qw h
             refine qb e0 (qb (qa e7 rfl) (qb (qa (qa e9 rfl) rfl) (qb (qa (qa (qa e21 rfl) rfl) rfl) ?_)))
             exact qg qpb _ (Eq.mp (by kernel_rfl) h)
def qxb.j3 (out_6:Sl) (Q:VWP) (w:World):Prop :=
 Q (.slice out_6.a out_6.len out_6.cap) w
def qxb.b1 (k_5:OAd) (t19:Sl) (t20:Int) (out_6:Sl) (t21:Int) (Q:VWP) (nx1:OAd→Sl→Int→Sl→Int→World→Prop) (w:World):Prop :=
 br (decide ((t21:Int) < t20)) (
 ixS t19.a t19.len t21 1 fun a1 =>
 ldV w a1 fun x2 =>
 asFn x2 fun f3 b4 b5 =>
 whenB (plainF Try.prog f3) (
 Calls Try.prog f3 ⟨(b4.toList ++ [.pointer k_5]) ++ b5.toList⟩ w fun e6 w7 =>
 ∃ r8:Sl,e6=.returned (.slice r8.a r8.len r8.cap) ∧
 br (decide ((((r8.len:Nat):Int):Int) < ((out_6.len:Nat):Int))) (
 lt (IntKind.i64.wrap (t21+1)) fun x9 =>
 nx1 k_5 t19 t20 r8 x9 w7) (
 lt (IntKind.i64.wrap (t21+1)) fun x10 =>
 nx1 k_5 t19 t20 out_6 x10 w7))) (
 qxb.j3 out_6 Q w)
def qxb.l1 (k_5:OAd) (t19:Sl) (t20:Int) (out_6:Sl) (t21:Int) (Q:VWP) (w:World):Prop :=
 ∃ (I:Sl→Int→World→Prop) (μ:Sl→Int→World→Nat),I out_6 t21 w∧∀ out_6:Sl,∀ t21:Int,∀ w:World,I out_6 t21 w→qxb.b1 k_5 t19 t20 out_6 t21 Q (fun k_5' t19' t20' out_6' t21' w'=>(k_5'=k_5∧t19'=t19∧t20'=t20)∧I out_6' t21' w'∧μ out_6' t21' w' < μ out_6 t21 w) w
def qxb.j4 (k_5:OAd) (out_6:Sl) (t19:Sl) (t20:Int) (t21:Int) (Q:VWP) (w:World):Prop :=
 qxb.l1 k_5 t19 t20 out_6 t21 Q w
def qxb.j2 (k_5:OAd) (out_6:Sl) (Q:VWP) (w:World):Prop :=
 lt (⟨World.heapSize w,0,none⟩:Addr) fun a11 =>
 lt (World.alloc w (.cells ⟨[.func (.func 80) ⟨[]⟩ ⟨[]⟩,.func (.func 81) ⟨[]⟩ ⟨[]⟩]⟩ 128)) fun w12 =>
 qxb.j4 k_5 out_6 ⟨(some a11),2,2⟩ ((2:Nat):Int) 0 Q w12
def qxb.j1 (b_0:Sl) (effort_1:Int) (Q:VWP) (w:World):Prop :=
 Calls Try.prog 78 ⟨[.slice b_0.a b_0.len b_0.cap,.int .i64 effort_1]⟩ w fun e13 w14 =>
 ∃ r15:Sl,e13=.returned (.slice r15.a r15.len r15.cap) ∧
 Calls Try.prog 77 ⟨[.slice r15.a r15.len r15.cap]⟩ w14 fun e16 w17 =>
 ∃ r18:OAd,e16=.returned (.pointer r18) ∧
 Calls Try.prog 79 ⟨[.slice b_0.a b_0.len b_0.cap]⟩ w17 fun e19 w20 =>
 ∃ r21:Sl,e19=.returned (.slice r21.a r21.len r21.cap) ∧
 qxb.j2 r18 r21 Q w20
def qxb (b_0:Sl) (effort_1:Int) (Q:VWP) (w:World):Prop :=
 br (decide ((((b_0.len:Nat):Int):Int) > 262144)) (
 Q (.slice none 0 0) w) (
 qxb.j1 b_0 effort_1 Q w)
theorem qxb.ok (b_0:Sl) (effort_1:Int) (Q:VWP) (w:World) (h:qxb b_0 effort_1 Q w):Calls Try.prog 34 ⟨[.slice b_0.a b_0.len b_0.cap,.int .i64 effort_1]⟩ w (Ret Q):=by
 refine qn [.tmp 4] Try.func34 rfl rfl rfl rfl ?_
 refine qib qpb (fun ρ w=>asL (ρ 0) fun b_0=>asI .i64 (ρ 1) fun effort_1=>qxb.j1 b_0 effort_1 Q w) (Eq.mp (by kernel_rfl) h) ?_
 intro ρ w h
 obtain ⟨b_0,e0,h⟩:=qj h
 obtain ⟨effort_1,e1,h⟩:=qe h
 refine qb e0 (qb (qa e1 rfl) ?_)
 refine qib qpb (fun ρ w=>asP (ρ 5) fun k_5=>asL (ρ 6) fun out_6=>qxb.j2 k_5 out_6 Q w) (Eq.mp (by kernel_rfl) h) ?_
 intro ρ w h
 obtain ⟨k_5,e5,h⟩:=qw h
 obtain ⟨out_6,e6,h⟩:=qj h
 refine qb e5 (qb (qa e6 rfl) ?_)
 refine qr (fun ρ w=>asL (ρ 6) fun out_6=>qxb.j3 out_6 Q w) ?_ ?_
 · skip
   refine qr (fun ρ w=>asP (ρ 5) fun k_5=>asL (ρ 6) fun out_6=>asL (ρ 19) fun t19=>asI .i64 (ρ 20) fun t20=>asI .i64 (ρ 21) fun t21=>qxb.j4 k_5 out_6 t19 t20 t21 Q w) ?_ ?_
   · skip
     exact qg qpb _ (Eq.mp (by kernel_rfl) h)
   · intro ρ w h
     obtain ⟨k_5,e5,h⟩:=qw h
     obtain ⟨out_6,e6,h⟩:=qj h
     obtain ⟨t19,e19,h⟩:=qj h
     obtain ⟨t20,e20,h⟩:=qe h
     obtain ⟨t21,e21,h⟩:=qe h
     refine qb e5 (qb (qa e6 rfl) (qb (qa (qa e19 rfl) rfl) (qb (qa (qa (qa e20 rfl) rfl) rfl) (qb (qa (qa (qa (qa e21 rfl) rfl) rfl) rfl) ?_))))
     refine qcb ?_
     obtain ⟨I,μ,hI,hr⟩:=h
     refine qhb (α:=Sl × Int) (fun s ρ=>ρ 6=.slice s.1.a s.1.len s.1.cap∧ρ 21=.int .i64 s.2∧ρ 5=.pointer k_5∧ρ 19=.slice t19.a t19.len t19.cap∧ρ 20=.int .i64 t20) (fun s w=>I s.1 s.2 w) (fun s w=>μ s.1 s.2 w) (out_6,t21) ⟨rfl,rfl,rfl,rfl,rfl⟩ hI ?_
     rintro ⟨out_6,t21⟩ ρ w ⟨e6,e21,e5,e19,e20⟩ hI
     have h:=hr out_6 t21 w hI
     clear hr
     obtain ⟨nx1,hnx⟩:∃ nx:OAd→Sl→Int→Sl→Int→World→Prop,nx=(fun k_5' t19' t20' out_6' t21' w'=>(k_5'=k_5∧t19'=t19∧t20'=t20)∧I out_6' t21' w'∧μ out_6' t21' w' < μ out_6 t21 w):=⟨_,rfl⟩
     rw [← hnx] at h
     refine qob (M:=fun ρ w=>asP (ρ 5) fun k_5=>asL (ρ 19) fun t19=>asI .i64 (ρ 20) fun t20=>asL (ρ 6) fun out_6=>asI .i64 (ρ 21) fun t21=>nx1 k_5 t19 t20 out_6 t21 w) ?_ (fun ρ w h=>?_)
     · skip
       refine qb e5 (qb (qa e6 rfl) (qb (qa (qa e19 rfl) rfl) (qb (qa (qa (qa e20 rfl) rfl) rfl) (qb (qa (qa (qa (qa e21 rfl) rfl) rfl) rfl) ?_))))
       exact qg qpb _ (Eq.mp (by kernel_rfl) h)
     · skip
       obtain ⟨k_5',e5',h⟩:=qw h
       obtain ⟨t19',e19',h⟩:=qj h
       obtain ⟨t20',e20',h⟩:=qe h
       obtain ⟨out_6',e6',h⟩:=qj h
       obtain ⟨t21',e21',h⟩:=qe h
       rw [hnx] at h
       obtain ⟨hu,hI2,hμ⟩:=h
       obtain ⟨rfl,rfl,rfl⟩:=hu
       exact ⟨(out_6',t21'),⟨e6',e21',e5',e19',e20'⟩,hI2,hμ⟩
 · intro ρ w h
   obtain ⟨out_6,e6,h⟩:=qj h
   refine qb e6 ?_
   exact qg qpb _ (Eq.mp (by kernel_rfl) h)
def qzh (b_0:Sl) (effort_1:Int) (Q:VWP) (w:World):Prop :=
 br (decide ((((b_0.len:Nat):Int):Int) > 262144)) (
 Q (.slice none 0 0) w) (
 lt (⟨World.heapSize w,0,none⟩:Addr) fun a1 =>
 lt (World.alloc w (.cells ⟨[.int .u8 120,.int .u8 156]⟩ 5)) fun w2 =>
 Calls Try.prog 34 ⟨[.slice b_0.a b_0.len b_0.cap,.int .i64 effort_1]⟩ w2 fun e3 w4 =>
 ∃ r5:Sl,e3=.returned (.slice r5.a r5.len r5.cap) ∧
 rdO w4 r5.a (r5.len * 1) fun c6 =>
 apK Try.prog 5 w4 (some a1) 2 2 r5.len c6 fun s7 w8 =>
 Calls Try.prog 118 ⟨[.slice b_0.a b_0.len b_0.cap]⟩ w8 fun e9 w10 =>
 ∃ r11:Int,e9=.returned (.int .u32 r11) ∧
 lt (IntKind.i64.wrap r11) fun x12 =>
 Calls Try.prog 61 ⟨[.slice s7.a s7.len s7.cap,.int .i64 x12]⟩ w10 fun e13 w14 =>
 ∃ r15:Sl,e13=.returned (.slice r15.a r15.len r15.cap) ∧
 Q (.slice r15.a r15.len r15.cap) w14)
theorem qzh.ok (b_0:Sl) (effort_1:Int) (Q:VWP) (w:World) (h:qzh b_0 effort_1 Q w):Calls Try.prog 75 ⟨[.slice b_0.a b_0.len b_0.cap,.int .i64 effort_1]⟩ w (Ret Q):=by
 refine qn [.tmp 4] Try.func75 rfl rfl rfl rfl ?_
 exact qg qpb _ (Eq.mp (by kernel_rfl) h)
def qbg (d_0:Sl) (i_1:Int) (Q:VWP) (w:World):Prop :=
 br (decide ((((d_0.len:Nat):Int):Int) < 2)) (
 Q (.tuple ⟨[.slice none 0 0,.int .i64 0,.int .i64 3]⟩) w) (
 lt (World.drew w) fun w1 =>
 ixS d_0.a d_0.len 0 1 fun a2 =>
 ldI .u8 w1 a2 fun x3 =>
 lt (andV .u8 x3 15) fun x4 =>
 br ((x4:Int) != 8) (
 Q (.tuple ⟨[.slice none 0 0,.int .i64 0,.int .i64 2]⟩) w1) (
 ixS d_0.a d_0.len 0 1 fun a5 =>
 ldI .u8 w1 a5 fun x6 =>
 (0:Int)≤4 ∧
 lt (shrV .u8 x6 4) fun x7 =>
 br (decide ((x7:Int) > 7)) (
 Q (.tuple ⟨[.slice none 0 0,.int .i64 0,.int .i64 2]⟩) w1) (
 ixS d_0.a d_0.len 0 1 fun a8 =>
 ldI .u8 w1 a8 fun x9 =>
 lt (IntKind.i64.wrap x9) fun x10 =>
 (0:Int)≤8 ∧
 lt (qej .i64 x10 8) fun x11 =>
 ixS d_0.a d_0.len 1 1 fun a12 =>
 ldI .u8 w1 a12 fun x13 =>
 lt (IntKind.i64.wrap x13) fun x14 =>
 lt (orV .i64 x11 x14) fun x15 =>
 (31:Int) ≠ 0 ∧
 lt (Int.tmod x15 31) fun x16 =>
 br ((x16:Int) != 0) (
 Q (.tuple ⟨[.slice none 0 0,.int .i64 0,.int .i64 2]⟩) w1) (
 ixS d_0.a d_0.len 1 1 fun a17 =>
 ldI .u8 w1 a17 fun x18 =>
 lt (andV .u8 x18 32) fun x19 =>
 br ((x19:Int) != 0) (
 Q (.tuple ⟨[.slice none 0 0,.int .i64 0,.int .i64 2]⟩) w1) (
 bd 2 d_0.len fun n20 =>
 lt (⟨qzf d_0.a d_0.cap n20 1,d_0.len - n20,d_0.cap - n20⟩:Sl) fun s21 =>
 Calls Try.prog 119 ⟨[.slice s21.a s21.len s21.cap,.int .i64 i_1]⟩ w1 fun e22 w23 =>
 ∃ r24:Sl,∃ r25:Int,∃ r26:Int,e22=.returned (.tuple ⟨[.slice r24.a r24.len r24.cap,.int .i64 r25,.int .i64 r26]⟩) ∧
 br ((r26:Int) != 0) (
 Q (.tuple ⟨[.slice none 0 0,.int .i64 0,.int .i64 r26]⟩) w23) (
 lt (IntKind.i64.wrap (2+r25)) fun x27 =>
 bd x27 d_0.len fun n28 =>
 lt (⟨qzf d_0.a d_0.cap n28 1,d_0.len - n28,d_0.cap - n28⟩:Sl) fun s29 =>
 Calls Try.prog 107 ⟨[.slice s29.a s29.len s29.cap]⟩ w23 fun e30 w31 =>
 ∃ r32:OAd,e30=.returned (.pointer r32) ∧
 Calls Try.prog 108 ⟨[.pointer r32]⟩ w31 fun e33 w34 =>
 ∃ r35:Int,e33=.returned (.int .i64 r35) ∧
 Calls Try.prog 112 ⟨[.pointer r32]⟩ w34 fun e36 w37 =>
 ∃ r38:Int,e36=.returned (.int .i64 r38) ∧
 br ((r38:Int) != 0) (
 Q (.tuple ⟨[.slice none 0 0,.int .i64 0,.int .i64 3]⟩) w37) (
 lt (IntKind.u32.wrap r35) fun x39 =>
 Calls Try.prog 118 ⟨[.slice r24.a r24.len r24.cap]⟩ w37 fun e40 w41 =>
 ∃ r42:Int,e40=.returned (.int .u32 r42) ∧
 br ((x39:Int) != r42) (
 Q (.tuple ⟨[.slice none 0 0,.int .i64 0,.int .i64 4]⟩) w41) (
 lt (IntKind.i64.wrap (2+r25)) fun x43 =>
 lt (IntKind.i64.wrap (x43+4)) fun x44 =>
 Q (.tuple ⟨[.slice r24.a r24.len r24.cap,.int .i64 x44,.int .i64 0]⟩) w41))))))))
theorem qbg.ok (d_0:Sl) (i_1:Int) (Q:VWP) (w:World) (h:qbg d_0 i_1 Q w):Calls Try.prog 76 ⟨[.slice d_0.a d_0.len d_0.cap,.int .i64 i_1]⟩ w (Ret Q):=by
 refine qn [.tmp 4,.tmp 5,.tmp 6] Try.func76 rfl rfl rfl rfl ?_
 exact qg qpb _ (Eq.mp (by kernel_rfl) h)
end Go.Proofs.Ythdmmmfgjmmelaa
namespace Go.Proofs.Ythdmmmfgjmmelaa
open Go Go.Proofs
set_option linter.unusedVariables false
set_option linter.unusedSimpArgs false
attribute [local irreducible] apK cpK mkK br
def adS (p:Int × Int) (b:Int):Int × Int:=((p.1+b) % 65521,(p.2+(p.1+b) % 65521) % 65521)
def adP (xs:List Int):Int × Int:=xs.foldl adS (1,0)
def adV (xs:List Int):Int:=(adP xs).2 * 65536+(adP xs).1
theorem adP_snoc (xs:List Int) (x:Int):adP (xs ++ [x])=adS (adP xs) x:=by simp [adP]
theorem adP_b:∀ xs:List Int,0≤(adP xs).1∧(adP xs).1 < 65521∧0≤(adP xs).2∧(adP xs).2 < 65521:=by
 refine qmi ?_ ?_
 · simp [adP]
 · intro xs x ih
   rw [adP_snoc]
   unfold adS
   simp only
   omega
theorem adV_b (xs:List Int):0≤adV xs∧adV xs < 4294967296:=by
 have:=adP_b xs
 unfold adV
 omega
theorem adV_or (xs:List Int):orV .u32 (qej .u32 (adP xs).2 16) (adP xs).1=adV xs:=by
 have hb:=adP_b xs
 unfold adV
 obtain ⟨x,hx⟩:∃ x:Nat,(adP xs).1=x:=⟨(adP xs).1.toNat,by omega⟩
 obtain ⟨y,hy⟩:∃ y:Nat,(adP xs).2=y:=⟨(adP xs).2.toNat,by omega⟩
 rw [hx,hy] at hb ⊢
 have h1:=shlV_u (k:=.u32) rfl (x:=y) (t:=16) (by decide) (by show y * 65536 < 4294967296; omega)
 have e16:(2:Int) ^ 16=65536:=by decide
 rw [e16] at h1
 rw [show ((16:Nat):Int)=16 from rfl] at h1
 rw [h1]
 have h2:=orV_uadd (k:=.u32) rfl (a:=x) (b:=y) (t:=16) (by show x < 65536; omega) (by show x+y * 65536 < 4294967296; omega)
 rw [e16] at h2
 have hc:orV .u32 ((y:Int) * 65536) (x:Int)=orV .u32 (x:Int) ((y:Int) * 65536):=by
  unfold orV
  rw [BitVec.or_comm]
 rw [hc,h2]
 omega
section
variable {F0:List Nat} {w0 w:World} {ps rest:List As} {s:Sl} {xs:List Int}
theorem qch.c {K:Ending→World→Prop} (h:St F0 w0 w ps) [Rdb F0 w0 s ps 1 (u8s xs)] (hx:∀ x ∈ xs,0≤x∧x < 256) (hL:xs.length≤1000000000)
 (hk:∀ w',St F0 w0 w' ps→K (.returned (.int .u32 (adV xs))) w'):Calls Try.prog 118 ⟨[.slice s.a s.len s.cap]⟩ w K:=by
 have hl:=(h.rdb s).1
 rw [qx] at hl
 refine qoc (qch.ok _ _ _ ?_)
 unfold qch
 refine qoc (qfc.ok _ _ _ _ ?_)
 unfold qfc
 refine qy (show _=(1:Int) by decide) ⟨by decide,qy (show _=(0:Int) by decide) ?_⟩
 unfold qfc.j1 qfc.j3
 refine loop3 (fun (i:Nat) (x y i':Int) w'=>i'=i∧i≤xs.length∧x=(adP (xs.take i)).1∧y=(adP (xs.take i)).2∧St F0 w0 w' ps) (fun i=>xs.length - i) 0 ⟨rfl,by omega,rfl,rfl,h⟩ ?_
 clear h
 rintro i x y i' wL I μ ⟨rfl,hi,rfl,rfl,h⟩ hin
 have hb:=adP_b (xs.take i)
 unfold qfc.b1
 refine qzc (fun g=>?_) (fun g=>?_)
 · have hix:i < xs.length:=by omega
   have hxi:=hx _ (qrf hix)
   refine h.lx (s:=s) i rfl hix ?_
   refine qy (show IntKind.u32.wrap (xs.getD i 0)=xs.getD i 0 by rw [qrm]; omega) ?_
   refine qy (show IntKind.u32.wrap _=(adP (xs.take i)).1+xs.getD i 0 by rw [qrm]; omega) ⟨by decide,?_⟩
   refine qy (tmod_nn (by omega)) ?_
   refine qy (show IntKind.u32.wrap _=(adP (xs.take i)).2+((adP (xs.take i)).1+xs.getD i 0) % 65521 by rw [qrm]; omega) ⟨by decide,?_⟩
   refine qy (tmod_nn (by omega)) ?_
   refine qy (qk (by omega) (by omega)) ?_
   refine ⟨⟨rfl,rfl⟩,hin (i+1) _ _ _ _ ⟨by omega,by omega,?_,?_,h⟩ (by omega)⟩
   · rw [qsk hix,adP_snoc]; rfl
   · rw [qsk hix,adP_snoc]; rfl
 · have:i=xs.length:=by omega
   subst this
   rw [List.take_length]
   unfold qfc.j2
   refine ⟨by decide,qcj (qy (adV_or xs) ⟨_,rfl,hk wL h⟩)⟩
end
def allZ (z:Z):Prop:=∀ x ∈ z.2.1,0≤x∧x < 256
section
variable {B:List Bool} {most:Int} {z:Z}
theorem qzm {b:Int} (hb:0≤b∧b < 256) (h:allZ z):allZ (zput most b z):=by
 unfold zput
 split
 · exact h
 · split
   · exact h
   · intro x hx
     rcases List.mem_append.1 hx with hx | hx
     · exact h x hx
     · rw [List.mem_singleton] at hx
       subst hx
       exact hb
theorem qyh {z':Z} (e:z'.2.1=z.2.1) (h:allZ z):allZ z':=fun x hx=>h x (by rw [← e]; exact hx)
theorem zcp_allZ (d:Int):∀ (n:Nat) (z:Z),allZ z→allZ (zcp most d n z):=by
 intro n
 induction n with
 | zero=>intro z h; exact h
 | succ n ih =>
   intro z h
   rw [zcp]
   split
   · exact h
   · refine ih _ (qzm ?_ h)
     rcases Nat.lt_or_ge (z.2.1.length - d.toNat) z.2.1.length with h1 | h1
     · exact h _ (qrf h1)
     · rw [List.getD,List.getElem?_eq_none h1]; decide
theorem zbehind_allZ (dl:List Int) (v:Int) (h:allZ z):allZ (zbehind dl B most v z):=by
 unfold zbehind
 simp only
 refine zcp_allZ _ _ _ ?_
 have e:(qhe B (qvh (qdj dl B (qhe B (quh v).2.1 (zok (quh v).2.2 z)).2).1).2.1 (zok (qvh (qdj dl B (qhe B (quh v).2.1 (zok (quh v).2.2 z)).2).1).2.2 (qdj dl B (qhe B (quh v).2.1 (zok (quh v).2.2 z)).2).2)).2.2.1=z.2.1:=by
  rw [qyc,qhj,qlg,qyc,qhj]
 split
 · exact qyh (z:=z) e h
 · exact qyh (z:=z) e h
theorem zcoded_allZ {ll dl:List Int}:∀ (f:Nat) (z:Z),allZ z→allZ (qqd ll dl B most f z):=by
 intro f
 induction f with
 | zero=>intro z h; exact h
 | succ f ih =>
   intro z h
   rw [qqd]
   split
   · exact h
   · simp only
     have hs:allZ (qdj ll B z).2:=qyh (qlg ll) h
     have hn:=zsym_nn (B:=B) (z:=z) ll
     generalize qdj ll B z=s at hs hn ⊢
     split
     · exact hs
     · split
       · rename_i h2
         exact ih _ (qzm ⟨hn,h2⟩ hs)
       · exact ih _ (zbehind_allZ dl s.1 hs)
theorem zst_allZ:∀ (n:Nat) (z:Z),allZ z→allZ (zst B most n z):=by
 intro n
 induction n with
 | zero=>intro z h; exact h
 | succ n ih =>
   intro z h
   rw [zst]
   have hl:=qrk (B:=B) (z:=z) 8
   rw [show ((2:Int) ^ (8:Int).toNat)=256 by decide] at hl
   exact ih _ (qzm hl (qyh (qyc 8) h))
theorem zblk_allZ {ll dl:List Int} (h:allZ z):allZ (zblk ll dl B most z):=by
 unfold zblk
 simp only
 have e1:allZ (qcg dl (qcg ll (if z.2.2=0∧ll.getD 256 0=0 then qod 2 z else z))):=by
  refine qyh (z:=z) ?_ h
  rw [qyk,qyk]
  split <;> rfl
 generalize qcg dl (qcg ll (if z.2.2=0∧ll.getD 256 0=0 then qod 2 z else z))=z3 at e1 ⊢
 split
 · exact e1
 · exact zcoded_allZ _ _ e1
theorem qij (h:allZ z):allZ (qdd B most z).2:=by
 unfold qdd
 simp only
 have h1:allZ (qhe B 1 z).2:=qyh (qyc 1) h
 generalize qhe B 1 z=a at h1 ⊢
 have h2:allZ (qhe B 2 a.2).2:=qyh (qyc 2) h1
 generalize qhe B 2 a.2=k at h2 ⊢
 split
 · exact h2
 · split
   · unfold zstored
     simp only
     have h3:allZ (qhe B 16 (8 * ((k.2.1+7) / 8),k.2.2.1,k.2.2.2)).2:=qyh (z:=k.2) (qyc 16) h2
     generalize qhe B 16 (8 * ((k.2.1+7) / 8),k.2.2.1,k.2.2.2)=g at h3 ⊢
     have h4:allZ (qhe B 16 g.2).2:=qyh (qyc 16) h3
     generalize qhe B 16 g.2=g2 at h4 ⊢
     split
     · exact h4
     · split
       · exact h4
       · split
         · exact h4
         · exact zst_allZ _ _ h4
   · split
     · exact zblk_allZ h2
     · split
       · have h5:allZ (zlens B k.2).2:=qyh qan h2
         generalize zlens B k.2=q at h5 ⊢
         split
         · exact h5
         · exact zblk_allZ h5
       · exact h2
theorem ZAll.allZ {n:Nat} {z z':Z} (h:ZAll B most n z z') (hz:Go.Proofs.Ythdmmmfgjmmelaa.allZ z):Go.Proofs.Ythdmmmfgjmmelaa.allZ z':=by
 induction h with
 | bad he=>exact qij hz
 | last he hl=>exact qij hz
 | next he hl hr ih=>exact ih (qij hz)
end
theorem zinf_allZ {V N:Nat} {most:Int} {z':Z} (h:zinf V N most z'):allZ z':=by
 obtain ⟨n,h⟩:=h
 exact h.allZ (fun x hx=>by cases hx)
theorem zinf_len {V N:Nat} {most:Int} {z':Z} (h:zinf V N most z') (hm:most≤1000000):z'.2.1.length≤1000000:=by
 obtain ⟨n,h⟩:=h
 exact h.out hm (by simp)
theorem zinf_p {V N:Nat} {most:Int} {z':Z} (h:zinf V N most z'):z'.1≤8 * N:=by
 obtain ⟨n,h⟩:=h
 have hB:(qo (V:Int) (8 * N)).length=8 * N:=ql _ _
 have:∀ {n:Nat} {z z':Z},ZAll (qo (V:Int) (8 * N)) most n z z'→z.1≤8 * N→z'.1≤8 * N:=by
  intro n z z' h
  induction h with
  | bad he=>intro hz; have:=(qzk (most:=most) hB (by rw [hB]; exact hz)).2.1; omega
  | last he hl=>intro hz; have:=(qzk (most:=most) hB (by rw [hB]; exact hz)).2.1; omega
  | next he hl hr ih=>intro hz; have:=(qzk (most:=most) hB (by rw [hB]; exact hz)).2.1; exact ih (by omega)
 exact this h (Nat.zero_le _)
def hdBad (a b:Int):Prop:=andV .u8 a 15 ≠ 8 ∨ 7 < shrV .u8 a 4 ∨ Int.tmod (orV .i64 (qej .i64 a 8) b) 31 ≠ 0 ∨ andV .u8 b 32 ≠ 0
instance (a b:Int):Decidable (hdBad a b):=inferInstanceAs (Decidable (_ ∨ _))
def unpR (xs:List Int) (z':Z):List Int × Int × Int :=
 if z'.2.2 ≠ 0 then ([],0,z'.2.2) else if xs.length < 2+(z'.1+7) / 8+4 then ([],0,3)
 else if be ((xs.drop (2+(z'.1+7) / 8)).take 4) ≠ adV z'.2.1 then ([],0,4) else (z'.2.1,((2+(z'.1+7) / 8+4:Nat):Int),0)
def Unp (xs:List Int) (most:Int) (r:List Int × Int × Int):Prop :=
 if xs.length < 2 then r=([],0,3) else if hdBad (xs.getD 0 0) (xs.getD 1 0) then r=([],0,2) else if most < 0 ∨ 262144 < most then r=([],0,1)
 else ∃ V z',xs.drop 2=byt V (xs.length - 2)∧zinf V (xs.length - 2) most z'∧r=unpR xs z'
section
variable {F0:List Nat} {w0 w:World} {ps rest:List As} {s:Sl} {xs:List Int} {most:Int} {r:List Int × Int × Int}
theorem qbg.c {K:Ending→World→Prop} (h:St F0 w0 w ps) [Rdb F0 w0 s ps 1 (u8s xs)] (hx:∀ x ∈ xs,0≤x∧x < 256) (hL:xs.length≤1000000) (hc:s.len≤s.cap) (hr:Unp xs most r)
 (hk:∀ t w',t.len=r.1.length→(∀ x ∈ r.1,0≤x∧x < 256)→St F0 w0 w' (rdA 1 t (u8s r.1) :: ps)→K (.returned (.tuple ⟨[.slice t.a t.len t.cap,.int .i64 r.2.1,.int .i64 r.2.2]⟩)) w'):Calls Try.prog 76 ⟨[.slice s.a s.len s.cap,.int .i64 most]⟩ w K:=by
 have hl:=(h.rdb s).1
 rw [qx] at hl
 refine qoc (qbg.ok _ _ _ _ ?_)
 unfold qbg
 have no:∀ w (e:Int),St F0 w0 w ps→r=([],0,e)→K (.returned (.tuple ⟨[.slice none 0 0,.int .i64 0,.int .i64 e]⟩)) w:=by
  intro w e h er
  subst er
  exact hk ⟨none,0,0⟩ w rfl (fun x hx=>by cases hx) (h.nil 1).ro
 unfold Unp at hr
 refine qzc (fun g=>?_) (fun g=>?_)
 · rw [if_pos (by omega)] at hr
   exact no w 3 h hr
 rw [if_neg (by omega)] at hr
 have b0:=hx _ (qrf (xs:=xs) (i:=0) (by omega))
 have b1:=hx _ (qrf (xs:=xs) (i:=1) (by omega))
 have bad:∀ w,St F0 w0 w ps→hdBad (xs.getD 0 0) (xs.getD 1 0)→K (.returned (.tuple ⟨[.slice none 0 0,.int .i64 0,.int .i64 2]⟩)) w:=by
  intro w h hb
  rw [if_pos hb] at hr
  exact no w 2 h hr
 refine h.drewK fun w h=>?_
 refine h.lx (s:=s) 0 rfl (by omega) (qcj ?_)
 refine qpf (fun g1=>bad w h (Or.inl (by simpa using g1))) (fun g1=>?_)
 refine h.lx (s:=s) 0 rfl (by omega) ⟨by decide,qcj ?_⟩
 refine qzc (fun g2=>bad w h (Or.inr (Or.inl g2))) (fun g2=>?_)
 refine h.lx (s:=s) 0 rfl (by omega) (qy (qk (by omega) (by omega)) ⟨by decide,qcj ?_⟩)
 refine h.lx (s:=s) 1 rfl (by omega) (qy (qk (by omega) (by omega)) (qcj ⟨by decide,qcj ?_⟩))
 refine qpf (fun g3=>bad w h (Or.inr (Or.inr (Or.inl (by simpa using g3))))) (fun g3=>?_)
 refine h.lx (s:=s) 1 rfl (by omega) (qcj ?_)
 refine qpf (fun g4=>bad w h (Or.inr (Or.inr (Or.inr (by simpa using g4))))) (fun g4=>?_)
 rw [if_neg (fun e=>by
  rcases e with e | e | e | e
  · exact e (by simpa using g1)
  · exact g2 e
  · exact e (by simpa using g3)
  · exact e (by simpa using g4))] at hr
 refine bd_i (n:=2) rfl (by omega) (qcj ?_)
 have hm:0≤most→¬ 262144 < most→St F0 w0 w ps→True:=fun _ _ _=>trivial
 by_cases hmo:most < 0 ∨ 262144 < most
 · rw [if_pos hmo] at hr
   refine qoc (qmb.ok _ _ _ _ ?_)
   unfold qmb
   refine qzc (fun g=>⟨⟨none,0,0⟩,_,_,rfl,qam rfl (no w 1 h hr)⟩) (fun g=>?_)
   refine qzc (fun g=>⟨⟨none,0,0⟩,_,_,rfl,qam rfl (no w 1 h hr)⟩) (fun g=>by omega)
 rw [if_neg hmo] at hr
 obtain ⟨V,z',hV,hz,hr⟩:=hr
 haveI:=h.cutR s 2 s.len (s.cap - 2) (ys:=xs.drop 2) (by omega) (by omega) hc (by rw [List.take_of_length_le (by rw [List.length_drop]; omega)])
 rw [hV] at this
 have hzp:=zinf_p hz
 have hzl:=zinf_len hz (by omega)
 have hzb:=zinf_allZ hz
 refine qmb.a (s:=⟨qzf s.a s.cap 2 1,s.len - 2,s.cap - 2⟩) (V:=V) (N:=xs.length - 2) h (by omega) (by omega) (by omega) hz (fun t w e0 ht h=>⟨t,_,_,rfl,br_no rfl ?_⟩) (fun w e0 h=>⟨⟨none,0,0⟩,_,_,rfl,qam (by simpa using e0) ?_⟩)
 rotate_left
 · refine no w _ h ?_
   rw [hr]
   unfold unpR
   rw [if_pos e0]
 unfold unpR at hr
 rw [if_neg (fun e=>e e0)] at hr
 refine qy (qk (by omega) (by omega)) ?_
 refine bd_i (n:=2+(z'.1+7) / 8) (by omega) (by omega) (qcj ?_)
 have hdl:(xs.drop (2+(z'.1+7) / 8)).length=xs.length - (2+(z'.1+7) / 8):=List.length_drop
 have hdb:allB (xs.drop (2+(z'.1+7) / 8)):=fun x hx'=>hx x (List.mem_of_mem_drop hx')
 haveI:=h.cutR s (2+(z'.1+7) / 8) s.len (s.cap - (2+(z'.1+7) / 8)) (ys:=xs.drop (2+(z'.1+7) / 8)) (by omega) (by omega) hc (by rw [List.take_of_length_le (by omega)])
 refine qcm.c (s:=⟨qzf s.a s.cap (2+(z'.1+7) / 8) 1,s.len - (2+(z'.1+7) / 8),s.cap - (2+(z'.1+7) / 8)⟩) h hdb (by omega) fun nb w h=>⟨_,rfl,?_⟩
 refine qjf.c (rb:=nb) h hdb fun w h=>⟨_,rfl,?_⟩
 refine qkf.c (rb:=nb) h ⟨_,rfl,?_⟩
 have ht4:((xs.drop (2+(z'.1+7) / 8)).take 4).length≤4:=by rw [List.length_take]; omega
 have hbe:=be_lt8 (n:=4) (l:=(xs.drop (2+(z'.1+7) / 8)).take 4) (fun x hx'=>hdb x (List.mem_of_mem_take hx')) ht4
 rw [show ((2:Int) ^ (8 * 4))=4294967296 by decide] at hbe
 by_cases h4:xs.length < 2+(z'.1+7) / 8+4
 · rw [if_pos h4] at hr
   have e:nuS (xs.drop (2+(z'.1+7) / 8)) 0 0 4=(0,0,3):=by
    have et:tkS (xs.drop (2+(z'.1+7) / 8)) 0 0 ((4:Nat):Int)=([],0,3):=by
     unfold tkS
     rw [if_neg (fun e=>by have:=e.2.2; omega)]
     rfl
    unfold nuS
    rw [et]
    rfl
   rw [e]
   refine qam rfl ?_
   exact no w 3 h.drop.drop hr
 · rw [if_neg h4] at hr
   have e:nuS (xs.drop (2+(z'.1+7) / 8)) 0 0 4=(be ((xs.drop (2+(z'.1+7) / 8)).take 4),4,0):=by
    have et:tkS (xs.drop (2+(z'.1+7) / 8)) 0 0 ((4:Nat):Int)=((xs.drop (2+(z'.1+7) / 8)).take 4,4,0):=by
     unfold tkS
     rw [if_pos ⟨rfl,by decide,by omega⟩]
     rfl
    unfold nuS
    rw [et]
    simp only
    rw [if_neg (by omega)]
   rw [e]
   refine br_no rfl ?_
   simp only
   refine qy (show IntKind.u32.wrap _=be ((xs.drop (2+(z'.1+7) / 8)).take 4) by rw [qrm]; omega) ?_
   refine qch.c (s:=t) h hzb (by omega) fun w h=>⟨_,rfl,?_⟩
   refine qpf (fun g=>?_) (fun g=>?_)
   · rw [if_pos (by simpa using g)] at hr
     exact no w 4 h.drop.drop hr
   · rw [if_neg (by simpa using g)] at hr
     refine qy (qk (by omega) (by omega)) ?_
     refine qy (qk (by omega) (by omega)) ?_
     subst hr
     have:=hk t w ht hzb h.drop
     simp only at this
     rw [show 2+(((z'.1+7) / 8:Nat):Int)+4=((2+(z'.1+7) / 8+4:Nat):Int) by omega]
     exact this
end
end Go.Proofs.Ythdmmmfgjmmelaa
namespace Go.Proofs.Ythdmmmfgjmmelaa
open Go Go.Proofs
set_option linter.unusedVariables false
set_option linter.unusedSimpArgs false
theorem qmo (V:Nat) (m k:Nat):qo (V:Int) (m+k)=qo (V:Int) m ++ qo ((V / 2 ^ m:Nat):Int) k:=by
 unfold qo
 rw [List.range_add,List.map_append,List.map_map]
 congr 1
 refine List.map_congr_left fun i hi=>?_
 show bt (V:Int) (m+i)=_
 rw [bt_nat,bt_nat,Nat.testBit_div_two_pow,Nat.add_comm]
theorem bitsOf_mod (V:Nat) (k:Nat):qo ((V % 2 ^ k:Nat):Int) k=qo (V:Int) k:=by
 unfold qo
 refine List.map_congr_left fun i hi=>?_
 rw [bt_nat,bt_nat,Nat.testBit_mod_two_pow]
 have:=List.mem_range.1 hi
 simp [this]
theorem bb_byt (V:Nat):∀ N,bb (byt V N)=qo (V:Int) (8 * N):=by
 intro N
 induction N with
 | zero=>rfl
 | succ N ih =>
   rw [qxm,bb_snoc,ih,show 8 * (N+1)=8 * N+8 by omega,qmo]
   congr 1
   exact bitsOf_mod _ 8
theorem bb_append (a b:List Int):bb (a ++ b)=bb a ++ bb b:=by simp [bb]
theorem qxj (D:List Bool):(bytes D).length=(D.length+7) / 8:=quf _ _
theorem bytes_ok (D:List Bool):∀ x ∈ bytes D,0≤x∧x < 256:=byt_ok _ _
theorem bits_front {V N:Nat} {D:List Bool} {t:List Int} (h:byt V N=bytes D ++ t):∃ r,qo (V:Int) (8 * N)=D ++ r:=by
 have e:=bb_byt V N
 rw [h,bb_append] at e
 have e2:bb (bytes D)=qo (val D:Int) (8 * ((D.length+7) / 8)):=bb_byt _ _
 rw [show 8 * ((D.length+7) / 8)=D.length+(8 * ((D.length+7) / 8) - D.length) by omega,qmo,qmk] at e2
 rw [e2,List.append_assoc] at e
 exact ⟨_,e.symm⟩
def frm (xs:List Int) (D:List Bool):List Int:=[120,156] ++ bytes D ++ beJ 4 4 (adV xs)
theorem beJ4_len (v:Int):(beJ 4 4 v).length=4:=by simp [beJ]
theorem qkp (xs:List Int) (D:List Bool):(frm xs D).length=2+(D.length+7) / 8+4:=by
 unfold frm
 rw [List.length_append,List.length_append,qxj,beJ4_len]; rfl
theorem unp_gen {xs t:List Int} {D:List Bool} {most:Int} (hD:Dfl xs D) (ht:∀ x ∈ t,0≤x∧x < 256) (h0:0≤most) (h1:most≤262144) :
 ((xs.length:Int)≤most→Unp ([120,156] ++ bytes D ++ t) most (unpR ([120,156] ++ bytes D ++ t) (D.length,xs,0)))∧(most < xs.length→Unp ([120,156] ++ bytes D ++ t) most ([],0,5)):=by
 generalize hy:[120,156] ++ bytes D ++ t=ys
 have hyl:ys.length=2+(bytes D ++ t).length:=by rw [← hy]; simp; omega
 have hyd:ys.drop 2=bytes D ++ t:=by rw [← hy]; rfl
 have e0:ys.getD 0 0=120:=by rw [← hy]; rfl
 have e1:ys.getD 1 0=156:=by rw [← hy]; rfl
 obtain ⟨V,hV⟩:=byt_ex (bytes D ++ t) (fun x hx=>by
  rcases List.mem_append.1 hx with hx | hx
  · exact bytes_ok D x hx
  · exact ht x hx)
 obtain ⟨r,hr⟩:=bits_front hV.symm
 obtain ⟨g1,g2⟩:=hD _ r most hr h0
 have hbad:¬ hdBad 120 156:=by decide +kernel
 have hl2:ys.length - 2=(bytes D ++ t).length:=by omega
 have mk:∀ z' q,ZAll (qo (V:Int) (8 * (bytes D ++ t).length)) most 0 (0,[],0) z'→q=unpR ys z'→Unp ys most q:=by
  intro z' q hz hq
  unfold Unp
  rw [if_neg (by omega),e0,e1,if_neg hbad,if_neg (by omega),hl2]
  exact ⟨V,z',by rw [hyd]; exact hV,⟨0,hz⟩,hq⟩
 refine ⟨fun hm=>mk _ _ (g1 hm) rfl,fun hm=>?_⟩
 obtain ⟨z',hz,h5⟩:=g2 hm
 refine mk z' _ hz ?_
 unfold unpR
 rw [if_pos (by rw [h5]; decide),h5]
theorem unp_frm {xs t:List Int} {D:List Bool} {most:Int} (hD:Dfl xs D) (ht:∀ x ∈ t,0≤x∧x < 256) (hm:(xs.length:Int)≤most) (h1:most≤262144):Unp (frm xs D ++ t) most (xs,((frm xs D).length:Int),0):=by
 have h:=(unp_gen (t:=beJ 4 4 (adV xs) ++ t) hD (fun x hx=>by
  rcases List.mem_append.1 hx with hx | hx
  · exact beJ_ok 4 4 _ x hx
  · exact ht x hx) (by omega) h1).1 hm
 rw [← List.append_assoc,show [120,156] ++ bytes D ++ beJ 4 4 (adV xs)=frm xs D from rfl] at h
 have hl:=qkp xs D
 have e:unpR (frm xs D ++ t) (D.length,xs,0)=(xs,((frm xs D).length:Int),0):=by
  unfold unpR
  simp only
  rw [if_neg (fun e=>e rfl),if_neg (by rw [List.length_append]; omega),if_neg,hl]
  have ed:((frm xs D ++ t).drop (2+(D.length+7) / 8)).take 4=beJ 4 4 (adV xs):=by
   unfold frm
   rw [List.append_assoc,List.drop_left' (by rw [List.length_append,qxj]; rfl),List.take_left' (beJ4_len _)]
  have hb:=adV_b xs
  rw [ed,be_beJ',show (2:Int) ^ (8 * 4)=4294967296 by decide,Int.emod_eq_of_lt hb.1 hb.2]
  exact fun e=>e rfl
 rwa [e] at h
end Go.Proofs.Ythdmmmfgjmmelaa
namespace Go.Proofs.Ythdmmmfgjmmelaa
set_option linter.unusedVariables false
set_option linter.unusedSimpArgs false
section
variable {α:Type} {k:α→Int}
def mrg (k:α→Int):List α→List α→List α
 | [],ys=>ys
 | x :: xs,[]=>x :: xs
 | x :: xs,y :: ys=>if k y < k x then y :: mrg k (x :: xs) ys else x :: mrg k xs (y :: ys)
termination_by xs ys=>xs.length+ys.length
theorem qnf (ys:List α):mrg k [] ys=ys:=by unfold mrg; rfl
theorem qlf (xs:List α):mrg k xs []=xs:=by
 cases xs with
 | nil=>exact qnf _
 | cons x xs=>unfold mrg; rfl
theorem qcf (x y:α) (xs ys:List α):mrg k (x :: xs) (y :: ys)=if k y < k x then y :: mrg k (x :: xs) ys else x :: mrg k xs (y :: ys):=by
 conv=>lhs; unfold mrg
theorem qep:∀ (n:Nat) (xs ys:List α),xs.length+ys.length=n→(mrg k xs ys).length=n:=by
 intro n
 induction n with
 | zero =>
   intro xs ys h
   have h1:xs=[]:=List.length_eq_zero_iff.1 (by omega)
   have h2:ys=[]:=List.length_eq_zero_iff.1 (by omega)
   subst h1; subst h2
   rw [qnf]; rfl
 | succ n ih =>
   intro xs ys h
   cases xs with
   | nil=>rw [qnf]; simpa using h
   | cons x xs =>
     cases ys with
     | nil=>rw [qlf]; simpa using h
     | cons y ys =>
       simp only [List.length_cons] at h
       rw [qcf]
       split
       · rw [List.length_cons,ih _ _ (by simp only [List.length_cons]; omega)]
       · rw [List.length_cons,ih _ _ (by simp only [List.length_cons]; omega)]
def srt (k:α→Int) (l:List α):Prop:=l.Pairwise fun a b=>k a≤k b
theorem mrg_cut:∀ (n:Nat) (A1 A2 B1 B2:List α),A1.length+B1.length=n→(∀ a ∈ A2,∀ b ∈ B1,k b < k a)→(∀ a ∈ A1,∀ b ∈ B2,k a≤k b)→mrg k (A1 ++ A2) (B1 ++ B2)=mrg k A1 B1 ++ mrg k A2 B2:=by
 intro n
 induction n with
 | zero =>
   intro A1 A2 B1 B2 h _ _
   have h1:A1=[]:=List.length_eq_zero_iff.1 (by omega)
   have h2:B1=[]:=List.length_eq_zero_iff.1 (by omega)
   subst h1; subst h2
   rw [qnf]; rfl
 | succ n ih =>
   intro A1 A2 B1 B2 h hA hB
   cases A1 with
   | nil =>
     rw [qnf,List.nil_append]
     cases B1 with
     | nil=>rfl
     | cons b B1 =>
       cases A2 with
       | nil=>rw [qnf,qnf]
       | cons a A2 =>
         rw [List.cons_append,qcf,if_pos (hA a (by simp) b (by simp))]
         have:=ih [] (a :: A2) B1 B2 (by simp only [List.length_cons,List.length_nil] at h ⊢; omega) (fun a ha b hb=>hA a ha b (by simp [hb])) (by simp)
         rw [List.nil_append,qnf] at this
         rw [this]; rfl
   | cons a A1 =>
     cases B1 with
     | nil =>
       rw [qlf,List.nil_append]
       cases B2 with
       | nil=>rw [qlf,qlf]
       | cons b B2 =>
         have hab:=hB a (by simp) b (by simp)
         rw [List.cons_append,qcf,if_neg (by omega)]
         have:=ih A1 A2 [] (b :: B2) (by simp only [List.length_cons,List.length_nil] at h ⊢; omega) (by simp) (fun a ha b hb=>hB a (by simp [ha]) b hb)
         rw [List.nil_append,qlf] at this
         rw [this]; rfl
     | cons b B1 =>
       rw [List.cons_append,List.cons_append,qcf,qcf]
       simp only [List.length_cons] at h
       split
       · have:=ih (a :: A1) A2 B1 B2 (by simp only [List.length_cons]; omega) (fun a ha b hb=>hA a ha b (by simp [hb])) hB
         rw [List.cons_append] at this
         rw [this]; rfl
       · have:=ih A1 A2 (b :: B1) B2 (by simp only [List.length_cons]; omega) hA (fun a ha b hb=>hB a (by simp [ha]) b hb)
         rw [List.cons_append] at this
         rw [this]; rfl
theorem mrg_left (A B:List α) (h:∀ a ∈ A,∀ b ∈ B,k a≤k b):mrg k A B=A ++ B:=by
 have:=mrg_cut (k:=k) _ A [] [] B rfl (by simp) h
 rw [List.append_nil,List.nil_append,qlf,qnf] at this
 exact this
def insR (k:α→Int) (x:α):List α→List α
 | []=>[x]
 | y :: l=>if k x < k y then x :: y :: l else y :: insR k x l
def qpc (k:α→Int) (l:List α):List α:=l.foldl (fun a x=>insR k x a) []
theorem qhg (l:List α) (x:α):qpc k (l ++ [x])=insR k x (qpc k l):=by simp [qpc]
theorem insR_perm (x:α) (l:List α):(insR k x l).Perm (x :: l):=by
 induction l with
 | nil=>exact List.Perm.refl _
 | cons y l ih =>
   rw [insR]
   split
   · exact List.Perm.refl _
   · exact (List.Perm.cons y ih).trans (List.Perm.swap x y l)
theorem insR_srt {x:α} {l:List α} (h:srt k l):srt k (insR k x l):=by
 induction l with
 | nil=>exact List.pairwise_singleton _ _
 | cons y l ih =>
   rw [insR]
   have h':=List.pairwise_cons.1 h
   split
   · rename_i hlt
     refine List.pairwise_cons.2 ⟨fun z hz=>?_,h⟩
     rcases List.mem_cons.1 hz with rfl | hz
     · omega
     · have:=h'.1 z hz; omega
   · rename_i hlt
     refine List.pairwise_cons.2 ⟨fun z hz=>?_,ih h'.2⟩
     have:=(insR_perm (k:=k) x l).mem_iff.1 hz
     rcases List.mem_cons.1 this with rfl | hz
     · omega
     · exact h'.1 z hz
theorem qcl {Q:List α→Prop} (h0:Q []) (h1:∀ l x,Q l→Q (l ++ [x])) (l:List α):Q l:=by
 have:∀ n (l:List α),l.length=n→Q l:=by
  intro n
  induction n with
  | zero=>intro l h; rw [List.length_eq_zero_iff.1 h]; exact h0
  | succ n ih =>
    intro l h
    have hne:l ≠ []:=by intro e; subst e; simp at h
    rw [← List.dropLast_concat_getLast hne]
    exact h1 _ _ (ih _ (by rw [List.length_dropLast]; omega))
 exact this _ l rfl
theorem qmg (l:List α):srt k (qpc k l):=qcl (Q:=fun l=>srt k (qpc k l)) List.Pairwise.nil (fun l x h=>by rw [qhg]; exact insR_srt h) l
theorem qig (l:List α):(qpc k l).Perm l:=qcl (Q:=fun l=>(qpc k l).Perm l) (List.Perm.refl _) (fun l x h=>by
 rw [qhg]
 exact (insR_perm x _).trans ((List.Perm.cons x h).trans (List.perm_append_comm (l₁:=[x]) (l₂:=l)))) l
theorem qkc (l:List α):(qpc k l).length=l.length:=(qig l).length_eq
theorem insR_mrg (x:α):∀ (n:Nat) (A B:List α),A.length+B.length=n→srt k A→srt k B→insR k x (mrg k A B)=mrg k A (insR k x B):=by
 intro n
 induction n with
 | zero =>
   intro A B h _ _
   have h1:A=[]:=List.length_eq_zero_iff.1 (by omega)
   subst h1
   rw [qnf,qnf]
 | succ n ih =>
   intro A B h hA hB
   cases A with
   | nil=>rw [qnf,qnf]
   | cons a A =>
     have hA':=List.pairwise_cons.1 hA
     cases B with
     | nil =>
       rw [qlf]
       show (if k x < k a then x :: a :: A else a :: insR k x A)=mrg k (a :: A) [x]
       rw [qcf]
       split
       · rw [qlf]
       · have:=ih A [] (by simp only [List.length_cons,List.length_nil] at h ⊢; omega) hA'.2 List.Pairwise.nil
         rw [qlf] at this
         rw [this]; rfl
     | cons b B =>
       have hB':=List.pairwise_cons.1 hB
       simp only [List.length_cons] at h
       rw [qcf]
       by_cases h1:k b < k a
       · rw [if_pos h1]
         show (if k x < k b then x :: b :: mrg k (a :: A) B else b :: insR k x (mrg k (a :: A) B))=_
         show _=mrg k (a :: A) (if k x < k b then x :: b :: B else b :: insR k x B)
         by_cases h2:k x < k b
         · rw [if_pos h2,if_pos h2,qcf,if_pos (by omega),qcf,if_pos h1]
         · rw [if_neg h2,if_neg h2,qcf,if_pos h1,ih (a :: A) B (by simp only [List.length_cons]; omega) hA hB'.2]
       · rw [if_neg h1]
         show (if k x < k a then x :: a :: mrg k A (b :: B) else a :: insR k x (mrg k A (b :: B)))=_
         by_cases h2:k x < k a
         · rw [if_pos h2]
           have h3:k x < k b:=by omega
           show _=mrg k (a :: A) (if k x < k b then x :: b :: B else b :: insR k x B)
           rw [if_pos h3,qcf,if_pos h2,qcf,if_neg h1]
         · rw [if_neg h2,ih A (b :: B) (by simp only [List.length_cons]; omega) hA'.2 hB]
           show a :: mrg k A (if k x < k b then x :: b :: B else b :: insR k x B)=mrg k (a :: A) (if k x < k b then x :: b :: B else b :: insR k x B)
           by_cases h3:k x < k b
           · rw [if_pos h3,qcf,if_neg h2]
           · rw [if_neg h3,qcf,if_neg h1]
theorem qkj (A B:List α):qpc k (A ++ B)=mrg k (qpc k A) (qpc k B):=qcl (Q:=fun B=>qpc k (A ++ B)=mrg k (qpc k A) (qpc k B)) (by rw [List.append_nil]; exact (qlf _).symm) (fun B x h=>by
 rw [← List.append_assoc,qhg,qhg,h,insR_mrg x _ _ _ rfl (qmg A) (qmg B)]) B
def bsort (k:α→Int) (c:Nat):Nat→List α→List α
 | 0,l=>qpc k l
 | f+1,l=>if l.length≤c then qpc k l else qpc k (l.take c) ++ bsort k c f (l.drop c)
end
end Go.Proofs.Ythdmmmfgjmmelaa
namespace Go.Proofs.Ythdmmmfgjmmelaa
open Go Go.Proofs
set_option linter.unusedVariables false
set_option maxRecDepth 100000
def qog (a_0:(Array Value)) (b_1:(Array Value)) (Q:VWP) (w:World):Prop :=
 lt (⟨World.heapSize w,0,none⟩:Addr) fun a1 =>
 lt (World.alloc w (.cells a_0 80)) fun w2 =>
 lt (⟨World.heapSize w2,0,none⟩:Addr) fun a3 =>
 lt (World.alloc w2 (.cells b_1 80)) fun w4 =>
 ldI .i64 w4 (Addr.add a1 0) fun x5 =>
 ldI .i64 w4 (Addr.add a3 0) fun x6 =>
 Calls Try.prog 42 ⟨[.int .i64 x5,.int .i64 x6]⟩ w4 fun e7 w8 =>
 ∃ r9:Int,e7=.returned (.int .i64 r9) ∧
 Q (.int .i64 r9) w8
theorem qog.ok (a_0:(Array Value)) (b_1:(Array Value)) (Q:VWP) (w:World) (h:qog a_0 b_1 Q w):Calls Try.prog 41 ⟨[.agg a_0,.agg b_1]⟩ w (Ret Q):=by
 refine qn [.tmp 4] Try.func41 rfl rfl rfl rfl ?_
 exact qg qpb _ (Eq.mp (by kernel_rfl) h)
def qyg (x_0:Int) (Q:VWP) (w:World):Prop :=
 Q (.bool ((x_0:Int) != x_0)) w
theorem qyg.ok (x_0:Int) (Q:VWP) (w:World) (h:qyg x_0 Q w):Calls Try.prog 90 ⟨[.int .i64 x_0]⟩ w (Ret Q):=by
 refine qn [.tmp 2] Try.func90 rfl rfl rfl rfl ?_
 exact qg qpb _ (Eq.mp (by kernel_rfl) h)
def qpg (x_0 y_1:Int) (Q:VWP) (w:World):Prop :=
 Calls Try.prog 90 ⟨[.int .i64 x_0]⟩ w fun e1 w2 =>
 ∃ r3:Bool,e1=.returned (.bool r3) ∧
 Calls Try.prog 90 ⟨[.int .i64 y_1]⟩ w2 fun e4 w5 =>
 ∃ r6:Bool,e4=.returned (.bool r6) ∧
 br r3 (
 br r6 (
 Q (.int .i64 0) w5) (
 Q (.int .i64 (-1)) w5)) (
 br r6 (
 Q (.int .i64 1) w5) (
 br (decide ((x_0:Int) < y_1)) (
 Q (.int .i64 (-1)) w5) (
 br (decide ((x_0:Int) > y_1)) (
 Q (.int .i64 1) w5) (
 Q (.int .i64 0) w5))))
theorem qpg.ok (x_0:Int) (y_1:Int) (Q:VWP) (w:World) (h:qpg x_0 y_1 Q w):Calls Try.prog 42 ⟨[.int .i64 x_0,.int .i64 y_1]⟩ w (Ret Q):=by
 refine qn [.tmp 4] Try.func42 rfl rfl rfl rfl ?_
 exact qg qpb _ (Eq.mp (by kernel_rfl) h)
def qi.j3 (data_0:Sl) (a_1:Int) (b_2 i_8:Int) (Q:VWP) (nx1:Sl→Int→Int→Int→World→Prop) (w:World):Prop :=
 lt (IntKind.i64.wrap (i_8+1)) fun x1 =>
 nx1 data_0 a_1 b_2 x1 w
def qi.b2 (data_0:Sl) (a_1:Int) (b_2 i_8 j_9:Int) (Q:VWP) (nx1:Sl→Int→Int→Int→World→Prop) (nx2:Sl→Int→Int→Int→Int→World→Prop) (w:World):Prop :=
 lt (World.drew w) fun w2 =>
 br (decide ((j_9:Int) > a_1)) (
 ixS data_0.a data_0.len j_9 2 fun a3 =>
 ldA w2 a3 2 fun c4 =>
 lt (IntKind.i64.wrap (j_9 - 1)) fun x5 =>
 ixS data_0.a data_0.len x5 2 fun a6 =>
 ldA w2 a6 2 fun c7 =>
 Calls Try.prog 41 ⟨[.agg c4,.agg c7]⟩ w2 fun e8 w9 =>
 ∃ r10:Int,e8=.returned (.int .i64 r10) ∧
 br (decide ((r10:Int) < 0)) (
 lt (World.drew w9) fun w11 =>
 lt (IntKind.i64.wrap (j_9 - 1)) fun x12 =>
 lt (IntKind.i64.wrap (j_9 - 1)) fun x13 =>
 ixS data_0.a data_0.len x13 2 fun a14 =>
 ldA w11 a14 2 fun c15 =>
 ixS data_0.a data_0.len j_9 2 fun a16 =>
 ldA w11 a16 2 fun c17 =>
 ixS data_0.a data_0.len j_9 2 fun a18 =>
 (c15).size=2 ∧
 stA w11 a18 c15 fun w19 =>
 ixS data_0.a data_0.len x12 2 fun a20 =>
 (c17).size=2 ∧
 stA w19 a20 c17 fun w21 =>
 lt (IntKind.i64.wrap (j_9 - 1)) fun x22 =>
 nx2 data_0 a_1 b_2 i_8 x22 w21) (
 qi.j3 data_0 a_1 b_2 i_8 Q nx1 w9)) (
 qi.j3 data_0 a_1 b_2 i_8 Q nx1 w2)
def qi.l2 (data_0:Sl) (a_1:Int) (b_2 i_8 j_9:Int) (Q:VWP) (nx1:Sl→Int→Int→Int→World→Prop) (w:World):Prop :=
 ∃ (I:Int→World→Prop) (μ:Int→World→Nat),I j_9 w∧∀ j_9:Int,∀ w:World,I j_9 w→qi.b2 data_0 a_1 b_2 i_8 j_9 Q nx1 (fun data_0' a_1' b_2' i_8' j_9' w'=>(data_0'=data_0∧a_1'=a_1∧b_2'=b_2∧i_8'=i_8)∧I j_9' w'∧μ j_9' w' < μ j_9 w) w
def qi.j4 (data_0:Sl) (a_1:Int) (b_2 i_8 j_9:Int) (Q:VWP) (nx1:Sl→Int→Int→Int→World→Prop) (w:World):Prop :=
 qi.l2 data_0 a_1 b_2 i_8 j_9 Q nx1 w
def qi.j2 (data_0:Sl) (a_1:Int) (b_2 i_8:Int) (Q:VWP) (nx1:Sl→Int→Int→Int→World→Prop) (w:World):Prop :=
 qi.j4 data_0 a_1 b_2 i_8 i_8 Q nx1 w
def qi.b1 (data_0:Sl) (a_1:Int) (b_2 i_8:Int) (Q:VWP) (nx1:Sl→Int→Int→Int→World→Prop) (w:World):Prop :=
 br (decide ((i_8:Int) < b_2)) (
 qi.j2 data_0 a_1 b_2 i_8 Q nx1 w) (
 Q (.tuple ⟨[]⟩) w)
def qi.l1 (data_0:Sl) (a_1:Int) (b_2 i_8:Int) (Q:VWP) (w:World):Prop :=
 ∃ (I:Int→World→Prop) (μ:Int→World→Nat),I i_8 w∧∀ i_8:Int,∀ w:World,I i_8 w→qi.b1 data_0 a_1 b_2 i_8 Q (fun data_0' a_1' b_2' i_8' w'=>(data_0'=data_0∧a_1'=a_1∧b_2'=b_2)∧I i_8' w'∧μ i_8' w' < μ i_8 w) w
def qi.j1 (data_0:Sl) (a_1:Int) (b_2 i_8:Int) (Q:VWP) (w:World):Prop :=
 qi.l1 data_0 a_1 b_2 i_8 Q w
def qi (data_0:Sl) (a_1:Int) (b_2:Int) (Q:VWP) (w:World):Prop :=
 lt (IntKind.i64.wrap (a_1+1)) fun x23 =>
 qi.j1 data_0 a_1 b_2 x23 Q w
theorem qi.ok (data_0:Sl) (a_1:Int) (b_2:Int) (Q:VWP) (w:World) (h:qi data_0 a_1 b_2 Q w):Calls Try.prog 135 ⟨[.slice data_0.a data_0.len data_0.cap,.int .i64 a_1,.int .i64 b_2,.func (.func 41) ⟨[]⟩ ⟨[]⟩]⟩ w (Ret Q):=by
 refine qn [] Try.func135 rfl rfl rfl rfl ?_
 refine qr (fun ρ w=>asL (ρ 0) fun data_0=>asI .i64 (ρ 1) fun a_1=>asI .i64 (ρ 2) fun b_2=>qth 41 (ρ 3) <| asI .i64 (ρ 8) fun i_8=>qi.j1 data_0 a_1 b_2 i_8 Q w) ?_ ?_
 · skip
   exact qg qpb _ (Eq.mp (by kernel_rfl) h)
 · intro ρ w h
   obtain ⟨data_0,e0,h⟩:=qj h
   obtain ⟨a_1,e1,h⟩:=qe h
   obtain ⟨b_2,e2,h⟩:=qe h
   obtain ⟨e3,h⟩:=qsc h
   obtain ⟨i_8,e8,h⟩:=qe h
   refine qb e0 (qb (qa e1 rfl) (qb (qa (qa e2 rfl) rfl) (qb (qa (qa (qa e3 rfl) rfl) rfl) (qb (qa (qa (qa (qa e8 rfl) rfl) rfl) rfl) ?_))))
   refine qcb ?_
   obtain ⟨I,μ,hI,hr⟩:=h
   refine qhb (α:=Int) (fun s ρ=>ρ 8=.int .i64 s∧ρ 0=.slice data_0.a data_0.len data_0.cap∧ρ 1=.int .i64 a_1∧ρ 2=.int .i64 b_2∧ρ 3=.func (.func 41) ⟨[]⟩ ⟨[]⟩) (fun s w=>I s w) (fun s w=>μ s w) i_8 ⟨rfl,rfl,rfl,rfl,rfl⟩ hI ?_
   rintro i_8 ρ w ⟨e8,e0,e1,e2,e3⟩ hI
   have h:=hr i_8 w hI
   clear hr
   obtain ⟨nx1,hnx⟩:∃ nx:Sl→Int→Int→Int→World→Prop,nx=(fun data_0' a_1' b_2' i_8' w'=>(data_0'=data_0∧a_1'=a_1∧b_2'=b_2)∧I i_8' w'∧μ i_8' w' < μ i_8 w):=⟨_,rfl⟩
   rw [← hnx] at h
   refine qob (M:=fun ρ w=>asL (ρ 0) fun data_0=>asI .i64 (ρ 1) fun a_1=>asI .i64 (ρ 2) fun b_2=>qth 41 (ρ 3) <| asI .i64 (ρ 8) fun i_8=>nx1 data_0 a_1 b_2 i_8 w) ?_ (fun ρ w h=>?_)
   · skip
     refine qb e0 (qb (qa e1 rfl) (qb (qa (qa e2 rfl) rfl) (qb (qa (qa (qa e3 rfl) rfl) rfl) (qb (qa (qa (qa (qa e8 rfl) rfl) rfl) rfl) ?_))))
     refine qr (fun ρ w=>asL (ρ 0) fun data_0=>asI .i64 (ρ 1) fun a_1=>asI .i64 (ρ 2) fun b_2=>qth 41 (ρ 3) <| asI .i64 (ρ 8) fun i_8=>qi.j2 data_0 a_1 b_2 i_8 Q nx1 w) ?_ ?_
     · skip
       exact qg qpb _ (Eq.mp (by kernel_rfl) h)
     · intro ρ w h
       obtain ⟨data_0,e0,h⟩:=qj h
       obtain ⟨a_1,e1,h⟩:=qe h
       obtain ⟨b_2,e2,h⟩:=qe h
       obtain ⟨e3,h⟩:=qsc h
       obtain ⟨i_8,e8,h⟩:=qe h
       refine qb e0 (qb (qa e1 rfl) (qb (qa (qa e2 rfl) rfl) (qb (qa (qa (qa e3 rfl) rfl) rfl) (qb (qa (qa (qa (qa e8 rfl) rfl) rfl) rfl) ?_))))
       refine qr (fun ρ w=>asL (ρ 0) fun data_0=>asI .i64 (ρ 1) fun a_1=>asI .i64 (ρ 2) fun b_2=>qth 41 (ρ 3) <| asI .i64 (ρ 8) fun i_8=>qi.j3 data_0 a_1 b_2 i_8 Q nx1 w) ?_ ?_
       · skip
         refine qcb ?_
         refine qr (fun ρ w=>asL (ρ 0) fun data_0=>asI .i64 (ρ 1) fun a_1=>asI .i64 (ρ 2) fun b_2=>qth 41 (ρ 3) <| asI .i64 (ρ 8) fun i_8=>asI .i64 (ρ 9) fun j_9=>qi.j4 data_0 a_1 b_2 i_8 j_9 Q nx1 w) ?_ ?_
         · skip
           exact qg qpb _ (Eq.mp (by kernel_rfl) h)
         · intro ρ w h
           obtain ⟨data_0,e0,h⟩:=qj h
           obtain ⟨a_1,e1,h⟩:=qe h
           obtain ⟨b_2,e2,h⟩:=qe h
           obtain ⟨e3,h⟩:=qsc h
           obtain ⟨i_8,e8,h⟩:=qe h
           obtain ⟨j_9,e9,h⟩:=qe h
           refine qb e0 (qb (qa e1 rfl) (qb (qa (qa e2 rfl) rfl) (qb (qa (qa (qa e3 rfl) rfl) rfl) (qb (qa (qa (qa (qa e8 rfl) rfl) rfl) rfl) (qb (qa (qa (qa (qa (qa e9 rfl) rfl) rfl) rfl) rfl) ?_)))))
           refine qcb ?_
           obtain ⟨I,μ,hI,hr⟩:=h
           refine qhb (α:=Int) (fun s ρ=>ρ 9=.int .i64 s∧ρ 0=.slice data_0.a data_0.len data_0.cap∧ρ 1=.int .i64 a_1∧ρ 2=.int .i64 b_2∧ρ 3=.func (.func 41) ⟨[]⟩ ⟨[]⟩∧ρ 8=.int .i64 i_8) (fun s w=>I s w) (fun s w=>μ s w) j_9 ⟨rfl,rfl,rfl,rfl,rfl,rfl⟩ hI ?_
           rintro j_9 ρ w ⟨e9,e0,e1,e2,e3,e8⟩ hI
           have h:=hr j_9 w hI
           clear hr
           obtain ⟨nx2,hnx⟩:∃ nx:Sl→Int→Int→Int→Int→World→Prop,nx=(fun data_0' a_1' b_2' i_8' j_9' w'=>(data_0'=data_0∧a_1'=a_1∧b_2'=b_2∧i_8'=i_8)∧I j_9' w'∧μ j_9' w' < μ j_9 w):=⟨_,rfl⟩
           rw [← hnx] at h
           refine qob (M:=fun ρ w=>asL (ρ 0) fun data_0=>asI .i64 (ρ 1) fun a_1=>asI .i64 (ρ 2) fun b_2=>qth 41 (ρ 3) <| asI .i64 (ρ 8) fun i_8=>asI .i64 (ρ 9) fun j_9=>nx2 data_0 a_1 b_2 i_8 j_9 w) ?_ (fun ρ w h=>?_)
           · skip
             refine qb e0 (qb (qa e1 rfl) (qb (qa (qa e2 rfl) rfl) (qb (qa (qa (qa e3 rfl) rfl) rfl) (qb (qa (qa (qa (qa e8 rfl) rfl) rfl) rfl) (qb (qa (qa (qa (qa (qa e9 rfl) rfl) rfl) rfl) rfl) ?_)))))
             exact qg qpb _ (Eq.mp (by kernel_rfl) h)
           · skip
             obtain ⟨data_0',e0',h⟩:=qj h
             obtain ⟨a_1',e1',h⟩:=qe h
             obtain ⟨b_2',e2',h⟩:=qe h
             obtain ⟨e3',h⟩:=qsc h
             obtain ⟨i_8',e8',h⟩:=qe h
             obtain ⟨j_9',e9',h⟩:=qe h
             rw [hnx] at h
             obtain ⟨hu,hI2,hμ⟩:=h
             obtain ⟨rfl,rfl,rfl,rfl⟩:=hu
             exact ⟨j_9',⟨e9',e0',e1',e2',e3',e8'⟩,hI2,hμ⟩
       · intro ρ w h
         obtain ⟨data_0,e0,h⟩:=qj h
         obtain ⟨a_1,e1,h⟩:=qe h
         obtain ⟨b_2,e2,h⟩:=qe h
         obtain ⟨e3,h⟩:=qsc h
         obtain ⟨i_8,e8,h⟩:=qe h
         refine qb e0 (qb (qa e1 rfl) (qb (qa (qa e2 rfl) rfl) (qb (qa (qa (qa e3 rfl) rfl) rfl) (qb (qa (qa (qa (qa e8 rfl) rfl) rfl) rfl) ?_))))
         exact qg qpb _ (Eq.mp (by kernel_rfl) h)
   · skip
     obtain ⟨data_0',e0',h⟩:=qj h
     obtain ⟨a_1',e1',h⟩:=qe h
     obtain ⟨b_2',e2',h⟩:=qe h
     obtain ⟨e3',h⟩:=qsc h
     obtain ⟨i_8',e8',h⟩:=qe h
     rw [hnx] at h
     obtain ⟨hu,hI2,hμ⟩:=h
     obtain ⟨rfl,rfl,rfl⟩:=hu
     exact ⟨i_8',⟨e8',e0',e1',e2',e3'⟩,hI2,hμ⟩
def qfb.b1 (data_0:Sl) (a_1:Int) (b_2 n_3 i_10:Int) (Q:VWP) (nx1:Sl→Int→Int→Int→Int→World→Prop) (w:World):Prop :=
 br (decide ((i_10:Int) < n_3)) (
 lt (World.drew w) fun w1 =>
 lt (IntKind.i64.wrap (a_1+i_10)) fun x2 =>
 lt (IntKind.i64.wrap (b_2+i_10)) fun x3 =>
 lt (IntKind.i64.wrap (b_2+i_10)) fun x4 =>
 ixS data_0.a data_0.len x4 2 fun a5 =>
 ldA w1 a5 2 fun c6 =>
 lt (IntKind.i64.wrap (a_1+i_10)) fun x7 =>
 ixS data_0.a data_0.len x7 2 fun a8 =>
 ldA w1 a8 2 fun c9 =>
 ixS data_0.a data_0.len x2 2 fun a10 =>
 (c6).size=2 ∧
 stA w1 a10 c6 fun w11 =>
 ixS data_0.a data_0.len x3 2 fun a12 =>
 (c9).size=2 ∧
 stA w11 a12 c9 fun w13 =>
 lt (IntKind.i64.wrap (i_10+1)) fun x14 =>
 nx1 data_0 a_1 b_2 n_3 x14 w13) (
 Q (.tuple ⟨[]⟩) w)
def qfb.l1 (data_0:Sl) (a_1:Int) (b_2 n_3 i_10:Int) (Q:VWP) (w:World):Prop :=
 ∃ (I:Int→World→Prop) (μ:Int→World→Nat),I i_10 w∧∀ i_10:Int,∀ w:World,I i_10 w→qfb.b1 data_0 a_1 b_2 n_3 i_10 Q (fun data_0' a_1' b_2' n_3' i_10' w'=>(data_0'=data_0∧a_1'=a_1∧b_2'=b_2∧n_3'=n_3)∧I i_10' w'∧μ i_10' w' < μ i_10 w) w
def qfb.j1 (data_0:Sl) (a_1:Int) (b_2 n_3 i_10:Int) (Q:VWP) (w:World):Prop :=
 qfb.l1 data_0 a_1 b_2 n_3 i_10 Q w
def qfb (data_0:Sl) (a_1:Int) (b_2 n_3:Int) (Q:VWP) (w:World):Prop :=
 qfb.j1 data_0 a_1 b_2 n_3 0 Q w
theorem qfb.ok (data_0:Sl) (a_1:Int) (b_2:Int) (n_3:Int) (Q:VWP) (w:World) (h:qfb data_0 a_1 b_2 n_3 Q w):Calls Try.prog 179 ⟨[.slice data_0.a data_0.len data_0.cap,.int .i64 a_1,.int .i64 b_2,.int .i64 n_3,.func (.func 41) ⟨[]⟩ ⟨[]⟩]⟩ w (Ret Q):=by
 refine qn [] Try.func179 rfl rfl rfl rfl ?_
 refine qr (fun ρ w=>asL (ρ 0) fun data_0=>asI .i64 (ρ 1) fun a_1=>asI .i64 (ρ 2) fun b_2=>asI .i64 (ρ 3) fun n_3=>asI .i64 (ρ 10) fun i_10=>qfb.j1 data_0 a_1 b_2 n_3 i_10 Q w) ?_ ?_
 · skip
   exact qg qpb _ (Eq.mp (by kernel_rfl) h)
 · intro ρ w h
   obtain ⟨data_0,e0,h⟩:=qj h
   obtain ⟨a_1,e1,h⟩:=qe h
   obtain ⟨b_2,e2,h⟩:=qe h
   obtain ⟨n_3,e3,h⟩:=qe h
   obtain ⟨i_10,e10,h⟩:=qe h
   refine qb e0 (qb (qa e1 rfl) (qb (qa (qa e2 rfl) rfl) (qb (qa (qa (qa e3 rfl) rfl) rfl) (qb (qa (qa (qa (qa e10 rfl) rfl) rfl) rfl) ?_))))
   refine qcb ?_
   obtain ⟨I,μ,hI,hr⟩:=h
   refine qhb (α:=Int) (fun s ρ=>ρ 10=.int .i64 s∧ρ 0=.slice data_0.a data_0.len data_0.cap∧ρ 1=.int .i64 a_1∧ρ 2=.int .i64 b_2∧ρ 3=.int .i64 n_3) (fun s w=>I s w) (fun s w=>μ s w) i_10 ⟨rfl,rfl,rfl,rfl,rfl⟩ hI ?_
   rintro i_10 ρ w ⟨e10,e0,e1,e2,e3⟩ hI
   have h:=hr i_10 w hI
   clear hr
   obtain ⟨nx1,hnx⟩:∃ nx:Sl→Int→Int→Int→Int→World→Prop,nx=(fun data_0' a_1' b_2' n_3' i_10' w'=>(data_0'=data_0∧a_1'=a_1∧b_2'=b_2∧n_3'=n_3)∧I i_10' w'∧μ i_10' w' < μ i_10 w):=⟨_,rfl⟩
   rw [← hnx] at h
   refine qob (M:=fun ρ w=>asL (ρ 0) fun data_0=>asI .i64 (ρ 1) fun a_1=>asI .i64 (ρ 2) fun b_2=>asI .i64 (ρ 3) fun n_3=>asI .i64 (ρ 10) fun i_10=>nx1 data_0 a_1 b_2 n_3 i_10 w) ?_ (fun ρ w h=>?_)
   · skip
     refine qb e0 (qb (qa e1 rfl) (qb (qa (qa e2 rfl) rfl) (qb (qa (qa (qa e3 rfl) rfl) rfl) (qb (qa (qa (qa (qa e10 rfl) rfl) rfl) rfl) ?_))))
     exact qg qpb _ (Eq.mp (by kernel_rfl) h)
   · skip
     obtain ⟨data_0',e0',h⟩:=qj h
     obtain ⟨a_1',e1',h⟩:=qe h
     obtain ⟨b_2',e2',h⟩:=qe h
     obtain ⟨n_3',e3',h⟩:=qe h
     obtain ⟨i_10',e10',h⟩:=qe h
     rw [hnx] at h
     obtain ⟨hu,hI2,hμ⟩:=h
     obtain ⟨rfl,rfl,rfl,rfl⟩:=hu
     exact ⟨i_10',⟨e10',e0',e1',e2',e3'⟩,hI2,hμ⟩
def qz.j2 (data_0:Sl) (m_2:Int) (i_10:Int) (Q:VWP) (w:World):Prop :=
 lt (IntKind.i64.wrap (m_2 - i_10)) fun x1 =>
 Calls Try.prog 179 ⟨[.slice data_0.a data_0.len data_0.cap,.int .i64 x1,.int .i64 m_2,.int .i64 i_10,.func (.func 41) ⟨[]⟩ ⟨[]⟩]⟩ w fun e2 w3 =>
 e2=.returned (.tuple ⟨[]⟩) ∧
 Q (.tuple ⟨[]⟩) w3
def qz.b1 (data_0:Sl) (m_2:Int) (i_10 j_11:Int) (Q:VWP) (nx1:Sl→Int→Int→Int→World→Prop) (w:World):Prop :=
 br ((i_10:Int) != j_11) (
 br (decide ((i_10:Int) > j_11)) (
 lt (IntKind.i64.wrap (m_2 - i_10)) fun x4 =>
 Calls Try.prog 179 ⟨[.slice data_0.a data_0.len data_0.cap,.int .i64 x4,.int .i64 m_2,.int .i64 j_11,.func (.func 41) ⟨[]⟩ ⟨[]⟩]⟩ w fun e5 w6 =>
 e5=.returned (.tuple ⟨[]⟩) ∧
 lt (IntKind.i64.wrap (i_10 - j_11)) fun x7 =>
 nx1 data_0 m_2 x7 j_11 w6) (
 lt (IntKind.i64.wrap (m_2 - i_10)) fun x8 =>
 lt (IntKind.i64.wrap (m_2+j_11)) fun x9 =>
 lt (IntKind.i64.wrap (x9 - i_10)) fun x10 =>
 Calls Try.prog 179 ⟨[.slice data_0.a data_0.len data_0.cap,.int .i64 x8,.int .i64 x10,.int .i64 i_10,.func (.func 41) ⟨[]⟩ ⟨[]⟩]⟩ w fun e11 w12 =>
 e11=.returned (.tuple ⟨[]⟩) ∧
 lt (IntKind.i64.wrap (j_11 - i_10)) fun x13 =>
 nx1 data_0 m_2 i_10 x13 w12)) (
 qz.j2 data_0 m_2 i_10 Q w)
def qz.l1 (data_0:Sl) (m_2:Int) (i_10 j_11:Int) (Q:VWP) (w:World):Prop :=
 ∃ (I:Int→Int→World→Prop) (μ:Int→Int→World→Nat),I i_10 j_11 w∧∀ i_10:Int,∀ j_11:Int,∀ w:World,I i_10 j_11 w→qz.b1 data_0 m_2 i_10 j_11 Q (fun data_0' m_2' i_10' j_11' w'=>(data_0'=data_0∧m_2'=m_2)∧I i_10' j_11' w'∧μ i_10' j_11' w' < μ i_10 j_11 w) w
def qz.j1 (data_0:Sl) (m_2:Int) (i_10 j_11:Int) (Q:VWP) (w:World):Prop :=
 qz.l1 data_0 m_2 i_10 j_11 Q w
def qz (data_0:Sl) (a_1:Int) (m_2 b_3:Int) (Q:VWP) (w:World):Prop :=
 lt (IntKind.i64.wrap (m_2 - a_1)) fun x14 =>
 lt (IntKind.i64.wrap (b_3 - m_2)) fun x15 =>
 qz.j1 data_0 m_2 x14 x15 Q w
theorem qz.ok (data_0:Sl) (a_1:Int) (m_2:Int) (b_3:Int) (Q:VWP) (w:World) (h:qz data_0 a_1 m_2 b_3 Q w):Calls Try.prog 165 ⟨[.slice data_0.a data_0.len data_0.cap,.int .i64 a_1,.int .i64 m_2,.int .i64 b_3,.func (.func 41) ⟨[]⟩ ⟨[]⟩]⟩ w (Ret Q):=by
 refine qn [] Try.func165 rfl rfl rfl rfl ?_
 refine qib qpb (fun ρ w=>asL (ρ 0) fun data_0=>asI .i64 (ρ 2) fun m_2=>qth 41 (ρ 4) <| asI .i64 (ρ 10) fun i_10=>asI .i64 (ρ 11) fun j_11=>qz.j1 data_0 m_2 i_10 j_11 Q w) (Eq.mp (by kernel_rfl) h) ?_
 intro ρ w h
 obtain ⟨data_0,e0,h⟩:=qj h
 obtain ⟨m_2,e2,h⟩:=qe h
 obtain ⟨e4,h⟩:=qsc h
 obtain ⟨i_10,e10,h⟩:=qe h
 obtain ⟨j_11,e11,h⟩:=qe h
 refine qb e0 (qb (qa e2 rfl) (qb (qa (qa e4 rfl) rfl) (qb (qa (qa (qa e10 rfl) rfl) rfl) (qb (qa (qa (qa (qa e11 rfl) rfl) rfl) rfl) ?_))))
 refine qr (fun ρ w=>asL (ρ 0) fun data_0=>asI .i64 (ρ 2) fun m_2=>qth 41 (ρ 4) <| asI .i64 (ρ 10) fun i_10=>qz.j2 data_0 m_2 i_10 Q w) ?_ ?_
 · skip
   refine qcb ?_
   obtain ⟨I,μ,hI,hr⟩:=h
   refine qhb (α:=Int × Int) (fun s ρ=>ρ 10=.int .i64 s.1∧ρ 11=.int .i64 s.2∧ρ 0=.slice data_0.a data_0.len data_0.cap∧ρ 2=.int .i64 m_2∧ρ 4=.func (.func 41) ⟨[]⟩ ⟨[]⟩) (fun s w=>I s.1 s.2 w) (fun s w=>μ s.1 s.2 w) (i_10,j_11) ⟨rfl,rfl,rfl,rfl,rfl⟩ hI ?_
   rintro ⟨i_10,j_11⟩ ρ w ⟨e10,e11,e0,e2,e4⟩ hI
   have h:=hr i_10 j_11 w hI
   clear hr
   obtain ⟨nx1,hnx⟩:∃ nx:Sl→Int→Int→Int→World→Prop,nx=(fun data_0' m_2' i_10' j_11' w'=>(data_0'=data_0∧m_2'=m_2)∧I i_10' j_11' w'∧μ i_10' j_11' w' < μ i_10 j_11 w):=⟨_,rfl⟩
   rw [← hnx] at h
   refine qob (M:=fun ρ w=>asL (ρ 0) fun data_0=>asI .i64 (ρ 2) fun m_2=>qth 41 (ρ 4) <| asI .i64 (ρ 10) fun i_10=>asI .i64 (ρ 11) fun j_11=>nx1 data_0 m_2 i_10 j_11 w) ?_ (fun ρ w h=>?_)
   · skip
     refine qb e0 (qb (qa e2 rfl) (qb (qa (qa e4 rfl) rfl) (qb (qa (qa (qa e10 rfl) rfl) rfl) (qb (qa (qa (qa (qa e11 rfl) rfl) rfl) rfl) ?_))))
     exact qg qpb _ (Eq.mp (by kernel_rfl) h)
   · skip
     obtain ⟨data_0',e0',h⟩:=qj h
     obtain ⟨m_2',e2',h⟩:=qe h
     obtain ⟨e4',h⟩:=qsc h
     obtain ⟨i_10',e10',h⟩:=qe h
     obtain ⟨j_11',e11',h⟩:=qe h
     rw [hnx] at h
     obtain ⟨hu,hI2,hμ⟩:=h
     obtain ⟨rfl,rfl⟩:=hu
     exact ⟨(i_10',j_11'),⟨e10',e11',e0',e2',e4'⟩,hI2,hμ⟩
 · intro ρ w h
   obtain ⟨data_0,e0,h⟩:=qj h
   obtain ⟨m_2,e2,h⟩:=qe h
   obtain ⟨e4,h⟩:=qsc h
   obtain ⟨i_10,e10,h⟩:=qe h
   refine qb e0 (qb (qa e2 rfl) (qb (qa (qa e4 rfl) rfl) (qb (qa (qa (qa e10 rfl) rfl) rfl) ?_)))
   exact qg qpb _ (Eq.mp (by kernel_rfl) h)
def qc.j8 (d_0:Sl) (t3:Int) (t18 t24:Int) (Q:VWP) (w:World):Prop :=
 br (decide ((t18:Int) < t24)) (
 br (decide ((t24:Int) < t3)) (
 Calls Try.prog 136 ⟨[.slice d_0.a d_0.len d_0.cap,.int .i64 t18,.int .i64 t24,.int .i64 t3,.func (.func 41) ⟨[]⟩ ⟨[]⟩]⟩ w fun e1 w2 =>
 e1=.returned (.tuple ⟨[]⟩) ∧
 Q (.tuple ⟨[]⟩) w2) (
 Q (.tuple ⟨[]⟩) w)) (
 Q (.tuple ⟨[]⟩) w)
def qc.j7 (d_0:Sl) (i_1:Int) (t3 t18 t20 t24:Int) (Q:VWP) (w:World):Prop :=
 br (decide ((i_1:Int) < t20)) (
 br (decide ((t20:Int) < t18)) (
 Calls Try.prog 136 ⟨[.slice d_0.a d_0.len d_0.cap,.int .i64 i_1,.int .i64 t20,.int .i64 t18,.func (.func 41) ⟨[]⟩ ⟨[]⟩]⟩ w fun e3 w4 =>
 e3=.returned (.tuple ⟨[]⟩) ∧
 qc.j8 d_0 t3 t18 t24 Q w4) (
 qc.j8 d_0 t3 t18 t24 Q w)) (
 qc.j8 d_0 t3 t18 t24 Q w)
def qc.j6 (d_0:Sl) (i_1:Int) (t2 t3 t18 t19 t20:Int) (Q:VWP) (w:World):Prop :=
 lt (IntKind.i64.wrap (t19 - t20)) fun x5 =>
 br (decide ((t20:Int) < t2)) (
 br (decide ((t2:Int) < x5)) (
 Calls Try.prog 165 ⟨[.slice d_0.a d_0.len d_0.cap,.int .i64 t20,.int .i64 t2,.int .i64 x5,.func (.func 41) ⟨[]⟩ ⟨[]⟩]⟩ w fun e6 w7 =>
 e6=.returned (.tuple ⟨[]⟩) ∧
 qc.j7 d_0 i_1 t3 t18 t20 x5 Q w7) (
 qc.j7 d_0 i_1 t3 t18 t20 x5 Q w)) (
 qc.j7 d_0 i_1 t3 t18 t20 x5 Q w)
def qc.b1 (d_0:Sl) (i_1:Int) (t2 t3 t18 t19 t22 t20 t21:Int) (Q:VWP) (nx1:Sl→Int→Int→Int→Int→Int→Int→Int→Int→World→Prop) (w:World):Prop :=
 br (decide ((t20:Int) < t21)) (
 lt (IntKind.i64.wrap (t20+t21)) fun x8 =>
 lt (IntKind.u64.wrap x8) fun x9 =>
 (0:Int)≤1 ∧
 lt (shrV .u64 x9 1) fun x10 =>
 lt (IntKind.i64.wrap x10) fun x11 =>
 lt (World.drew w) fun w12 =>
 lt (IntKind.i64.wrap (t22 - x11)) fun x13 =>
 ixS d_0.a d_0.len x13 2 fun a14 =>
 ldA w12 a14 2 fun c15 =>
 ixS d_0.a d_0.len x11 2 fun a16 =>
 ldA w12 a16 2 fun c17 =>
 Calls Try.prog 41 ⟨[.agg c15,.agg c17]⟩ w12 fun e18 w19 =>
 ∃ r20:Int,e18=.returned (.int .i64 r20) ∧
 br (!(decide ((r20:Int) < 0))) (
 lt (IntKind.i64.wrap (x11+1)) fun x21 =>
 nx1 d_0 i_1 t2 t3 t18 t19 t22 x21 t21 w19) (
 nx1 d_0 i_1 t2 t3 t18 t19 t22 t20 x11 w19)) (
 qc.j6 d_0 i_1 t2 t3 t18 t19 t20 Q w)
def qc.l1 (d_0:Sl) (i_1:Int) (t2 t3 t18 t19 t22 t20 t21:Int) (Q:VWP) (w:World):Prop :=
 ∃ (I:Int→Int→World→Prop) (μ:Int→Int→World→Nat),I t20 t21 w∧∀ t20:Int,∀ t21:Int,∀ w:World,I t20 t21 w→qc.b1 d_0 i_1 t2 t3 t18 t19 t22 t20 t21 Q (fun d_0' i_1' t2' t3' t18' t19' t22' t20' t21' w'=>(d_0'=d_0∧i_1'=i_1∧t2'=t2∧t3'=t3∧t18'=t18∧t19'=t19∧t22'=t22)∧I t20' t21' w'∧μ t20' t21' w' < μ t20 t21 w) w
def qc.j5 (d_0:Sl) (i_1:Int) (t2 t3 t18 t19 t20 t21 t22:Int) (Q:VWP) (w:World):Prop :=
 qc.l1 d_0 i_1 t2 t3 t18 t19 t22 t20 t21 Q w
def qc.j4 (d_0:Sl) (i_1:Int) (t2 t3 t18 t19 t20 t21:Int) (Q:VWP) (w:World):Prop :=
 lt (IntKind.i64.wrap (t19 - 1)) fun x22 =>
 qc.j5 d_0 i_1 t2 t3 t18 t19 t20 t21 x22 Q w
def qc.j3 (d_0:Sl) (i_1:Int) (t2 t3 t18 t19:Int) (Q:VWP) (w:World):Prop :=
 br (decide ((t2:Int) > t18)) (
 lt (IntKind.i64.wrap (t19 - t3)) fun x23 =>
 qc.j4 d_0 i_1 t2 t3 t18 t19 x23 t18 Q w) (
 qc.j4 d_0 i_1 t2 t3 t18 t19 i_1 t2 Q w)
def qc.j2 (d_0:Sl) (i_1:Int) (t2 t3:Int) (Q:VWP) (w:World):Prop :=
 lt (IntKind.i64.wrap (i_1+t3)) fun x24 =>
 lt (IntKind.u64.wrap x24) fun x25 =>
 (0:Int)≤1 ∧
 lt (shrV .u64 x25 1) fun x26 =>
 lt (IntKind.i64.wrap x26) fun x27 =>
 lt (IntKind.i64.wrap (x27+t2)) fun x28 =>
 qc.j3 d_0 i_1 t2 t3 x27 x28 Q w
def qc.j12  (Q:VWP) (w:World):Prop :=
 Q (.tuple ⟨[]⟩) w
def qc.b2 (d_0:Sl) (t14:Int) (t17:Int) (Q:VWP) (nx2:Sl→Int→Int→World→Prop) (w:World):Prop :=
 br (decide ((t17:Int) > t14)) (
 lt (World.drew w) fun w29 =>
 lt (IntKind.i64.wrap (t17 - 1)) fun x30 =>
 lt (IntKind.i64.wrap (t17 - 1)) fun x31 =>
 ixS d_0.a d_0.len x31 2 fun a32 =>
 ldA w29 a32 2 fun c33 =>
 ixS d_0.a d_0.len t17 2 fun a34 =>
 ldA w29 a34 2 fun c35 =>
 ixS d_0.a d_0.len t17 2 fun a36 =>
 (c33).size=2 ∧
 stA w29 a36 c33 fun w37 =>
 ixS d_0.a d_0.len x30 2 fun a38 =>
 (c35).size=2 ∧
 stA w37 a38 c35 fun w39 =>
 lt (IntKind.i64.wrap (t17 - 1)) fun x40 =>
 nx2 d_0 t14 x40 w39) (
 qc.j12 Q w)
def qc.l2 (d_0:Sl) (t14:Int) (t17:Int) (Q:VWP) (w:World):Prop :=
 ∃ (I:Int→World→Prop) (μ:Int→World→Nat),I t17 w∧∀ t17:Int,∀ w:World,I t17 w→qc.b2 d_0 t14 t17 Q (fun d_0' t14' t17' w'=>(d_0'=d_0∧t14'=t14)∧I t17' w'∧μ t17' w' < μ t17 w) w
def qc.j13 (d_0:Sl) (t14:Int) (t17:Int) (Q:VWP) (w:World):Prop :=
 qc.l2 d_0 t14 t17 Q w
def qc.j11 (d_0:Sl) (t2:Int) (t14:Int) (Q:VWP) (w:World):Prop :=
 qc.j13 d_0 t14 t2 Q w
def qc.b3 (d_0:Sl) (t2:Int) (t14 t15:Int) (Q:VWP) (nx3:Sl→Int→Int→Int→World→Prop) (w:World):Prop :=
 br (decide ((t14:Int) < t15)) (
 lt (IntKind.i64.wrap (t14+t15)) fun x41 =>
 lt (IntKind.u64.wrap x41) fun x42 =>
 (0:Int)≤1 ∧
 lt (shrV .u64 x42 1) fun x43 =>
 lt (IntKind.i64.wrap x43) fun x44 =>
 lt (World.drew w) fun w45 =>
 ixS d_0.a d_0.len t2 2 fun a46 =>
 ldA w45 a46 2 fun c47 =>
 ixS d_0.a d_0.len x44 2 fun a48 =>
 ldA w45 a48 2 fun c49 =>
 Calls Try.prog 41 ⟨[.agg c47,.agg c49]⟩ w45 fun e50 w51 =>
 ∃ r52:Int,e50=.returned (.int .i64 r52) ∧
 br (!(decide ((r52:Int) < 0))) (
 lt (IntKind.i64.wrap (x44+1)) fun x53 =>
 nx3 d_0 t2 x53 t15 w51) (
 nx3 d_0 t2 t14 x44 w51)) (
 qc.j11 d_0 t2 t14 Q w)
def qc.l3 (d_0:Sl) (t2:Int) (t14 t15:Int) (Q:VWP) (w:World):Prop :=
 ∃ (I:Int→Int→World→Prop) (μ:Int→Int→World→Nat),I t14 t15 w∧∀ t14:Int,∀ t15:Int,∀ w:World,I t14 t15 w→qc.b3 d_0 t2 t14 t15 Q (fun d_0' t2' t14' t15' w'=>(d_0'=d_0∧t2'=t2)∧I t14' t15' w'∧μ t14' t15' w' < μ t14 t15 w) w
def qc.j10 (d_0:Sl) (t2:Int) (t14 t15:Int) (Q:VWP) (w:World):Prop :=
 qc.l3 d_0 t2 t14 t15 Q w
def qc.j9 (d_0:Sl) (i_1:Int) (t2 t3:Int) (t80:Bool) (Q:VWP) (w:World):Prop :=
 br t80 (
 qc.j10 d_0 t2 i_1 t2 Q w) (
 qc.j2 d_0 i_1 t2 t3 Q w)
def qc.j1 (d_0:Sl) (i_1:Int) (t2 t3:Int) (Q:VWP) (w:World):Prop :=
 lt (IntKind.i64.wrap (t3 - t2)) fun x54 =>
 qc.j9 d_0 i_1 t2 t3 ((x54:Int) == 1) Q w
def qc.j17  (Q:VWP) (w:World):Prop :=
 Q (.tuple ⟨[]⟩) w
def qc.b4 (d_0:Sl) (t10:Int) (t13:Int) (Q:VWP) (nx4:Sl→Int→Int→World→Prop) (w:World):Prop :=
 lt (IntKind.i64.wrap (t10 - 1)) fun x55 =>
 br (decide ((t13:Int) < x55)) (
 lt (World.drew w) fun w56 =>
 lt (IntKind.i64.wrap (t13+1)) fun x57 =>
 lt (IntKind.i64.wrap (t13+1)) fun x58 =>
 ixS d_0.a d_0.len x58 2 fun a59 =>
 ldA w56 a59 2 fun c60 =>
 ixS d_0.a d_0.len t13 2 fun a61 =>
 ldA w56 a61 2 fun c62 =>
 ixS d_0.a d_0.len t13 2 fun a63 =>
 (c60).size=2 ∧
 stA w56 a63 c60 fun w64 =>
 ixS d_0.a d_0.len x57 2 fun a65 =>
 (c62).size=2 ∧
 stA w64 a65 c62 fun w66 =>
 lt (IntKind.i64.wrap (t13+1)) fun x67 =>
 nx4 d_0 t10 x67 w66) (
 qc.j17 Q w)
def qc.l4 (d_0:Sl) (t10:Int) (t13:Int) (Q:VWP) (w:World):Prop :=
 ∃ (I:Int→World→Prop) (μ:Int→World→Nat),I t13 w∧∀ t13:Int,∀ w:World,I t13 w→qc.b4 d_0 t10 t13 Q (fun d_0' t10' t13' w'=>(d_0'=d_0∧t10'=t10)∧I t13' w'∧μ t13' w' < μ t13 w) w
def qc.j18 (d_0:Sl) (t10:Int) (t13:Int) (Q:VWP) (w:World):Prop :=
 qc.l4 d_0 t10 t13 Q w
def qc.j16 (d_0:Sl) (i_1:Int) (t10:Int) (Q:VWP) (w:World):Prop :=
 qc.j18 d_0 t10 i_1 Q w
def qc.b5 (d_0:Sl) (i_1:Int) (t10 t11:Int) (Q:VWP) (nx5:Sl→Int→Int→Int→World→Prop) (w:World):Prop :=
 br (decide ((t10:Int) < t11)) (
 lt (IntKind.i64.wrap (t10+t11)) fun x68 =>
 lt (IntKind.u64.wrap x68) fun x69 =>
 (0:Int)≤1 ∧
 lt (shrV .u64 x69 1) fun x70 =>
 lt (IntKind.i64.wrap x70) fun x71 =>
 lt (World.drew w) fun w72 =>
 ixS d_0.a d_0.len x71 2 fun a73 =>
 ldA w72 a73 2 fun c74 =>
 ixS d_0.a d_0.len i_1 2 fun a75 =>
 ldA w72 a75 2 fun c76 =>
 Calls Try.prog 41 ⟨[.agg c74,.agg c76]⟩ w72 fun e77 w78 =>
 ∃ r79:Int,e77=.returned (.int .i64 r79) ∧
 br (decide ((r79:Int) < 0)) (
 lt (IntKind.i64.wrap (x71+1)) fun x80 =>
 nx5 d_0 i_1 x80 t11 w78) (
 nx5 d_0 i_1 t10 x71 w78)) (
 qc.j16 d_0 i_1 t10 Q w)
def qc.l5 (d_0:Sl) (i_1:Int) (t10 t11:Int) (Q:VWP) (w:World):Prop :=
 ∃ (I:Int→Int→World→Prop) (μ:Int→Int→World→Nat),I t10 t11 w∧∀ t10:Int,∀ t11:Int,∀ w:World,I t10 t11 w→qc.b5 d_0 i_1 t10 t11 Q (fun d_0' i_1' t10' t11' w'=>(d_0'=d_0∧i_1'=i_1)∧I t10' t11' w'∧μ t10' t11' w' < μ t10 t11 w) w
def qc.j15 (d_0:Sl) (i_1:Int) (t10 t11:Int) (Q:VWP) (w:World):Prop :=
 qc.l5 d_0 i_1 t10 t11 Q w
def qc.j14 (d_0:Sl) (i_1:Int) (t2 t3:Int) (t28:Bool) (Q:VWP) (w:World):Prop :=
 br t28 (
 qc.j15 d_0 i_1 t2 t3 Q w) (
 qc.j1 d_0 i_1 t2 t3 Q w)
def qc (d_0:Sl) (i_1:Int) (t2 t3:Int) (Q:VWP) (w:World):Prop :=
 lt (IntKind.i64.wrap (t2 - i_1)) fun x81 =>
 qc.j14 d_0 i_1 t2 t3 ((x81:Int) == 1) Q w
theorem qc.ok (d_0:Sl) (i_1:Int) (t2:Int) (t3:Int) (Q:VWP) (w:World) (h:qc d_0 i_1 t2 t3 Q w):Calls Try.prog 136 ⟨[.slice d_0.a d_0.len d_0.cap,.int .i64 i_1,.int .i64 t2,.int .i64 t3,.func (.func 41) ⟨[]⟩ ⟨[]⟩]⟩ w (Ret Q):=by
 refine qn [] Try.func136 rfl rfl rfl rfl ?_
 refine qr (fun ρ w=>asL (ρ 0) fun d_0=>asI .i64 (ρ 1) fun i_1=>asI .i64 (ρ 2) fun t2=>asI .i64 (ρ 3) fun t3=>qth 41 (ρ 4) <| qc.j1 d_0 i_1 t2 t3 Q w) ?_ ?_
 · skip
   refine qr (fun ρ w=>asL (ρ 0) fun d_0=>asI .i64 (ρ 1) fun i_1=>asI .i64 (ρ 2) fun t2=>asI .i64 (ρ 3) fun t3=>qth 41 (ρ 4) <| asB (ρ 28) fun t28=>qc.j14 d_0 i_1 t2 t3 t28 Q w) ?_ ?_
   · skip
     exact qg qpb _ (Eq.mp (by kernel_rfl) h)
   · intro ρ w h
     obtain ⟨d_0,e0,h⟩:=qj h
     obtain ⟨i_1,e1,h⟩:=qe h
     obtain ⟨t2,e2,h⟩:=qe h
     obtain ⟨t3,e3,h⟩:=qe h
     obtain ⟨e4,h⟩:=qsc h
     obtain ⟨t28,e28,h⟩:=qgd h
     refine qb e0 (qb (qa e1 rfl) (qb (qa (qa e2 rfl) rfl) (qb (qa (qa (qa e3 rfl) rfl) rfl) (qb (qa (qa (qa (qa e4 rfl) rfl) rfl) rfl) (qb (qa (qa (qa (qa (qa e28 rfl) rfl) rfl) rfl) rfl) ?_)))))
     refine qal (b:=t28) rfl (fun hb=>?_) (fun hb=>?_)
     · have h:=br_t h hb
       refine qib qpb (fun ρ w=>asL (ρ 0) fun d_0=>asI .i64 (ρ 1) fun i_1=>qth 41 (ρ 4) <| asI .i64 (ρ 10) fun t10=>asI .i64 (ρ 11) fun t11=>qc.j15 d_0 i_1 t10 t11 Q w) (Eq.mp (by kernel_rfl) h) ?_
       intro ρ w h
       obtain ⟨d_0,e0,h⟩:=qj h
       obtain ⟨i_1,e1,h⟩:=qe h
       obtain ⟨e4,h⟩:=qsc h
       obtain ⟨t10,e10,h⟩:=qe h
       obtain ⟨t11,e11,h⟩:=qe h
       refine qb e0 (qb (qa e1 rfl) (qb (qa (qa e4 rfl) rfl) (qb (qa (qa (qa e10 rfl) rfl) rfl) (qb (qa (qa (qa (qa e11 rfl) rfl) rfl) rfl) ?_))))
       refine qr (fun ρ w=>asL (ρ 0) fun d_0=>asI .i64 (ρ 1) fun i_1=>asI .i64 (ρ 10) fun t10=>qc.j16 d_0 i_1 t10 Q w) ?_ ?_
       · skip
         refine qcb ?_
         obtain ⟨I,μ,hI,hr⟩:=h
         refine qhb (α:=Int × Int) (fun s ρ=>ρ 10=.int .i64 s.1∧ρ 11=.int .i64 s.2∧ρ 0=.slice d_0.a d_0.len d_0.cap∧ρ 1=.int .i64 i_1∧ρ 4=.func (.func 41) ⟨[]⟩ ⟨[]⟩) (fun s w=>I s.1 s.2 w) (fun s w=>μ s.1 s.2 w) (t10,t11) ⟨rfl,rfl,rfl,rfl,rfl⟩ hI ?_
         rintro ⟨t10,t11⟩ ρ w ⟨e10,e11,e0,e1,e4⟩ hI
         have h:=hr t10 t11 w hI
         clear hr
         obtain ⟨nx5,hnx⟩:∃ nx:Sl→Int→Int→Int→World→Prop,nx=(fun d_0' i_1' t10' t11' w'=>(d_0'=d_0∧i_1'=i_1)∧I t10' t11' w'∧μ t10' t11' w' < μ t10 t11 w):=⟨_,rfl⟩
         rw [← hnx] at h
         refine qob (M:=fun ρ w=>asL (ρ 0) fun d_0=>asI .i64 (ρ 1) fun i_1=>qth 41 (ρ 4) <| asI .i64 (ρ 10) fun t10=>asI .i64 (ρ 11) fun t11=>nx5 d_0 i_1 t10 t11 w) ?_ (fun ρ w h=>?_)
         · skip
           refine qb e0 (qb (qa e1 rfl) (qb (qa (qa e4 rfl) rfl) (qb (qa (qa (qa e10 rfl) rfl) rfl) (qb (qa (qa (qa (qa e11 rfl) rfl) rfl) rfl) ?_))))
           exact qg qpb _ (Eq.mp (by kernel_rfl) h)
         · skip
           obtain ⟨d_0',e0',h⟩:=qj h
           obtain ⟨i_1',e1',h⟩:=qe h
           obtain ⟨e4',h⟩:=qsc h
           obtain ⟨t10',e10',h⟩:=qe h
           obtain ⟨t11',e11',h⟩:=qe h
           rw [hnx] at h
           obtain ⟨hu,hI2,hμ⟩:=h
           obtain ⟨rfl,rfl⟩:=hu
           exact ⟨(t10',t11'),⟨e10',e11',e0',e1',e4'⟩,hI2,hμ⟩
       · intro ρ w h
         obtain ⟨d_0,e0,h⟩:=qj h
         obtain ⟨i_1,e1,h⟩:=qe h
         obtain ⟨t10,e10,h⟩:=qe h
         refine qb e0 (qb (qa e1 rfl) (qb (qa (qa e10 rfl) rfl) ?_))
         refine qr (fun ρ w=> qc.j17  Q w) ?_ ?_
         · skip
           refine qr (fun ρ w=>asL (ρ 0) fun d_0=>asI .i64 (ρ 10) fun t10=>asI .i64 (ρ 13) fun t13=>qc.j18 d_0 t10 t13 Q w) ?_ ?_
           · skip
             exact qg qpb _ (Eq.mp (by kernel_rfl) h)
           · intro ρ w h
             obtain ⟨d_0,e0,h⟩:=qj h
             obtain ⟨t10,e10,h⟩:=qe h
             obtain ⟨t13,e13,h⟩:=qe h
             refine qb e0 (qb (qa e10 rfl) (qb (qa (qa e13 rfl) rfl) ?_))
             refine qcb ?_
             obtain ⟨I,μ,hI,hr⟩:=h
             refine qhb (α:=Int) (fun s ρ=>ρ 13=.int .i64 s∧ρ 0=.slice d_0.a d_0.len d_0.cap∧ρ 10=.int .i64 t10) (fun s w=>I s w) (fun s w=>μ s w) t13 ⟨rfl,rfl,rfl⟩ hI ?_
             rintro t13 ρ w ⟨e13,e0,e10⟩ hI
             have h:=hr t13 w hI
             clear hr
             obtain ⟨nx4,hnx⟩:∃ nx:Sl→Int→Int→World→Prop,nx=(fun d_0' t10' t13' w'=>(d_0'=d_0∧t10'=t10)∧I t13' w'∧μ t13' w' < μ t13 w):=⟨_,rfl⟩
             rw [← hnx] at h
             refine qob (M:=fun ρ w=>asL (ρ 0) fun d_0=>asI .i64 (ρ 10) fun t10=>asI .i64 (ρ 13) fun t13=>nx4 d_0 t10 t13 w) ?_ (fun ρ w h=>?_)
             · skip
               refine qb e0 (qb (qa e10 rfl) (qb (qa (qa e13 rfl) rfl) ?_))
               exact qg qpb _ (Eq.mp (by kernel_rfl) h)
             · skip
               obtain ⟨d_0',e0',h⟩:=qj h
               obtain ⟨t10',e10',h⟩:=qe h
               obtain ⟨t13',e13',h⟩:=qe h
               rw [hnx] at h
               obtain ⟨hu,hI2,hμ⟩:=h
               obtain ⟨rfl,rfl⟩:=hu
               exact ⟨t13',⟨e13',e0',e10'⟩,hI2,hμ⟩
         · intro ρ w h
           exact qg qpb _ (Eq.mp (by kernel_rfl) h)
     · have h:=br_f h hb
       exact qg qpb _ (Eq.mp (by kernel_rfl) h)
 · intro ρ w h
   obtain ⟨d_0,e0,h⟩:=qj h
   obtain ⟨i_1,e1,h⟩:=qe h
   obtain ⟨t2,e2,h⟩:=qe h
   obtain ⟨t3,e3,h⟩:=qe h
   obtain ⟨e4,h⟩:=qsc h
   refine qb e0 (qb (qa e1 rfl) (qb (qa (qa e2 rfl) rfl) (qb (qa (qa (qa e3 rfl) rfl) rfl) (qb (qa (qa (qa (qa e4 rfl) rfl) rfl) rfl) ?_))))
   refine qr (fun ρ w=>asL (ρ 0) fun d_0=>asI .i64 (ρ 1) fun i_1=>asI .i64 (ρ 2) fun t2=>asI .i64 (ρ 3) fun t3=>qth 41 (ρ 4) <| qc.j2 d_0 i_1 t2 t3 Q w) ?_ ?_
   · skip
     refine qr (fun ρ w=>asL (ρ 0) fun d_0=>asI .i64 (ρ 1) fun i_1=>asI .i64 (ρ 2) fun t2=>asI .i64 (ρ 3) fun t3=>qth 41 (ρ 4) <| asB (ρ 80) fun t80=>qc.j9 d_0 i_1 t2 t3 t80 Q w) ?_ ?_
     · skip
       exact qg qpb _ (Eq.mp (by kernel_rfl) h)
     · intro ρ w h
       obtain ⟨d_0,e0,h⟩:=qj h
       obtain ⟨i_1,e1,h⟩:=qe h
       obtain ⟨t2,e2,h⟩:=qe h
       obtain ⟨t3,e3,h⟩:=qe h
       obtain ⟨e4,h⟩:=qsc h
       obtain ⟨t80,e80,h⟩:=qgd h
       refine qb e0 (qb (qa e1 rfl) (qb (qa (qa e2 rfl) rfl) (qb (qa (qa (qa e3 rfl) rfl) rfl) (qb (qa (qa (qa (qa e4 rfl) rfl) rfl) rfl) (qb (qa (qa (qa (qa (qa e80 rfl) rfl) rfl) rfl) rfl) ?_)))))
       refine qal (b:=t80) rfl (fun hb=>?_) (fun hb=>?_)
       · have h:=br_t h hb
         refine qib qpb (fun ρ w=>asL (ρ 0) fun d_0=>asI .i64 (ρ 2) fun t2=>qth 41 (ρ 4) <| asI .i64 (ρ 14) fun t14=>asI .i64 (ρ 15) fun t15=>qc.j10 d_0 t2 t14 t15 Q w) (Eq.mp (by kernel_rfl) h) ?_
         intro ρ w h
         obtain ⟨d_0,e0,h⟩:=qj h
         obtain ⟨t2,e2,h⟩:=qe h
         obtain ⟨e4,h⟩:=qsc h
         obtain ⟨t14,e14,h⟩:=qe h
         obtain ⟨t15,e15,h⟩:=qe h
         refine qb e0 (qb (qa e2 rfl) (qb (qa (qa e4 rfl) rfl) (qb (qa (qa (qa e14 rfl) rfl) rfl) (qb (qa (qa (qa (qa e15 rfl) rfl) rfl) rfl) ?_))))
         refine qr (fun ρ w=>asL (ρ 0) fun d_0=>asI .i64 (ρ 2) fun t2=>asI .i64 (ρ 14) fun t14=>qc.j11 d_0 t2 t14 Q w) ?_ ?_
         · skip
           refine qcb ?_
           obtain ⟨I,μ,hI,hr⟩:=h
           refine qhb (α:=Int × Int) (fun s ρ=>ρ 14=.int .i64 s.1∧ρ 15=.int .i64 s.2∧ρ 0=.slice d_0.a d_0.len d_0.cap∧ρ 2=.int .i64 t2∧ρ 4=.func (.func 41) ⟨[]⟩ ⟨[]⟩) (fun s w=>I s.1 s.2 w) (fun s w=>μ s.1 s.2 w) (t14,t15) ⟨rfl,rfl,rfl,rfl,rfl⟩ hI ?_
           rintro ⟨t14,t15⟩ ρ w ⟨e14,e15,e0,e2,e4⟩ hI
           have h:=hr t14 t15 w hI
           clear hr
           obtain ⟨nx3,hnx⟩:∃ nx:Sl→Int→Int→Int→World→Prop,nx=(fun d_0' t2' t14' t15' w'=>(d_0'=d_0∧t2'=t2)∧I t14' t15' w'∧μ t14' t15' w' < μ t14 t15 w):=⟨_,rfl⟩
           rw [← hnx] at h
           refine qob (M:=fun ρ w=>asL (ρ 0) fun d_0=>asI .i64 (ρ 2) fun t2=>qth 41 (ρ 4) <| asI .i64 (ρ 14) fun t14=>asI .i64 (ρ 15) fun t15=>nx3 d_0 t2 t14 t15 w) ?_ (fun ρ w h=>?_)
           · skip
             refine qb e0 (qb (qa e2 rfl) (qb (qa (qa e4 rfl) rfl) (qb (qa (qa (qa e14 rfl) rfl) rfl) (qb (qa (qa (qa (qa e15 rfl) rfl) rfl) rfl) ?_))))
             exact qg qpb _ (Eq.mp (by kernel_rfl) h)
           · skip
             obtain ⟨d_0',e0',h⟩:=qj h
             obtain ⟨t2',e2',h⟩:=qe h
             obtain ⟨e4',h⟩:=qsc h
             obtain ⟨t14',e14',h⟩:=qe h
             obtain ⟨t15',e15',h⟩:=qe h
             rw [hnx] at h
             obtain ⟨hu,hI2,hμ⟩:=h
             obtain ⟨rfl,rfl⟩:=hu
             exact ⟨(t14',t15'),⟨e14',e15',e0',e2',e4'⟩,hI2,hμ⟩
         · intro ρ w h
           obtain ⟨d_0,e0,h⟩:=qj h
           obtain ⟨t2,e2,h⟩:=qe h
           obtain ⟨t14,e14,h⟩:=qe h
           refine qb e0 (qb (qa e2 rfl) (qb (qa (qa e14 rfl) rfl) ?_))
           refine qr (fun ρ w=> qc.j12  Q w) ?_ ?_
           · skip
             refine qr (fun ρ w=>asL (ρ 0) fun d_0=>asI .i64 (ρ 14) fun t14=>asI .i64 (ρ 17) fun t17=>qc.j13 d_0 t14 t17 Q w) ?_ ?_
             · skip
               exact qg qpb _ (Eq.mp (by kernel_rfl) h)
             · intro ρ w h
               obtain ⟨d_0,e0,h⟩:=qj h
               obtain ⟨t14,e14,h⟩:=qe h
               obtain ⟨t17,e17,h⟩:=qe h
               refine qb e0 (qb (qa e14 rfl) (qb (qa (qa e17 rfl) rfl) ?_))
               refine qcb ?_
               obtain ⟨I,μ,hI,hr⟩:=h
               refine qhb (α:=Int) (fun s ρ=>ρ 17=.int .i64 s∧ρ 0=.slice d_0.a d_0.len d_0.cap∧ρ 14=.int .i64 t14) (fun s w=>I s w) (fun s w=>μ s w) t17 ⟨rfl,rfl,rfl⟩ hI ?_
               rintro t17 ρ w ⟨e17,e0,e14⟩ hI
               have h:=hr t17 w hI
               clear hr
               obtain ⟨nx2,hnx⟩:∃ nx:Sl→Int→Int→World→Prop,nx=(fun d_0' t14' t17' w'=>(d_0'=d_0∧t14'=t14)∧I t17' w'∧μ t17' w' < μ t17 w):=⟨_,rfl⟩
               rw [← hnx] at h
               refine qob (M:=fun ρ w=>asL (ρ 0) fun d_0=>asI .i64 (ρ 14) fun t14=>asI .i64 (ρ 17) fun t17=>nx2 d_0 t14 t17 w) ?_ (fun ρ w h=>?_)
               · skip
                 refine qb e0 (qb (qa e14 rfl) (qb (qa (qa e17 rfl) rfl) ?_))
                 exact qg qpb _ (Eq.mp (by kernel_rfl) h)
               · skip
                 obtain ⟨d_0',e0',h⟩:=qj h
                 obtain ⟨t14',e14',h⟩:=qe h
                 obtain ⟨t17',e17',h⟩:=qe h
                 rw [hnx] at h
                 obtain ⟨hu,hI2,hμ⟩:=h
                 obtain ⟨rfl,rfl⟩:=hu
                 exact ⟨t17',⟨e17',e0',e14'⟩,hI2,hμ⟩
           · intro ρ w h
             exact qg qpb _ (Eq.mp (by kernel_rfl) h)
       · have h:=br_f h hb
         exact qg qpb _ (Eq.mp (by kernel_rfl) h)
   · intro ρ w h
     obtain ⟨d_0,e0,h⟩:=qj h
     obtain ⟨i_1,e1,h⟩:=qe h
     obtain ⟨t2,e2,h⟩:=qe h
     obtain ⟨t3,e3,h⟩:=qe h
     obtain ⟨e4,h⟩:=qsc h
     refine qb e0 (qb (qa e1 rfl) (qb (qa (qa e2 rfl) rfl) (qb (qa (qa (qa e3 rfl) rfl) rfl) (qb (qa (qa (qa (qa e4 rfl) rfl) rfl) rfl) ?_))))
     refine qib qpb (fun ρ w=>asL (ρ 0) fun d_0=>asI .i64 (ρ 1) fun i_1=>asI .i64 (ρ 2) fun t2=>asI .i64 (ρ 3) fun t3=>qth 41 (ρ 4) <| asI .i64 (ρ 18) fun t18=>asI .i64 (ρ 19) fun t19=>qc.j3 d_0 i_1 t2 t3 t18 t19 Q w) (Eq.mp (by kernel_rfl) h) ?_
     intro ρ w h
     obtain ⟨d_0,e0,h⟩:=qj h
     obtain ⟨i_1,e1,h⟩:=qe h
     obtain ⟨t2,e2,h⟩:=qe h
     obtain ⟨t3,e3,h⟩:=qe h
     obtain ⟨e4,h⟩:=qsc h
     obtain ⟨t18,e18,h⟩:=qe h
     obtain ⟨t19,e19,h⟩:=qe h
     refine qb e0 (qb (qa e1 rfl) (qb (qa (qa e2 rfl) rfl) (qb (qa (qa (qa e3 rfl) rfl) rfl) (qb (qa (qa (qa (qa e4 rfl) rfl) rfl) rfl) (qb (qa (qa (qa (qa (qa e18 rfl) rfl) rfl) rfl) rfl) (qb (qa (qa (qa (qa (qa (qa e19 rfl) rfl) rfl) rfl) rfl) rfl) ?_))))))
     refine qib qpb (fun ρ w=>asL (ρ 0) fun d_0=>asI .i64 (ρ 1) fun i_1=>asI .i64 (ρ 2) fun t2=>asI .i64 (ρ 3) fun t3=>qth 41 (ρ 4) <| asI .i64 (ρ 18) fun t18=>asI .i64 (ρ 19) fun t19=>asI .i64 (ρ 20) fun t20=>asI .i64 (ρ 21) fun t21=>qc.j4 d_0 i_1 t2 t3 t18 t19 t20 t21 Q w) (Eq.mp (by kernel_rfl) h) ?_
     intro ρ w h
     obtain ⟨d_0,e0,h⟩:=qj h
     obtain ⟨i_1,e1,h⟩:=qe h
     obtain ⟨t2,e2,h⟩:=qe h
     obtain ⟨t3,e3,h⟩:=qe h
     obtain ⟨e4,h⟩:=qsc h
     obtain ⟨t18,e18,h⟩:=qe h
     obtain ⟨t19,e19,h⟩:=qe h
     obtain ⟨t20,e20,h⟩:=qe h
     obtain ⟨t21,e21,h⟩:=qe h
     refine qb e0 (qb (qa e1 rfl) (qb (qa (qa e2 rfl) rfl) (qb (qa (qa (qa e3 rfl) rfl) rfl) (qb (qa (qa (qa (qa e4 rfl) rfl) rfl) rfl) (qb (qa (qa (qa (qa (qa e18 rfl) rfl) rfl) rfl) rfl) (qb (qa (qa (qa (qa (qa (qa e19 rfl) rfl) rfl) rfl) rfl) rfl) (qb (qa (qa (qa (qa (qa (qa (qa e20 rfl) rfl) rfl) rfl) rfl) rfl) rfl) (qb (qa (qa (qa (qa (qa (qa (qa (qa e21 rfl) rfl) rfl) rfl) rfl) rfl) rfl) rfl) ?_))))))))
     refine qr (fun ρ w=>asL (ρ 0) fun d_0=>asI .i64 (ρ 1) fun i_1=>asI .i64 (ρ 2) fun t2=>asI .i64 (ρ 3) fun t3=>qth 41 (ρ 4) <| asI .i64 (ρ 18) fun t18=>asI .i64 (ρ 19) fun t19=>asI .i64 (ρ 20) fun t20=>asI .i64 (ρ 21) fun t21=>asI .i64 (ρ 22) fun t22=>qc.j5 d_0 i_1 t2 t3 t18 t19 t20 t21 t22 Q w) ?_ ?_
     · skip
       exact qg qpb _ (Eq.mp (by kernel_rfl) h)
     · intro ρ w h
       obtain ⟨d_0,e0,h⟩:=qj h
       obtain ⟨i_1,e1,h⟩:=qe h
       obtain ⟨t2,e2,h⟩:=qe h
       obtain ⟨t3,e3,h⟩:=qe h
       obtain ⟨e4,h⟩:=qsc h
       obtain ⟨t18,e18,h⟩:=qe h
       obtain ⟨t19,e19,h⟩:=qe h
       obtain ⟨t20,e20,h⟩:=qe h
       obtain ⟨t21,e21,h⟩:=qe h
       obtain ⟨t22,e22,h⟩:=qe h
       refine qb e0 (qb (qa e1 rfl) (qb (qa (qa e2 rfl) rfl) (qb (qa (qa (qa e3 rfl) rfl) rfl) (qb (qa (qa (qa (qa e4 rfl) rfl) rfl) rfl) (qb (qa (qa (qa (qa (qa e18 rfl) rfl) rfl) rfl) rfl) (qb (qa (qa (qa (qa (qa (qa e19 rfl) rfl) rfl) rfl) rfl) rfl) (qb (qa (qa (qa (qa (qa (qa (qa e20 rfl) rfl) rfl) rfl) rfl) rfl) rfl) (qb (qa (qa (qa (qa (qa (qa (qa (qa e21 rfl) rfl) rfl) rfl) rfl) rfl) rfl) rfl) (qb (qa (qa (qa (qa (qa (qa (qa (qa (qa e22 rfl) rfl) rfl) rfl) rfl) rfl) rfl) rfl) rfl) ?_)))))))))
       refine qr (fun ρ w=>asL (ρ 0) fun d_0=>asI .i64 (ρ 1) fun i_1=>asI .i64 (ρ 2) fun t2=>asI .i64 (ρ 3) fun t3=>qth 41 (ρ 4) <| asI .i64 (ρ 18) fun t18=>asI .i64 (ρ 19) fun t19=>asI .i64 (ρ 20) fun t20=>qc.j6 d_0 i_1 t2 t3 t18 t19 t20 Q w) ?_ ?_
       · skip
         refine qcb ?_
         obtain ⟨I,μ,hI,hr⟩:=h
         refine qhb (α:=Int × Int) (fun s ρ=>ρ 20=.int .i64 s.1∧ρ 21=.int .i64 s.2∧ρ 0=.slice d_0.a d_0.len d_0.cap∧ρ 1=.int .i64 i_1∧ρ 2=.int .i64 t2∧ρ 3=.int .i64 t3∧ρ 4=.func (.func 41) ⟨[]⟩ ⟨[]⟩∧ρ 18=.int .i64 t18∧ρ 19=.int .i64 t19∧ρ 22=.int .i64 t22) (fun s w=>I s.1 s.2 w) (fun s w=>μ s.1 s.2 w) (t20,t21) ⟨rfl,rfl,rfl,rfl,rfl,rfl,rfl,rfl,rfl,rfl⟩ hI ?_
         rintro ⟨t20,t21⟩ ρ w ⟨e20,e21,e0,e1,e2,e3,e4,e18,e19,e22⟩ hI
         have h:=hr t20 t21 w hI
         clear hr
         obtain ⟨nx1,hnx⟩:∃ nx:Sl→Int→Int→Int→Int→Int→Int→Int→Int→World→Prop,nx=(fun d_0' i_1' t2' t3' t18' t19' t22' t20' t21' w'=>(d_0'=d_0∧i_1'=i_1∧t2'=t2∧t3'=t3∧t18'=t18∧t19'=t19∧t22'=t22)∧I t20' t21' w'∧μ t20' t21' w' < μ t20 t21 w):=⟨_,rfl⟩
         rw [← hnx] at h
         refine qob (M:=fun ρ w=>asL (ρ 0) fun d_0=>asI .i64 (ρ 1) fun i_1=>asI .i64 (ρ 2) fun t2=>asI .i64 (ρ 3) fun t3=>qth 41 (ρ 4) <| asI .i64 (ρ 18) fun t18=>asI .i64 (ρ 19) fun t19=>asI .i64 (ρ 22) fun t22=>asI .i64 (ρ 20) fun t20=>asI .i64 (ρ 21) fun t21=>nx1 d_0 i_1 t2 t3 t18 t19 t22 t20 t21 w) ?_ (fun ρ w h=>?_)
         · skip
           refine qb e0 (qb (qa e1 rfl) (qb (qa (qa e2 rfl) rfl) (qb (qa (qa (qa e3 rfl) rfl) rfl) (qb (qa (qa (qa (qa e4 rfl) rfl) rfl) rfl) (qb (qa (qa (qa (qa (qa e18 rfl) rfl) rfl) rfl) rfl) (qb (qa (qa (qa (qa (qa (qa e19 rfl) rfl) rfl) rfl) rfl) rfl) (qb (qa (qa (qa (qa (qa (qa (qa e20 rfl) rfl) rfl) rfl) rfl) rfl) rfl) (qb (qa (qa (qa (qa (qa (qa (qa (qa e21 rfl) rfl) rfl) rfl) rfl) rfl) rfl) rfl) (qb (qa (qa (qa (qa (qa (qa (qa (qa (qa e22 rfl) rfl) rfl) rfl) rfl) rfl) rfl) rfl) rfl) ?_)))))))))
           exact qg qpb _ (Eq.mp (by kernel_rfl) h)
         · skip
           obtain ⟨d_0',e0',h⟩:=qj h
           obtain ⟨i_1',e1',h⟩:=qe h
           obtain ⟨t2',e2',h⟩:=qe h
           obtain ⟨t3',e3',h⟩:=qe h
           obtain ⟨e4',h⟩:=qsc h
           obtain ⟨t18',e18',h⟩:=qe h
           obtain ⟨t19',e19',h⟩:=qe h
           obtain ⟨t22',e22',h⟩:=qe h
           obtain ⟨t20',e20',h⟩:=qe h
           obtain ⟨t21',e21',h⟩:=qe h
           rw [hnx] at h
           obtain ⟨hu,hI2,hμ⟩:=h
           obtain ⟨rfl,rfl,rfl,rfl,rfl,rfl,rfl⟩:=hu
           exact ⟨(t20',t21'),⟨e20',e21',e0',e1',e2',e3',e4',e18',e19',e22'⟩,hI2,hμ⟩
       · intro ρ w h
         obtain ⟨d_0,e0,h⟩:=qj h
         obtain ⟨i_1,e1,h⟩:=qe h
         obtain ⟨t2,e2,h⟩:=qe h
         obtain ⟨t3,e3,h⟩:=qe h
         obtain ⟨e4,h⟩:=qsc h
         obtain ⟨t18,e18,h⟩:=qe h
         obtain ⟨t19,e19,h⟩:=qe h
         obtain ⟨t20,e20,h⟩:=qe h
         refine qb e0 (qb (qa e1 rfl) (qb (qa (qa e2 rfl) rfl) (qb (qa (qa (qa e3 rfl) rfl) rfl) (qb (qa (qa (qa (qa e4 rfl) rfl) rfl) rfl) (qb (qa (qa (qa (qa (qa e18 rfl) rfl) rfl) rfl) rfl) (qb (qa (qa (qa (qa (qa (qa e19 rfl) rfl) rfl) rfl) rfl) rfl) (qb (qa (qa (qa (qa (qa (qa (qa e20 rfl) rfl) rfl) rfl) rfl) rfl) rfl) ?_)))))))
         refine qib qpb (fun ρ w=>asL (ρ 0) fun d_0=>asI .i64 (ρ 1) fun i_1=>asI .i64 (ρ 3) fun t3=>qth 41 (ρ 4) <| asI .i64 (ρ 18) fun t18=>asI .i64 (ρ 20) fun t20=>asI .i64 (ρ 24) fun t24=>qc.j7 d_0 i_1 t3 t18 t20 t24 Q w) (Eq.mp (by kernel_rfl) h) ?_
         intro ρ w h
         obtain ⟨d_0,e0,h⟩:=qj h
         obtain ⟨i_1,e1,h⟩:=qe h
         obtain ⟨t3,e3,h⟩:=qe h
         obtain ⟨e4,h⟩:=qsc h
         obtain ⟨t18,e18,h⟩:=qe h
         obtain ⟨t20,e20,h⟩:=qe h
         obtain ⟨t24,e24,h⟩:=qe h
         refine qb e0 (qb (qa e1 rfl) (qb (qa (qa e3 rfl) rfl) (qb (qa (qa (qa e4 rfl) rfl) rfl) (qb (qa (qa (qa (qa e18 rfl) rfl) rfl) rfl) (qb (qa (qa (qa (qa (qa e20 rfl) rfl) rfl) rfl) rfl) (qb (qa (qa (qa (qa (qa (qa e24 rfl) rfl) rfl) rfl) rfl) rfl) ?_))))))
         refine qr (fun ρ w=>asL (ρ 0) fun d_0=>asI .i64 (ρ 3) fun t3=>qth 41 (ρ 4) <| asI .i64 (ρ 18) fun t18=>asI .i64 (ρ 24) fun t24=>qc.j8 d_0 t3 t18 t24 Q w) ?_ ?_
         · skip
           exact qg qpb _ (Eq.mp (by kernel_rfl) h)
         · intro ρ w h
           obtain ⟨d_0,e0,h⟩:=qj h
           obtain ⟨t3,e3,h⟩:=qe h
           obtain ⟨e4,h⟩:=qsc h
           obtain ⟨t18,e18,h⟩:=qe h
           obtain ⟨t24,e24,h⟩:=qe h
           refine qb e0 (qb (qa e3 rfl) (qb (qa (qa e4 rfl) rfl) (qb (qa (qa (qa e18 rfl) rfl) rfl) (qb (qa (qa (qa (qa e24 rfl) rfl) rfl) rfl) ?_))))
           exact qg qpb _ (Eq.mp (by kernel_rfl) h)
def qf.j6 (data_0:Sl) (n_1:Int) (blockSize_6 a_7:Int) (Q:VWP) (nx1:Sl→Int→Int→World→Prop) (w:World):Prop :=
 lt (IntKind.i64.wrap (a_7+blockSize_6)) fun x1 =>
 br (decide ((x1:Int) < n_1)) (
 Calls Try.prog 136 ⟨[.slice data_0.a data_0.len data_0.cap,.int .i64 a_7,.int .i64 x1,.int .i64 n_1,.func (.func 41) ⟨[]⟩ ⟨[]⟩]⟩ w fun e2 w3 =>
 e2=.returned (.tuple ⟨[]⟩) ∧
 lt (IntKind.i64.wrap (blockSize_6 * 2)) fun x4 =>
 nx1 data_0 n_1 x4 w3) (
 lt (IntKind.i64.wrap (blockSize_6 * 2)) fun x5 =>
 nx1 data_0 n_1 x5 w)
def qf.b2 (data_0:Sl) (n_1:Int) (blockSize_6 a_7 b_8:Int) (Q:VWP) (nx1:Sl→Int→Int→World→Prop) (nx2:Sl→Int→Int→Int→Int→World→Prop) (w:World):Prop :=
 br (decide ((b_8:Int)≤n_1)) (
 lt (IntKind.i64.wrap (a_7+blockSize_6)) fun x6 =>
 Calls Try.prog 136 ⟨[.slice data_0.a data_0.len data_0.cap,.int .i64 a_7,.int .i64 x6,.int .i64 b_8,.func (.func 41) ⟨[]⟩ ⟨[]⟩]⟩ w fun e7 w8 =>
 e7=.returned (.tuple ⟨[]⟩) ∧
 lt (IntKind.i64.wrap (2 * blockSize_6)) fun x9 =>
 lt (IntKind.i64.wrap (b_8+x9)) fun x10 =>
 nx2 data_0 n_1 blockSize_6 b_8 x10 w8) (
 qf.j6 data_0 n_1 blockSize_6 a_7 Q nx1 w)
def qf.l2 (data_0:Sl) (n_1:Int) (blockSize_6 a_7 b_8:Int) (Q:VWP) (nx1:Sl→Int→Int→World→Prop) (w:World):Prop :=
 ∃ (I:Int→Int→World→Prop) (μ:Int→Int→World→Nat),I a_7 b_8 w∧∀ a_7:Int,∀ b_8:Int,∀ w:World,I a_7 b_8 w→qf.b2 data_0 n_1 blockSize_6 a_7 b_8 Q nx1 (fun data_0' n_1' blockSize_6' a_7' b_8' w'=>(data_0'=data_0∧n_1'=n_1∧blockSize_6'=blockSize_6)∧I a_7' b_8' w'∧μ a_7' b_8' w' < μ a_7 b_8 w) w
def qf.j5 (data_0:Sl) (n_1:Int) (blockSize_6 a_7 b_8:Int) (Q:VWP) (nx1:Sl→Int→Int→World→Prop) (w:World):Prop :=
 qf.l2 data_0 n_1 blockSize_6 a_7 b_8 Q nx1 w
def qf.j4 (data_0:Sl) (n_1:Int) (blockSize_6:Int) (Q:VWP) (nx1:Sl→Int→Int→World→Prop) (w:World):Prop :=
 lt (IntKind.i64.wrap (2 * blockSize_6)) fun x11 =>
 qf.j5 data_0 n_1 blockSize_6 0 x11 Q nx1 w
def qf.b1 (data_0:Sl) (n_1:Int) (blockSize_6:Int) (Q:VWP) (nx1:Sl→Int→Int→World→Prop) (w:World):Prop :=
 br (decide ((blockSize_6:Int) < n_1)) (
 qf.j4 data_0 n_1 blockSize_6 Q nx1 w) (
 Q (.tuple ⟨[]⟩) w)
def qf.l1 (data_0:Sl) (n_1:Int) (blockSize_6:Int) (Q:VWP) (w:World):Prop :=
 ∃ (I:Int→World→Prop) (μ:Int→World→Nat),I blockSize_6 w∧∀ blockSize_6:Int,∀ w:World,I blockSize_6 w→qf.b1 data_0 n_1 blockSize_6 Q (fun data_0' n_1' blockSize_6' w'=>(data_0'=data_0∧n_1'=n_1)∧I blockSize_6' w'∧μ blockSize_6' w' < μ blockSize_6 w) w
def qf.j3 (data_0:Sl) (n_1:Int) (blockSize_6:Int) (Q:VWP) (w:World):Prop :=
 qf.l1 data_0 n_1 blockSize_6 Q w
def qf.j2 (data_0:Sl) (n_1:Int) (blockSize_6 a_7:Int) (Q:VWP) (w:World):Prop :=
 Calls Try.prog 135 ⟨[.slice data_0.a data_0.len data_0.cap,.int .i64 a_7,.int .i64 n_1,.func (.func 41) ⟨[]⟩ ⟨[]⟩]⟩ w fun e12 w13 =>
 e12=.returned (.tuple ⟨[]⟩) ∧
 qf.j3 data_0 n_1 blockSize_6 Q w13
def qf.b3 (data_0:Sl) (n_1:Int) (blockSize_6 a_7 b_8:Int) (Q:VWP) (nx3:Sl→Int→Int→Int→Int→World→Prop) (w:World):Prop :=
 br (decide ((b_8:Int)≤n_1)) (
 Calls Try.prog 135 ⟨[.slice data_0.a data_0.len data_0.cap,.int .i64 a_7,.int .i64 b_8,.func (.func 41) ⟨[]⟩ ⟨[]⟩]⟩ w fun e14 w15 =>
 e14=.returned (.tuple ⟨[]⟩) ∧
 lt (IntKind.i64.wrap (b_8+blockSize_6)) fun x16 =>
 nx3 data_0 n_1 blockSize_6 b_8 x16 w15) (
 qf.j2 data_0 n_1 blockSize_6 a_7 Q w)
def qf.l3 (data_0:Sl) (n_1:Int) (blockSize_6 a_7 b_8:Int) (Q:VWP) (w:World):Prop :=
 ∃ (I:Int→Int→World→Prop) (μ:Int→Int→World→Nat),I a_7 b_8 w∧∀ a_7:Int,∀ b_8:Int,∀ w:World,I a_7 b_8 w→qf.b3 data_0 n_1 blockSize_6 a_7 b_8 Q (fun data_0' n_1' blockSize_6' a_7' b_8' w'=>(data_0'=data_0∧n_1'=n_1∧blockSize_6'=blockSize_6)∧I a_7' b_8' w'∧μ a_7' b_8' w' < μ a_7 b_8 w) w
def qf.j1 (data_0:Sl) (n_1:Int) (blockSize_6 a_7 b_8:Int) (Q:VWP) (w:World):Prop :=
 qf.l3 data_0 n_1 blockSize_6 a_7 b_8 Q w
def qf (data_0:Sl) (n_1:Int) (Q:VWP) (w:World):Prop :=
 qf.j1 data_0 n_1 20 0 20 Q w
theorem qf.ok (data_0:Sl) (n_1:Int) (Q:VWP) (w:World) (h:qf data_0 n_1 Q w):Calls Try.prog 89 ⟨[.slice data_0.a data_0.len data_0.cap,.int .i64 n_1,.func (.func 41) ⟨[]⟩ ⟨[]⟩]⟩ w (Ret Q):=by
 refine qn [] Try.func89 rfl rfl rfl rfl ?_
 refine qib qpb (fun ρ w=>asL (ρ 0) fun data_0=>asI .i64 (ρ 1) fun n_1=>qth 41 (ρ 2) <| asI .i64 (ρ 6) fun blockSize_6=>asI .i64 (ρ 7) fun a_7=>asI .i64 (ρ 8) fun b_8=>qf.j1 data_0 n_1 blockSize_6 a_7 b_8 Q w) (Eq.mp (by kernel_rfl) h) ?_
 intro ρ w h
 obtain ⟨data_0,e0,h⟩:=qj h
 obtain ⟨n_1,e1,h⟩:=qe h
 obtain ⟨e2,h⟩:=qsc h
 obtain ⟨blockSize_6,e6,h⟩:=qe h
 obtain ⟨a_7,e7,h⟩:=qe h
 obtain ⟨b_8,e8,h⟩:=qe h
 refine qb e0 (qb (qa e1 rfl) (qb (qa (qa e2 rfl) rfl) (qb (qa (qa (qa e6 rfl) rfl) rfl) (qb (qa (qa (qa (qa e7 rfl) rfl) rfl) rfl) (qb (qa (qa (qa (qa (qa e8 rfl) rfl) rfl) rfl) rfl) ?_)))))
 refine qr (fun ρ w=>asL (ρ 0) fun data_0=>asI .i64 (ρ 1) fun n_1=>qth 41 (ρ 2) <| asI .i64 (ρ 6) fun blockSize_6=>asI .i64 (ρ 7) fun a_7=>qf.j2 data_0 n_1 blockSize_6 a_7 Q w) ?_ ?_
 · skip
   refine qcb ?_
   obtain ⟨I,μ,hI,hr⟩:=h
   refine qhb (α:=Int × Int) (fun s ρ=>ρ 7=.int .i64 s.1∧ρ 8=.int .i64 s.2∧ρ 0=.slice data_0.a data_0.len data_0.cap∧ρ 1=.int .i64 n_1∧ρ 2=.func (.func 41) ⟨[]⟩ ⟨[]⟩∧ρ 6=.int .i64 blockSize_6) (fun s w=>I s.1 s.2 w) (fun s w=>μ s.1 s.2 w) (a_7,b_8) ⟨rfl,rfl,rfl,rfl,rfl,rfl⟩ hI ?_
   rintro ⟨a_7,b_8⟩ ρ w ⟨e7,e8,e0,e1,e2,e6⟩ hI
   have h:=hr a_7 b_8 w hI
   clear hr
   obtain ⟨nx3,hnx⟩:∃ nx:Sl→Int→Int→Int→Int→World→Prop,nx=(fun data_0' n_1' blockSize_6' a_7' b_8' w'=>(data_0'=data_0∧n_1'=n_1∧blockSize_6'=blockSize_6)∧I a_7' b_8' w'∧μ a_7' b_8' w' < μ a_7 b_8 w):=⟨_,rfl⟩
   rw [← hnx] at h
   refine qob (M:=fun ρ w=>asL (ρ 0) fun data_0=>asI .i64 (ρ 1) fun n_1=>qth 41 (ρ 2) <| asI .i64 (ρ 6) fun blockSize_6=>asI .i64 (ρ 7) fun a_7=>asI .i64 (ρ 8) fun b_8=>nx3 data_0 n_1 blockSize_6 a_7 b_8 w) ?_ (fun ρ w h=>?_)
   · skip
     refine qb e0 (qb (qa e1 rfl) (qb (qa (qa e2 rfl) rfl) (qb (qa (qa (qa e6 rfl) rfl) rfl) (qb (qa (qa (qa (qa e7 rfl) rfl) rfl) rfl) (qb (qa (qa (qa (qa (qa e8 rfl) rfl) rfl) rfl) rfl) ?_)))))
     exact qg qpb _ (Eq.mp (by kernel_rfl) h)
   · skip
     obtain ⟨data_0',e0',h⟩:=qj h
     obtain ⟨n_1',e1',h⟩:=qe h
     obtain ⟨e2',h⟩:=qsc h
     obtain ⟨blockSize_6',e6',h⟩:=qe h
     obtain ⟨a_7',e7',h⟩:=qe h
     obtain ⟨b_8',e8',h⟩:=qe h
     rw [hnx] at h
     obtain ⟨hu,hI2,hμ⟩:=h
     obtain ⟨rfl,rfl,rfl⟩:=hu
     exact ⟨(a_7',b_8'),⟨e7',e8',e0',e1',e2',e6'⟩,hI2,hμ⟩
 · intro ρ w h
   obtain ⟨data_0,e0,h⟩:=qj h
   obtain ⟨n_1,e1,h⟩:=qe h
   obtain ⟨e2,h⟩:=qsc h
   obtain ⟨blockSize_6,e6,h⟩:=qe h
   obtain ⟨a_7,e7,h⟩:=qe h
   refine qb e0 (qb (qa e1 rfl) (qb (qa (qa e2 rfl) rfl) (qb (qa (qa (qa e6 rfl) rfl) rfl) (qb (qa (qa (qa (qa e7 rfl) rfl) rfl) rfl) ?_))))
   refine qr (fun ρ w=>asL (ρ 0) fun data_0=>asI .i64 (ρ 1) fun n_1=>qth 41 (ρ 2) <| asI .i64 (ρ 6) fun blockSize_6=>qf.j3 data_0 n_1 blockSize_6 Q w) ?_ ?_
   · skip
     exact qg qpb _ (Eq.mp (by kernel_rfl) h)
   · intro ρ w h
     obtain ⟨data_0,e0,h⟩:=qj h
     obtain ⟨n_1,e1,h⟩:=qe h
     obtain ⟨e2,h⟩:=qsc h
     obtain ⟨blockSize_6,e6,h⟩:=qe h
     refine qb e0 (qb (qa e1 rfl) (qb (qa (qa e2 rfl) rfl) (qb (qa (qa (qa e6 rfl) rfl) rfl) ?_)))
     refine qcb ?_
     obtain ⟨I,μ,hI,hr⟩:=h
     refine qhb (α:=Int) (fun s ρ=>ρ 6=.int .i64 s∧ρ 0=.slice data_0.a data_0.len data_0.cap∧ρ 1=.int .i64 n_1∧ρ 2=.func (.func 41) ⟨[]⟩ ⟨[]⟩) (fun s w=>I s w) (fun s w=>μ s w) blockSize_6 ⟨rfl,rfl,rfl,rfl⟩ hI ?_
     rintro blockSize_6 ρ w ⟨e6,e0,e1,e2⟩ hI
     have h:=hr blockSize_6 w hI
     clear hr
     obtain ⟨nx1,hnx⟩:∃ nx:Sl→Int→Int→World→Prop,nx=(fun data_0' n_1' blockSize_6' w'=>(data_0'=data_0∧n_1'=n_1)∧I blockSize_6' w'∧μ blockSize_6' w' < μ blockSize_6 w):=⟨_,rfl⟩
     rw [← hnx] at h
     refine qob (M:=fun ρ w=>asL (ρ 0) fun data_0=>asI .i64 (ρ 1) fun n_1=>qth 41 (ρ 2) <| asI .i64 (ρ 6) fun blockSize_6=>nx1 data_0 n_1 blockSize_6 w) ?_ (fun ρ w h=>?_)
     · skip
       refine qb e0 (qb (qa e1 rfl) (qb (qa (qa e2 rfl) rfl) (qb (qa (qa (qa e6 rfl) rfl) rfl) ?_)))
       refine qr (fun ρ w=>asL (ρ 0) fun data_0=>asI .i64 (ρ 1) fun n_1=>qth 41 (ρ 2) <| asI .i64 (ρ 6) fun blockSize_6=>qf.j4 data_0 n_1 blockSize_6 Q nx1 w) ?_ ?_
       · skip
         exact qg qpb _ (Eq.mp (by kernel_rfl) h)
       · intro ρ w h
         obtain ⟨data_0,e0,h⟩:=qj h
         obtain ⟨n_1,e1,h⟩:=qe h
         obtain ⟨e2,h⟩:=qsc h
         obtain ⟨blockSize_6,e6,h⟩:=qe h
         refine qb e0 (qb (qa e1 rfl) (qb (qa (qa e2 rfl) rfl) (qb (qa (qa (qa e6 rfl) rfl) rfl) ?_)))
         refine qcb ?_
         refine qr (fun ρ w=>asL (ρ 0) fun data_0=>asI .i64 (ρ 1) fun n_1=>qth 41 (ρ 2) <| asI .i64 (ρ 6) fun blockSize_6=>asI .i64 (ρ 7) fun a_7=>asI .i64 (ρ 8) fun b_8=>qf.j5 data_0 n_1 blockSize_6 a_7 b_8 Q nx1 w) ?_ ?_
         · skip
           exact qg qpb _ (Eq.mp (by kernel_rfl) h)
         · intro ρ w h
           obtain ⟨data_0,e0,h⟩:=qj h
           obtain ⟨n_1,e1,h⟩:=qe h
           obtain ⟨e2,h⟩:=qsc h
           obtain ⟨blockSize_6,e6,h⟩:=qe h
           obtain ⟨a_7,e7,h⟩:=qe h
           obtain ⟨b_8,e8,h⟩:=qe h
           refine qb e0 (qb (qa e1 rfl) (qb (qa (qa e2 rfl) rfl) (qb (qa (qa (qa e6 rfl) rfl) rfl) (qb (qa (qa (qa (qa e7 rfl) rfl) rfl) rfl) (qb (qa (qa (qa (qa (qa e8 rfl) rfl) rfl) rfl) rfl) ?_)))))
           refine qr (fun ρ w=>asL (ρ 0) fun data_0=>asI .i64 (ρ 1) fun n_1=>qth 41 (ρ 2) <| asI .i64 (ρ 6) fun blockSize_6=>asI .i64 (ρ 7) fun a_7=>qf.j6 data_0 n_1 blockSize_6 a_7 Q nx1 w) ?_ ?_
           · skip
             refine qcb ?_
             obtain ⟨I,μ,hI,hr⟩:=h
             refine qhb (α:=Int × Int) (fun s ρ=>ρ 7=.int .i64 s.1∧ρ 8=.int .i64 s.2∧ρ 0=.slice data_0.a data_0.len data_0.cap∧ρ 1=.int .i64 n_1∧ρ 2=.func (.func 41) ⟨[]⟩ ⟨[]⟩∧ρ 6=.int .i64 blockSize_6) (fun s w=>I s.1 s.2 w) (fun s w=>μ s.1 s.2 w) (a_7,b_8) ⟨rfl,rfl,rfl,rfl,rfl,rfl⟩ hI ?_
             rintro ⟨a_7,b_8⟩ ρ w ⟨e7,e8,e0,e1,e2,e6⟩ hI
             have h:=hr a_7 b_8 w hI
             clear hr
             obtain ⟨nx2,hnx⟩:∃ nx:Sl→Int→Int→Int→Int→World→Prop,nx=(fun data_0' n_1' blockSize_6' a_7' b_8' w'=>(data_0'=data_0∧n_1'=n_1∧blockSize_6'=blockSize_6)∧I a_7' b_8' w'∧μ a_7' b_8' w' < μ a_7 b_8 w):=⟨_,rfl⟩
             rw [← hnx] at h
             refine qob (M:=fun ρ w=>asL (ρ 0) fun data_0=>asI .i64 (ρ 1) fun n_1=>qth 41 (ρ 2) <| asI .i64 (ρ 6) fun blockSize_6=>asI .i64 (ρ 7) fun a_7=>asI .i64 (ρ 8) fun b_8=>nx2 data_0 n_1 blockSize_6 a_7 b_8 w) ?_ (fun ρ w h=>?_)
             · skip
               refine qb e0 (qb (qa e1 rfl) (qb (qa (qa e2 rfl) rfl) (qb (qa (qa (qa e6 rfl) rfl) rfl) (qb (qa (qa (qa (qa e7 rfl) rfl) rfl) rfl) (qb (qa (qa (qa (qa (qa e8 rfl) rfl) rfl) rfl) rfl) ?_)))))
               exact qg qpb _ (Eq.mp (by kernel_rfl) h)
             · skip
               obtain ⟨data_0',e0',h⟩:=qj h
               obtain ⟨n_1',e1',h⟩:=qe h
               obtain ⟨e2',h⟩:=qsc h
               obtain ⟨blockSize_6',e6',h⟩:=qe h
               obtain ⟨a_7',e7',h⟩:=qe h
               obtain ⟨b_8',e8',h⟩:=qe h
               rw [hnx] at h
               obtain ⟨hu,hI2,hμ⟩:=h
               obtain ⟨rfl,rfl,rfl⟩:=hu
               exact ⟨(a_7',b_8'),⟨e7',e8',e0',e1',e2',e6'⟩,hI2,hμ⟩
           · intro ρ w h
             obtain ⟨data_0,e0,h⟩:=qj h
             obtain ⟨n_1,e1,h⟩:=qe h
             obtain ⟨e2,h⟩:=qsc h
             obtain ⟨blockSize_6,e6,h⟩:=qe h
             obtain ⟨a_7,e7,h⟩:=qe h
             refine qb e0 (qb (qa e1 rfl) (qb (qa (qa e2 rfl) rfl) (qb (qa (qa (qa e6 rfl) rfl) rfl) (qb (qa (qa (qa (qa e7 rfl) rfl) rfl) rfl) ?_))))
             exact qg qpb _ (Eq.mp (by kernel_rfl) h)
     · skip
       obtain ⟨data_0',e0',h⟩:=qj h
       obtain ⟨n_1',e1',h⟩:=qe h
       obtain ⟨e2',h⟩:=qsc h
       obtain ⟨blockSize_6',e6',h⟩:=qe h
       rw [hnx] at h
       obtain ⟨hu,hI2,hμ⟩:=h
       obtain ⟨rfl,rfl⟩:=hu
       exact ⟨blockSize_6',⟨e6',e0',e1',e2'⟩,hI2,hμ⟩
def qad (x_0:Sl) (Q:VWP) (w:World):Prop :=
 Calls Try.prog 89 ⟨[.slice x_0.a x_0.len x_0.cap,.int .i64 ((x_0.len:Nat):Int),.func (.func 41) ⟨[]⟩ ⟨[]⟩]⟩ w fun e1 w2 =>
 e1=.returned (.tuple ⟨[]⟩) ∧
 Q (.tuple ⟨[]⟩) w2
theorem qad.ok (x_0:Sl) (Q:VWP) (w:World) (h:qad x_0 Q w):Calls Try.prog 40 ⟨[.slice x_0.a x_0.len x_0.cap,.func (.func 41) ⟨[]⟩ ⟨[]⟩]⟩ w (Ret Q):=by
 refine qn [] Try.func40 rfl rfl rfl rfl ?_
 exact qg qpb _ (Eq.mp (by kernel_rfl) h)
end Go.Proofs.Ythdmmmfgjmmelaa
